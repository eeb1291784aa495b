/- Texts joined by a program: Qb,Qc,Qd,Qe,Qf,Qh. -/
import Derived.Shelf.Slices.Delete
import Derived.Test.YtafamcbdaeppoaaGreatDoorE20
import Derived.Test.YtafamcbdaeppoaaGreatDoorE17
import Derived.Test.YtafamcbdaeppoaaGreatDoorE14
set_option linter.unusedSimpArgs false
set_option linter.unusedVariables false
set_option maxHeartbeats 8000000
set_option maxRecDepth 10000
namespace Go.Proofs.YtafamcbdaeppoaaGreatDoor
section
open Go.Sort Go.Lib
theorem Ds_three {x:X}{t:Nat}{h:Value}{i j:Int}{args:Array Value}(hd:Ds x [.own t h,aI i,aI j] args.toList):args=#[h,.int .i64 i,.int .i64 j]:=by
 rcases args with⟨l⟩
 rcases l with _ | ⟨a,_ | ⟨b,_ | ⟨c,_ | ⟨d,l⟩⟩⟩⟩<;>simp[Ds,D,RdL]at hd
 obtain⟨h1,h2,h3⟩:=hd
 rw[h1.1,h2,h3]
theorem deleteI_s {e t:Nat}{h:Value}{zs:List Int}{i j:Nat}(hij:i<=j) (hj:j<=zs.length) (h0:0<zs.length) :
  CallS Tryz.prog 291 [.own t h,aI i,aI j] [(t,.seq h e 1 (zs.map rI))] fun r H'=>∃h2,r=.own t h2∧H'=[(t,.seq h2 e 1 ((zs.take i++zs.drop j).map rI))]:=by
 refine⟨⟨_,Tryz.func291,by kernel_rfl,by kernel_rfl⟩,fun x args H0 hi hd=>?_⟩
 obtain rfl:=Ds_three hd
 have hs:=hi.sat _ (List.mem_cons_self)
 rcases ints_own hs with⟨rfl,rfl⟩|⟨g,cap,cur,rfl,h5,h6,h7,h8,h9⟩
 ·simp at h0
 ·refine (Any.slices_Delete_int deLays g 0 cap i j zs x.w (ints_holds h5 h9) h6 (Nat.le_trans h7 (by decide)) hij hj).mono ?_
  rintro _ _ ⟨rfl,q,rfl⟩
  have hl:(zs.take i++zs.drop j).length=zs.length-(j-i):=by simp;omega
  obtain⟨y,k1,k2,k3⟩:=seq_putRow hi (q:=q) (zs.take i++zs.drop j++List.replicate (j-i) 0) (by simp;omega) (zs.take i++zs.drop j).length (by simp) #[]
  rw[List.take_left,hl]at k3
  exact⟨y,_,.own t (.slice (some ⟨g,0,none⟩) (zs.length-(j-i)) cap),_,rfl,by rw[k1,grow_empty],k2,k3,by simp[D],_,rfl,rfl⟩
theorem clear_row {w:World}{g k:Nat}{zs:List Int}(hH:Holds (Value.int .i64) w g 0 zs.toArray) (hk:k<=zs.length) :
  w.setCells g (0+k) (List.replicate (zs.length-k) (.int .i64 0))=putRow (Value.int .i64) (Sort.ahead w 0) g 0 (zs.take k++List.replicate (zs.length-k) 0).toArray:=by
 have h1:=putRow_setCells (Value.int .i64) (Sort.ahead w 0) g 0 (List.replicate (zs.length-k) (0:Int)) zs.toArray k (by simp;omega)
 rw[List.map_replicate,show putRow (Value.int .i64) (Sort.ahead w 0) g 0 zs.toArray=w from putRow_self _ w g 0 _ hH]at h1
 rw[h1]
 congr 1
 apply Array.ext_getElem?
 intro t
 rw[lay_get? _ _ _ _ (by simp;omega)]
 simp only[List.length_replicate,List.getElem?_toArray,List.getElem?_append,List.length_take,List.getElem?_take,List.getElem?_replicate]
 by_cases a:k<=t∧t<k+(zs.length-k)
 ·have hm:min k zs.length=k:=by omega
  rw[if_pos a,hm,if_neg (by omega:¬t<k)]
 ·rw[if_neg a]
  by_cases b:t<min k zs.length
  ·rw[if_pos b,if_pos (by omega)]
  ·rw[if_neg b,if_neg (by omega)]
   exact List.getElem?_eq_none (by omega)
theorem step_val {r:Option Nat}{P:Program}{ops:Array Oper}{Q:Exit->Act->World->Prop}{o:Oper}{rest:List Oper}{act:Act}{w w':World}{v:Value}(hg:o.guard=none) (hdf:isDefer o.op=false)
  (hrun:(execOp act.eval o).run P w=.ok (.value v) w') (hn:wpListIn (fw r) 0 P ops Q rest (act.put o.dst v) w'):wpListIn (fw r) 0 P ops Q (o::rest) act w:=by
 simp only[wpListIn]
 rw[if_pos (by simp[Region.wanted,hg])]
 refine⟨fun _ _=>trivial,?_⟩
 rw[semAt_exec _ _ hdf,hrun]
 exact hn
theorem V.clearTail {r:Option Nat}{n id:Nat}{o1 o2 o3 o4:Oper}{s i a b c:Nat}{E:Env}{H:Heap}{Q:PostQ}{τ:Nat}{h:Value}{e:TypeId}{zs:List Int}{k:Nat}
  (q1:o1.op=.move (.tmp s)) (d1:o1.dst=some a) (g1:o1.guard=none) (q2:o2.op=.move (.tmp i)) (d2:o2.dst=some b) (g2:o2.guard=none)
  (q3:o3.op=.slice 24 (.tmp a) (some (.tmp b)) none none) (d3:o3.dst=some c) (g3:o3.guard=none)
  (q4:o4.op=.call { callee:=.builtin .clear,args:=#[.tmp c],argTypes:=#[24] }) (d4:o4.dst=none) (g4:o4.guard=none)
  (hab:a≠b) (his:i≠a)
  (hs:E s=.own τ h) (hi:E i=aI k) (hH:hget τ H=some (.seq h e 1 (zs.map rI))) (hk:k<zs.length)
  (hq:Q .normal (put (put (put E (some a) (.own τ h)) (some b) (aI k)) (some c) .any) (hset τ (.seq h e 1 ((zs.take k++List.replicate (zs.length-k) 0).map rI)) H)):V ⟨Tryz.prog,r,n⟩ (.region id #[o1,o2,o3,o4] false) E H Q:=by
 intro hf x act H0 ms hI he
 have hfo:=fitsOps_ok (n:=n) (ops:=[o1,o2,o3,o4]) (by simpa [fitsC]using hf)
 have f1:=hfo o1 (by simp)
 have f2:=hfo o2 (by simp)
 have f3:=hfo o3 (by simp)
 rw[d1]at f1
 rw[d2]at f2
 rw[d3]at f3
 have hI1:=hI.perm (hdel_perm (hget_app (H0:=marks ms++H0) hH)).symm
 have v0:D x (.own τ h) (act.eval (.tmp s)):=by
  have:=ev_ok he (.tmp s)
  simp only[ev]at this
  rwa [hs]at this
 have v1:D x (aI k) (act.eval (.tmp i)):=by
  have:=ev_ok he (.tmp i)
  simp only[ev]at this
  rwa [hi]at this
 have e0:act.eval (.tmp s)=h:=by simp only[D]at v0;exact v0.1
 have e1:act.eval (.tmp i)=.int .i64 k:=by simpa [D,RdL]using v1
 rcases ints_own (hI1.sat (τ,.seq h e 1 (zs.map rI)) (by simp)) with⟨rfl,rfl⟩|⟨g,cap,cur,rfl,h5,h6,h7,h8,h9⟩
 ·simp at hk
 ·have hHo:=ints_holds h5 h9
  obtain⟨y,k1,k2,k3⟩:=seq_putRow hI1 (q:=0) (zs.take k++List.replicate (zs.length-k) 0) (by simp;omega) zs.length (by simp;omega) #[]
  rw[List.take_of_length_le (by simp;omega)]at k3
  have hcw:=clear_row hHo (Nat.le_of_lt hk)
  have r1:(execOp act.eval o1).run Tryz.prog x.w=.ok (.value (.slice (some ⟨g,0,none⟩) zs.length cap)) x.w:=by
   obtain⟨dst,op,type,pos,after,guard⟩:=o1
   simp only at q1
   subst q1
   simp[execOp,e0]
  let a1:=act.put (some a) (.slice (some ⟨g,0,none⟩) zs.length cap)
  have he1:EnvOK n (ms.map mk) x a1 (put E (some a) (.own τ (.slice (some ⟨g,0,none⟩) zs.length cap))):=by
   have:=he.put f1 (a:=.own τ (.slice (some ⟨g,0,none⟩) zs.length cap)) (v:=.slice (some ⟨g,0,none⟩) zs.length cap) (by simp[D])
   exact this
  have e2:a1.eval (.tmp i)=.int .i64 k:=by
   have:=ev_ok he1 (.tmp i)
   simp only[ev,put,upd]at this
   rw[if_neg his,hi]at this
   simpa [D,RdL]using this
  have r2:(execOp a1.eval o2).run Tryz.prog x.w=.ok (.value (.int .i64 k)) x.w:=by
   obtain⟨dst,op,type,pos,after,guard⟩:=o2
   simp only at q2
   subst q2
   simp[execOp,e2]
  let a2:=a1.put (some b) (.int .i64 k)
  have he2:EnvOK n (ms.map mk) x a2 (put (put E (some a) (.own τ (.slice (some ⟨g,0,none⟩) zs.length cap))) (some b) (aI k)):=by
   have:=he1.put f2 (a:=aI k) (v:=.int .i64 k) (by simp[D,RdL])
   exact this
  have e3:a2.eval (.tmp a)=.slice (some ⟨g,0,none⟩) zs.length cap:=by
   have:=ev_ok he2 (.tmp a)
   simp only[ev,put,upd]at this
   rw[if_neg hab,if_pos trivial]at this
   simp only[D]at this
   exact this.1
  have e4:a2.eval (.tmp b)=.int .i64 k:=by
   have:=ev_ok he2 (.tmp b)
   simp only[ev,put,upd]at this
   rw[if_pos trivial]at this
   simpa [D,RdL]using this
  have r3:(execOp a2.eval o3).run Tryz.prog x.w=.ok (.value (.slice (some ⟨g,0+k,none⟩) (zs.length-k) (cap-k))) x.w:=by
   obtain⟨dst,op,type,pos,after,guard⟩:=o3
   simp only at q3
   subst q3
   show (execOp a2.eval { dst,op:=.slice 24 (.tmp a) (some (.tmp b)) none none,type,pos,after,guard }).run Tryz.prog x.w=_
   have hsl:slT Tryz.prog 24=some 3:=by kernel_rfl
   have hrun:(Instr.sliceAt 24 (a2.eval (.tmp a)) (some (a2.eval (.tmp b))) none none).run Tryz.prog x.w=.ok (.slice (some ⟨g,0+k,none⟩) (zs.length-k) (cap-k)) x.w:=by
    rw[e3,e4]
    simp only[Instr.sliceAt,Instr.slice,Sem.run_bind,run_underlying (slT_und hsl),Result.andThen_ok]
    rw[run_sliceBounds x.w (.inr ⟨_,rfl⟩) (.inl ⟨rfl,rfl⟩) (Nat.le_of_lt hk) h6]
    simp only[Result.andThen_ok,Sem.run_pure]
    rw[run_sizeOf' (show tk Tryz.prog 3≠0 by decide)]
    have hz:szT Tryz.prog 3=1:=by kernel_rfl
    rw[hz]
    simp only[Result.andThen_ok]
    rw[if_neg (by omega)]
    simp[Addr.add]
    exact fun h=>h.symm
   simp[execOp,hrun]
  let a3:=a2.put (some c) (.slice (some ⟨g,0+k,none⟩) (zs.length-k) (cap-k))
  have he3:EnvOK n (ms.map mk) x a3 (put (put (put E (some a) (.own τ (.slice (some ⟨g,0,none⟩) zs.length cap))) (some b) (aI k)) (some c) .any):=by
   have:=he2.put f3 (a:=.any) (v:=.slice (some ⟨g,0+k,none⟩) (zs.length-k) (cap-k)) (by simp[D])
   exact this
  have e5:a3.eval (.tmp c)=.slice (some ⟨g,0+k,none⟩) (zs.length-k) (cap-k):=by
   have h:=he2.put f3 (a:=.own 0 (.slice (some ⟨g,0+k,none⟩) (zs.length-k) (cap-k))) (v:=.slice (some ⟨g,0+k,none⟩) (zs.length-k) (cap-k)) (by simp[D])
   have:=ev_ok h (.tmp c)
   simp only[ev,put,upd]at this
   rw[if_pos trivial]at this
   simp only[D]at this
   exact this.1
  have r4:(execOp a3.eval o4).run Tryz.prog x.w=.ok (.value (.tuple #[])) y.w:=by
   have hcl:=fun ty=>run_clear_slice (P:=Tryz.prog) x.w 24 3 ty (.int .i64 0) (by kernel_rfl) (by intro w;rfl) rfl rfl g (0+k) (zs.length-k) (cap-k) (by omega) (fun j hj=>by rw[show 0+k+j=0+(k+j) by omega,(hHo (k+j) (by simp;omega)).1];rfl) (fun j hj=>by rw[show 0+k+j=0+(k+j) by omega];exact (hHo (k+j) (by simp;omega)).2)
   rw[hcw]at hcl
   simp only[Nat.zero_add,ahead_zero]at hcl
   obtain⟨dst,op,type,pos,after,guard⟩:=o4
   simp only at q4
   subst q4
   simp[execOp,resolve,invoke,e5,builtin,hcl,k1,grow_empty]
  refine wpIn_region_list ?_
  refine step_val g1 (by rw[q1];rfl) r1 ?_
  rw[d1]
  refine step_val g2 (by rw[q2];rfl) r2 ?_
  rw[d2]
  refine step_val g3 (by rw[q3];rfl) r3 ?_
  rw[d3]
  refine step_val g4 (by rw[q4];rfl) r4 ?_
  refine⟨y,_,_,ms,rfl,k2,?_,?_,hq⟩
  ·have k4:=k3.perm (hset_perm (hget_app (H0:=marks ms++H0) hH)).symm
   rwa [hset_app hH]at k4
  ·have:=he3.mono k2
   rw[d4]
   exact this
theorem CallS.rtT {P:Program}{k:Nat}{g:FuncId}{az:List A}{B H:Heap}{K:A->Heap->Prop}(h:CallS P g az (B++Go.Proofs.YtafamcbdaeppoaaGreatDoor.rt k H) fun r H'=>∃B',subP (B'++Go.Proofs.YtafamcbdaeppoaaGreatDoor.rt k H) H'∧K r B'):CallS P g az (B++H) fun r H'=>∃B',H'=B'++H∧K r B':=by
 refine⟨h.1,fun x args H0 hi hd=>(h.2 x args H0 (hi.ents (by simp[rt_snd])) hd).mono ?_⟩
 rintro _ _ ⟨y,v,r,H',a,b,c,d,e,B',g1,g2⟩
 exact⟨y,v,r,B'++H,a,b,c,(subP_inv g1 d).ents (by simp[rt_snd]),e,B',rfl,g2⟩
theorem CallS.rtC {P:Program}{k:Nat}{g:FuncId}{az:List A}{H:Heap}{ρ:A}(h:CallS P g az H fun r H'=>r=ρ∧H'=H):CallS P g az (Go.Proofs.YtafamcbdaeppoaaGreatDoor.rt k H) fun r H'=>r=ρ∧H'=Go.Proofs.YtafamcbdaeppoaaGreatDoor.rt k H:=by
 refine (h.rt' (k:=k)).mono ?_
 rintro r H' ⟨_,rfl,rfl,rfl⟩
 exact⟨rfl,rfl⟩
theorem idxMo_s (zs:List Int) (p:Int->Bool) (f:FuncId) (first caps:List A) (H:Heap) (h:Value) (hx:Sh zs) (hp:∀n∈zs,CallS Tryz.prog f (first++[aI n]++caps) H fun r H'=>r=aB (p n)∧H'=H) :
  CallS Tryz.prog 156 [.own 174 h,.fn f first caps] ([(174,.seq h 3 1 (zs.map rI))]++H) fun r H'=>∃B',H'=B'++H∧r=aI (idxI (zs.findIdx? p))∧B'=[(174,.seq h 3 1 (zs.map rI))]:=by
 refine CallS.rtT (k:=1000) (callS_of Tryz.func156 rfl Tryz.ntmps156 (rs:=[.tmp 4]) rfl (by kernel_rfl) (by simp) (by kernel_rfl) ?_)
 simp
 refine V.for' [0,1,7] (fun i:Nat=>[(8,aI i)]) (fun _=>(174,.seq h 3 1 (zs.map rI))::rt 1000 H) (fun i=>i<=zs.length∧NoF p (zs.take i)) (fun i=>zs.length-i) 0 ⟨by simp,by simp,subP.refl _⟩ ?_
 rintro i ⟨hi,hI⟩
 by_cases hlt:i<zs.length
 ·have h1:=List.getElem?_eq_getElem hlt
  have hs:=findIdx_step (p:=p) hI h1
  have hc:=((hp zs[i] (List.getElem_mem hlt)).rtC (k:=1000)).mid [(174,.seq h 3 1 (zs.map rI))] []
  simp at hc
  simp[hlt,h1]
  refine hc.mono ?_
  rintro r H' ⟨rfl,rfl⟩
  cases e:p zs[i]
  ·simp
   exact⟨by omega,i+1,⟨hlt,hs.1 e⟩,by omega,by simp,subP.refl _⟩
  ·rw[hs.2 e]
   simp
   exact subP.refl _
 ·obtain rfl:i=zs.length:=by omega
  rw[findIdx_none hI]
  simp
  exact subP.refl _
structure KeptI (zs:List Int) (p:Int->Bool) (j i:Nat) (cur:List Int):Prop where
 len:cur.length=zs.length
 lt:i<j
 le:j<=zs.length
 pre:cur.take i=(zs.take j).filter fun n=>!p n
 post:cur.drop j=zs.drop j
theorem delF_s (zs:List Int) (p:Int->Bool) (f:FuncId) (first caps:List A) (H:Heap) (h:Value) (hx:Sh zs) (hp:∀n∈zs,CallS Tryz.prog f (first++[aI n]++caps) H fun r H'=>r=aB (p n)∧H'=H) :
  CallS Tryz.prog 287 [.own 174 h,.fn f first caps] ([(174,.seq h 3 1 (zs.map rI))]++H) fun r H'=>∃B',H'=B'++H∧∃h2,r=.own 174 h2∧B'=[(174,.seq h2 3 1 ((zs.filter fun n=>!p n).map rI))]:=by
 have hix:=idxMo_s zs p f first caps (rt 1000 H) h hx fun n hn=>(hp n hn).rtC
 refine CallS.rtT (k:=1000) (callS_cut 4 Tryz.func287 rfl Tryz.ntmps287 (rs:=[.tmp 4]) rfl (by kernel_rfl) (by simp) (by kernel_rfl) ?_)
 simp
 refine hix.mono ?_
 rintro _ _ ⟨_,rfl,rfl,rfl⟩
 cases hfi:zs.findIdx? p with
 | none=>
  have hall:=List.findIdx?_eq_none_iff.1 hfi
  have hfe:(zs.filter fun n=>!p n)=zs:=List.filter_eq_self.2 fun n hn=>by simpa using hall n hn
  simp[idxI]
  rw[hfe]
  exact subP.refl _
 | some i0=>
  obtain⟨hlt0,hpt,hpf⟩:=List.findIdx?_eq_some_iff_getElem.1 hfi
  simp
  refine⟨by omega,?_⟩
  refine V.for' [0,1,4] (fun q:Nat×Nat×List Int=>[(5,aI q.2.1),(6,aI q.1)]) (fun q=>(174,.seq h 3 1 (q.2.2.map rI))::rt 1000 H) (fun q=>KeptI zs p q.1 q.2.1 q.2.2) (fun q=>zs.length-q.1) (i0+1,i0,zs) ⟨?_,by simp,subP.refl _⟩ ?_
  ·refine⟨rfl,by simp,hlt0,?_,rfl⟩
   simp only
   rw[List.take_add_one,List.getElem?_eq_getElem hlt0,List.filter_append]
   simp only[Option.toList,List.filter_cons,hpt,Bool.not_true,List.filter_nil,Bool.false_eq_true,if_false,List.append_nil]
   refine (List.filter_eq_self.2 fun n hn=>?_).symm
   obtain⟨j,hj,rfl⟩:=List.getElem_of_mem hn
   rw[List.length_take]at hj
   rw[List.getElem_take]
   have:=hpf j (by omega)
   simpa using this
  ·rintro⟨j,i,cur⟩ hK
   simp only at hK
   obtain⟨k1,k2,k3,k4,k5⟩:=hK
   by_cases hlt:j<zs.length
   ·have hj1:cur[j]?=some zs[j]:=by
     have h1:=congrArg (fun l=>l[0]?) k5
     simp only[List.getElem?_drop,Nat.add_zero]at h1
     rw[h1,List.getElem?_eq_getElem hlt]
    obtain⟨hjc,hj2⟩:=List.getElem?_eq_some_iff.1 hj1
    obtain⟨v,hv⟩:∃v,zs[j]=v:=⟨_,rfl⟩
    rw[hv]at hj1 hj2
    have hvm:v∈zs:=by rw[<- hv];exact List.getElem_mem hlt
    have hic:i<cur.length:=by omega
    have hc:=((hp v hvm).rtC (k:=1000)).mid [(174,.seq h 3 1 (cur.map rI))] []
    simp at hc
    simp[k1,hlt,hj1,hj2]
    refine hc.mono ?_
    rintro r H' ⟨rfl,rfl⟩
    have hio:cur[i]?=some cur[i]:=List.getElem?_eq_getElem hic
    have htk:zs.take (j+1)=zs.take j++[v]:=by rw[List.take_add_one,List.getElem?_eq_getElem hlt,hv];rfl
    have hpost:∀(l:List Int),l.drop j=zs.drop j->l.drop (j+1)=zs.drop (j+1):=fun l hl=>by
     have:=congrArg (List.drop 1) hl
     simpa [List.drop_drop,Nat.add_comm]using this
    cases e:p v
    ·have hset:((cur.map rI).set i [aI v])=(cur.set i v).map rI:=by rw[List.map_set]
     simp[hic,hio]
     refine⟨by omega,by omega,j+1,i+1,cur.set i v,⟨by simp[k1],by omega,by omega,?_,?_⟩,by omega,⟨by omega,by omega⟩,?_⟩
     ·rw[htk,List.filter_append,<- k4,List.take_add_one]
      simp[e,List.getElem?_set,hic,List.take_set]
      exact List.set_eq_of_length_le (by simp;omega)
     ·refine hpost _ ?_
      rw[List.drop_set,if_pos (by omega)]
      exact k5
     ·rw[<- hset]
      exact subP.refl _
    ·simp
     refine⟨by omega,j+1,i,cur,⟨k1,by omega,by omega,?_,hpost _ k5⟩,by omega,⟨rfl,by omega⟩,subP.refl _⟩
     rw[htk,List.filter_append,<- k4]
     simp[e]
   ·have hj:j=zs.length:=by omega
    subst hj
    simp[k1]
    refine V.seqV (V.clearTail (s:=0) (i:=5) (a:=36) (b:=37) (c:=38) (τ:=174) (h:=h) (e:=3) (zs:=cur) (k:=i) rfl rfl rfl rfl rfl rfl rfl rfl rfl rfl rfl rfl (by decide) (by decide) (by simp) (by simp) (by simp) (by omega) ?_)
    refine V.of_vc ?_
    simp
    intro u
    refine⟨by omega,?_⟩
    have hfin:List.take i (List.take i (List.map rI cur)++List.replicate (cur.length-i) (rI 0))=List.map rI (List.filter (fun n=>!p n) zs):=by
     rw[List.take_append_of_le_length (by simp;omega),List.take_take,Nat.min_self,<- List.map_take,k4,List.take_length]
    rw[hfin]
    exact subP.refl _
end
theorem find_idx {α:Type}(p:α->Bool):∀l:List α,l.find? p=(l.findIdx? p).bind fun k=>l[k]?
 | []=>rfl
 | x::l=>by
  rw[List.find?_cons,List.findIdx?_cons]
  cases p x
  ·simp only[Bool.false_eq_true,if_false]
   rw[find_idx p l]
   cases l.findIdx? p<;>simp
  ·simp
theorem filter_ne {α:Type} [BEq α] [LawfulBEq α]:∀(l:List α) (k:Nat) (hk:k<l.length),l.Nodup->(l.filter fun y=>!(l[k]==y))=l.take k++l.drop (k+1)
 | [],k,hk,_=>by simp at hk
 | x::l,0,_,hn=>by
  simp only[List.getElem_cons_zero,List.take_zero,List.nil_append,List.drop_succ_cons,List.drop_zero]
  rw[List.filter_cons]
  simp only[BEq.rfl,Bool.not_true,Bool.false_eq_true,if_false]
  refine List.filter_eq_self.2 fun y hy=>?_
  have:=(List.nodup_cons.1 hn).1
  simp only[Bool.not_eq_true',beq_eq_false_iff_ne,ne_eq]
  rintro rfl
  exact this hy
 | x::l,k+1,hk,hn=>by
  have hk':k<l.length:=by simpa using hk
  have hn':=List.nodup_cons.1 hn
  simp only[List.getElem_cons_succ,List.take_succ_cons,List.cons_append,List.drop_succ_cons]
  rw[List.filter_cons,if_pos (by
   simp only[Bool.not_eq_true',beq_eq_false_iff_ne,ne_eq]
   rintro e
   exact hn'.1 (e▸List.getElem_mem hk')),filter_ne l k hk' hn'.2]
theorem restZ_nodup (ps:List Prt) (nets:List (List PortZ)) (order:List Nat):(restZ ps nets order).Nodup:=List.Nodup.sublist List.filter_sublist List.nodup_range
theorem restZ_app (ps:List Prt) (nets:List (List PortZ)) (order:List Nat) {k:Nat}(hk:k<(restZ ps nets order).length) :
  restZ ps nets (order++[(restZ ps nets order)[k]])=(restZ ps nets order).take k++(restZ ps nets order).drop (k+1):=by
 rw[<- filter_ne _ k hk (restZ_nodup ps nets order)]
 generalize (restZ ps nets order)[k]=a
 unfold restZ
 rw[List.filter_filter]
 congr 1
 funext i
 rw[List.any_append]
 simp only[List.any_cons,List.any_nil,Bool.or_false,Bool.not_or]
 have e:(i==a)=(a==i):=by rw[Bool.eq_iff_iff];simp only[beq_iff_eq];exact eq_comm
 rw[e]
 cases countsI ps nets i<;>cases (order.any fun x=>i==x)<;>cases (a==i)<;>rfl
structure OrdI (ps:List Prt) (d:List Drv) (nets:List (List PortZ)) (n:Nat) (order rest:List Nat):Prop where
 ord:order=orderN ps d nets n
 rst:rest=restZ ps nets order
 len:order.length=n
 all:n+rest.length=manyC ps nets
theorem OrdI.zero (ps:List Prt) (d:List Drv) (nets:List (List PortZ)):OrdI ps d nets 0 [] (restZ ps nets []):=⟨rfl,rfl,rfl,by simp[manyC]⟩
theorem OrdI.next {ps:List Prt}{d:List Drv}{nets:List (List PortZ)}{n:Nat}{order rest:List Nat}(h:OrdI ps d nets n order rest) {k:Nat}(hk:rest.findIdx? (readyZ ps d nets order)=some k) :
  ∃hkl:k<rest.length,OrdI ps d nets (n+1) (order++[rest[k]]) (rest.take k++rest.drop (k+1)):=by
 obtain⟨h1,h2,h3,h4⟩:=h
 obtain⟨hkl,_⟩:=List.findIdx?_eq_some_iff_getElem.1 hk
 have hnx:nextZ ps d nets order=some rest[k]:=by
  unfold nextZ
  rw[<- h2,find_idx,hk]
  simp[hkl]
 refine⟨hkl,?_,?_,by simp[h3],?_⟩
 ·show _=match nextZ ps d nets (orderN ps d nets n) with
   | some i=>orderN ps d nets n++[i]
   | none=>orderN ps d nets n
  rw[<- h1,hnx]
 ·subst h2
  rw[restZ_app ps nets order hkl]
 ·rw[List.length_append,List.length_take,List.length_drop]
  omega
theorem OrdI.stop {ps:List Prt}{d:List Drv}{nets:List (List PortZ)}{n:Nat}{order rest:List Nat}(h:OrdI ps d nets n order rest) (hk:rest.findIdx? (readyZ ps d nets order)=none):∀m,orderN ps d nets (n+m)=order
 | 0=>h.ord.symm
 | m+1=>by
  have ih:=OrdI.stop h hk m
  have hnx:nextZ ps d nets order=none:=by
   unfold nextZ
   rw[<- h.rst,find_idx,hk]
   rfl
  show (match nextZ ps d nets (orderN ps d nets (n+m)) with
   | some i=>orderN ps d nets (n+m)++[i]
   | none=>orderN ps d nets (n+m))=order
  rw[ih,hnx]
def sortE (ps:List Prt) (d:List Drv) (nets:List (List PortZ)):Int:=if (orderN ps d nets (manyC ps nets)).length=manyC ps nets then 0 else 20
theorem OrdI.fail {ps:List Prt}{d:List Drv}{nets:List (List PortZ)}{n:Nat}{order rest:List Nat}(h:OrdI ps d nets n order rest) (hr:rest≠[]) (hk:rest.findIdx? (readyZ ps d nets order)=none) :
  orderN ps d nets (manyC ps nets)=order∧sortE ps d nets=20:=by
 have h1:=h.stop hk (manyC ps nets-n)
 have h2:=h.all
 have h3:=List.length_pos_iff.2 hr
 rw[show n+(manyC ps nets-n)=manyC ps nets by omega]at h1
 refine⟨h1,?_⟩
 unfold sortE
 rw[h1,if_neg]
 have:=h.len
 omega
theorem OrdI.done {ps:List Prt}{d:List Drv}{nets:List (List PortZ)}{n:Nat}{order:List Nat}(h:OrdI ps d nets n order []):orderN ps d nets (manyC ps nets)=order∧sortE ps d nets=0:=by
 have h2:=h.all
 simp only[List.length_nil,Nat.add_zero]at h2
 have h1:orderN ps d nets (manyC ps nets)=order:=by rw[<- h2];exact h.ord.symm
 refine⟨h1,?_⟩
 unfold sortE
 rw[h1,if_pos]
 have:=h.len
 omega
theorem indices_o (n:Nat) (hn:n<=1000):CallOwn Tryz.prog 210 [aI n] 3 1 ((List.range n).map rN):=by
 refine callO_of Tryz.func210 rfl Tryz.ntmps210 (rs:=[.tmp 2]) rfl (by kernel_rfl) (by simp) (by kernel_rfl) ?_
 simp
 refine V.forI (σ:=Value) n [2,5] (by simp;exact rfl) (fun i g=>[(3,.own 50 g),(6,aI i)]) (fun i g=>[(50,.seq g 3 1 ((List.range i).map rN))]) (fun _ _=>True) (.slice none 0 0) trivial (by simp) ⟨by simp;exact rfl,by simp⟩ ?_ ?_
 ·rintro i g hi -
  simp[hi,List.range_succ]
  omega
 ·rintro g -
  simp
abbrev zN (l:List Nat):List Int:=l.map fun n:Nat=>(n:Int)
theorem rN_zN (l:List Nat):l.map rN=(zN l).map rI:=by unfold zN;rw[List.map_map];rfl
theorem sort1_s {s:PlS}(h:s.OK) {i b1:Nat}(hi:i<s.ns.length):CallS Tryz.prog 288 [aI i,.ptr 1 b1 0] ((1,.box b1 [.ptr 170 s.b 0])::s.hp) fun r H'=>r=aB (!countsI s.ps s.ns i)∧H'=(1,.box b1 [.ptr 170 s.b 0])::s.hp:=by
 refine callS_of Tryz.func288 rfl Tryz.ntmps288 (rs:=[.tmp 3]) rfl (by kernel_rfl) (by simp) (by kernel_rfl) ?_
 simp
 refine ((counts_s h hi).mid [(1,_)] []).mono ?_
 rintro r H' ⟨rfl,rfl⟩
 simp
theorem PlS.OK.od {s:PlS}(h:s.OK) (a:A):({ s with od:=a }:PlS).OK:=⟨h.few,h.kinds,h.nets,h.net,h.of⟩
abbrev PlS.wo (s:PlS) (go:Value):PlS:={ s with od:=.own 173 go }
theorem rest0 (ps:List Prt) (ns:List (List PortZ)):List.map rI (List.filter (fun n=>!!countsI ps ns n.toNat) (zN (List.range ns.length)))=(restZ ps ns []).map rN:=by
 unfold zN restZ
 rw[List.filter_map,List.map_map]
 have e:((fun n:Int=>!!countsI ps ns n.toNat)∘fun n:Nat=>(n:Int))=fun i=>countsI ps ns i && !(List.any [] fun x=>i==x):=by
  funext i
  simp
 rw[e]
 rfl
theorem idxN (rest:List Nat) (p:Nat->Bool):(zN rest).findIdx? (fun n=>p n.toNat)=rest.findIdx? p:=by
 unfold zN
 rw[List.findIdx?_map]
 congr 1
theorem sort_s0 {s:PlS}(h:s.OK) {d:List Drv}(hd:s.dr=.dat (.sl (d.map encDr))) (hdl:d.length<=1000) :
  CallS Tryz.prog 203 [.ptr 170 s.b 0] ((s.wo (.slice none 0 0)).hp++[ordE (.slice none 0 0) []]) fun r H'=>
   ∃go,r=aI (sortE s.ps d s.ns)∧H'=(s.wo go).hp++[ordE go (orderN s.ps d s.ns (manyC s.ps s.ns))]:=by
 have hn:=h.nets
 have hio:=indices_o s.ns.length (by omega)
 refine CallS.dropP (callS_of Tryz.func203 rfl Tryz.ntmps203 (rs:=[.tmp 2]) rfl (by kernel_rfl) (by simp) (by kernel_rfl) (K:=fun r H'=>∃go,r=aI (sortE s.ps d s.ns)∧subP ((s.wo go).hp++[ordE go (orderN s.ps d s.ns (manyC s.ps s.ns))]) H') ?_) (fun _ _ ⟨go,h1,h2⟩=>⟨_,h2,go,h1,rfl⟩)
 simp
 intro b1
 refine hio.s 174 fun hd0=>?_
 simp
 have hdel:=delF_s (zN (List.range s.ns.length)) (fun n=>!countsI s.ps s.ns n.toNat) 288 [] [.ptr 1 b1 0] ((1,.box b1 [.ptr 170 s.b 0])::((s.wo (.slice none 0 0)).hp++[ordE (.slice none 0 0) []])) hd0 (by unfold Sh zN;simp;omega) (fun n hn=>by
  obtain⟨i,hi,rfl⟩:=List.mem_map.1 hn
  have:=(sort1_s (h.od (.own 173 (.slice none 0 0))) (b1:=b1) (List.mem_range.1 hi)).mid [] [ordE (.slice none 0 0) []]
  simp only[Int.toNat_natCast]
  exact this)
 rw[<- rN_zN,rest0]at hdel
 refine hdel.mono ?_
 rintro _ _ ⟨_,rfl,hr0,rfl,rfl⟩
 simp
 refine V.for' [1] (fun q:Nat×Value×List Nat×Value×List Nat=>[(2,aI 0),(3,.own 174 q.2.2.2.1)]) (fun q=>(174,.seq q.2.2.2.1 3 1 (q.2.2.2.2.map rN))::(1,.box b1 [.ptr 170 s.b 0])::((s.wo q.2.1).hp++[ordE q.2.1 q.2.2.1]))
  (fun q=>OrdI s.ps d s.ns q.1 q.2.2.1 q.2.2.2.2) (fun q=>q.2.2.2.2.length) (0,.slice none 0 0,[],hr0,restZ s.ps s.ns []) ⟨OrdI.zero _ _ _,by simp,subP.refl _⟩ ?_
 rintro⟨n,go,order,hr,rest⟩ hI
 simp only at hI
 have hall:=hI.all
 have hmc:manyC s.ps s.ns<=448:=by
  unfold manyC
  exact Nat.le_trans (Nat.le_trans (List.length_filter_le _ _) (by simp)) hn
 have hol:=hI.len
 by_cases hne:rest=[]
 ·subst hne
  obtain⟨e1,e2⟩:=hI.done
  rw[e1,e2]
  simp
  exact⟨go,((subP.refl _).c _).c _⟩
 ·have hpos:=List.length_pos_iff.2 hne
  have hmem:∀i∈rest,i<s.ns.length:=fun i hi=>by
   rw[hI.rst]at hi
   exact List.mem_range.1 (List.mem_filter.1 hi).1
  have hix:=idxMo_s (zN rest) (fun n=>readyZ s.ps d s.ns order n.toNat) 290 [.ptr 170 s.b 0] [] ((1,.box b1 [.ptr 170 s.b 0])::((s.wo go).hp++[ordE go order])) hr (by unfold Sh zN;simp;omega) (fun n hn=>by
   obtain⟨i,hi,rfl⟩:=List.mem_map.1 hn
   have:=(ready_s (s:=s.wo go) (h.od _) hd hdl (order:=order) (go:=go) rfl (by omega) (hmem i hi)).mid [(1,.box b1 [.ptr 170 s.b 0])] []
   simp only[Int.toNat_natCast]
   exact this)
  rw[<- rN_zN,idxN]at hix
  simp[hpos]
  refine hix.mono ?_
  rintro _ _ ⟨_,rfl,rfl,rfl⟩
  cases hk:rest.findIdx? (readyZ s.ps d s.ns order) with
  | none=>
   obtain⟨e1,e2⟩:=hI.fail hne hk
   rw[e1,e2]
   simp[idxI]
   exact⟨go,((subP.refl _).c _).c _⟩
  | some k=>
   obtain⟨hkl,hI2⟩:=hI.next hk
   obtain⟨a,ha⟩:∃a,rest[k]=a:=⟨_,rfl⟩
   have hao:rest[k]?=some a:=by rw[List.getElem?_eq_getElem hkl,ha]
   rw[ha]at hI2
   simp
   refine⟨fun hh=>by omega,?_⟩
   refine V.drawX (fun _=>none) (by kernel_rfl) (by kernel_rfl) (by simp) ?_
   simp[hkl,ha,hao]
   intro u
   have hdl2:=(deleteI_s (e:=3) (t:=174) (h:=hr) (zs:=zN rest) (i:=k) (j:=k+1) (by omega) (by unfold zN;simp;omega) (by unfold zN;simp;omega)).frame (H1:=(1,.box b1 [.ptr 170 s.b 0])::((s.wo u).hp++[(173,.seq u 3 1 (order.map rN++[[A.dat (.int .i64 (a:Int))]]))]))
   rw[<- rN_zN,show ((k+1:Nat):Int)=(k:Int)+1 from by omega]at hdl2
   refine⟨by omega,by kernel_rfl,by omega,hdl2.mono ?_⟩
   rintro r H' ⟨_,⟨h2,rfl,rfl⟩,rfl⟩
   have hrz:∀l:List Nat,l.map (rI∘fun n:Nat=>(n:Int))=l.map rN:=fun l=>rfl
   simp[hrz]
   refine⟨n+1,u,order++[a],h2,rest.take k++rest.drop (k+1),hI2,by simp;omega,rfl,?_⟩
   have ho2:ordE u (order++[a])=(173,Ent.seq u 3 1 (order.map rN++[[A.dat (.int .i64 (a:Int))]])):=by unfold ordE;rw[List.map_append];rfl
   rw[ho2]
   simp
   exact subP.refl _
theorem sort_s {s:PlS}(h:s.OK) (ho:s.od=.nils) {d:List Drv}(hd:s.dr=.dat (.sl (d.map encDr))) (hdl:d.length<=1000) :
  CallS Tryz.prog 203 [.ptr 170 s.b 0] s.hp fun r H'=>r=aI (sortE s.ps d s.ns)∧H'=({ s with od:=aNs (orderN s.ps d s.ns (manyC s.ps s.ns)) }:PlS).hp:=by
 refine CallS.inv (H':=(s.wo (.slice none 0 0)).hp++[ordE (.slice none 0 0) []]) (fun x H0 hi=>?_) (fun x vs hv=>hv) ((sort_s0 h hd hdl).frzCell ?_)
 ·have h1:Inv x ((173,.seq (.slice none 0 0) 3 1 [])::((s.wo (.slice none 0 0)).hp++H0)):=by
   refine Inv.nil ?_ ⟨rfl,rfl⟩
   refine Inv.swap (g:=170) (H:=s.hp) (e:=.box s.b s.cells) (e':=.box s.b (s.wo (.slice none 0 0)).cells) rfl (box_sat ?_) (fun b hb=>hb) hi
   unfold PlS.cells
   rw[ho]
   exact Ds_c D_i (Ds_c D_i (Ds_c D_i (Ds_c D_i (Ds_c D_i (Ds_c D_nilo Ds_i)))))
  refine h1.perm ?_
  rw[List.append_assoc]
  exact List.perm_middle
 ·rintro r H' ⟨go,rfl,rfl⟩
  refine⟨170,173,s.b,5,173,go,3,1,(orderN s.ps d s.ns (manyC s.ps s.ns)).map rN,(s.wo go).cells,rfl,rfl,allD_n _,rfl,rfl,?_⟩
  rw[rowsD_n]
  rfl
theorem variable_fn (n:Int):CallFn Tryz.prog 296 [aI n] (aE (varE n)):=by
 refine callFz_of Tryz.func296 rfl Tryz.ntmps296 (rs:=[.cell 2 61]) rfl (by kernel_rfl) (by simp) (by kernel_rfl) ?_
 simp[varE,encE_eq]
theorem opposite_fn (x:Expr):CallFn Tryz.prog 209 [aE x] (aE (notE x)):=by
 obtain⟨o,n,l⟩:=x
 refine callFz_of Tryz.func209 rfl Tryz.ntmps209 (rs:=[.cell 2 61]) rfl (by kernel_rfl) (by simp) (by kernel_rfl) ?_
 simp[notE,encE_eq]
theorem several_fn (op:Int) (l:List Expr) (hl:l.length<=4294967296):CallFn Tryz.prog 295 [aI op,.dat (.sl (l.map encE))] (aE (sevE op l)):=by
 refine callFz_of Tryz.func295 rfl Tryz.ntmps295 (rs:=[.cell 4 61]) rfl (by kernel_rfl) (by simp) (by kernel_rfl) ?_
 cases l with
 | nil=>simp[sevE,nulE,encE_eq]
 | cons x l=>
  cases l with
  | nil=>
   obtain⟨o,n,l⟩:=x
   simp[sevE,encE_eq]
  | cons y l=>
   simp[sevE,encE_eq]
   exact⟨by omega,fun _ h=>by omega⟩
structure PlS.At (s:PlS) (p:Pln):Prop where
 ok:s.OK
 ps:s.ps=p.ps
 ns:s.ns=p.nets
 dr:s.dr=.dat (.sl (p.drives.map encDr))
 dl:p.drives.length<=64
 od:s.od=aNs p.order
 ol:p.order.length<=448
 bu:s.bu=aNs p.butt
 va:s.va=aNs p.valv
 line:∀i:Nat,mget s.lE (.int .i64 (i:Int))=(p.line i).map fun n=>.int .i64 (n:Int)
theorem buttN_len (ps:List Prt) (n:Nat):(buttN ps n).length<=n:=Nat.le_trans (List.length_filter_le _ _) (by simp)
theorem valvN_len (ps:List Prt) (d:List Drv) (n:Nat):(valvN ps d n).length<=n:=Nat.le_trans (List.length_filter_le _ _) (by simp)
theorem PlS.At.pl {s:PlS}{p:Pln}(h:s.At p):p.ps.length<=64:=by rw[<- h.ps];exact h.ok.few
theorem PlS.At.bl {s:PlS}{p:Pln}(h:s.At p):p.butt.length<=64:=Nat.le_trans (buttN_len _ _) h.pl
theorem PlS.At.vl {s:PlS}{p:Pln}(h:s.At p):p.valv.length<=64:=Nat.le_trans (valvN_len _ _ _) h.pl
theorem first_s {s:PlS}{p:Pln}(h:s.At p):CallS Tryz.prog 91 [.ptr 170 s.b 0] s.hp fun r H'=>r=aI p.first∧H'=s.hp:=by
 have h1:=h.dr
 have h2:=h.bu
 have h3:=h.dl
 have h4:=h.bl
 unfold Pln.first
 refine callS_of Tryz.func91 rfl Tryz.ntmps91 (rs:=[.tmp 2]) rfl (by kernel_rfl) (by simp) (by kernel_rfl) ?_
 simp
 refine V.drawX (fun _=>none) (by kernel_rfl) (by kernel_rfl) (by simp) ?_
 simp[h1,h2]
 omega
theorem idxN_fn (xs:List Nat) (n:Nat) (hx:Sh xs):CallFn Tryz.prog 68 [aNs xs,aI n] (aI (idxI (xs.findIdx? (n==·)))):=by
 have h:=idxI_fn (zN xs) n (by unfold Sh zN at *;simpa using hx)
 have e:(zN xs).findIdx? (fun m=>(n:Int)==m)=xs.findIdx? (n==·):=by
  unfold zN
  rw[List.findIdx?_map]
  congr 1
  funext m
  simp only[Function.comp_apply]
  rw[Bool.eq_iff_iff]
  simp only[beq_iff_eq]
  omega
 rw[e,show aIs (zN xs)=aNs xs by unfold aIs aNs zN;rw[List.map_map];rfl]at h
 exact h
def Pln.gateW (p:Pln) (w:Nat):Expr:=match p.order.findIdx? (w==·) with
 | some k=>varE (p.first+k:Nat)
 | none=>nulE
theorem Pln.gate_eq (p:Pln) (i:Nat) (t:List UInt8):p.gate i t=p.gateW (netW p.nets ((i:Int),t)):=rfl
theorem netGate_s {s:PlS}{p:Pln}(h:s.At p) {i:Nat}{t:List UInt8}(ht:((i:Int),t)∈allP p.ps):CallS Tryz.prog 208 [.ptr 170 s.b 0,aI i,aT t] s.hp fun r H'=>r=aE (p.gate i t)∧H'=s.hp:=by
 rw[<- h.ps]at ht
 obtain⟨w1,w2⟩:=h.ok.of _ ht
 have hok:=okK_port (ps:=s.ps) (by have:=h.ok.few;omega) ht
 have h1:=h.od
 have h2:=h.ol
 have h3:=h.dl
 have h4:=h.bl
 have hx:=idxN_fn p.order (netW s.ns ((i:Int),t)) (by unfold Sh;omega)
 have hf:=first_s h
 rw[Pln.gate_eq,<- h.ns]
 generalize netW s.ns ((i:Int),t)=w at *
 refine CallS.dropP (callS_of Tryz.func208 rfl Tryz.ntmps208 (rs:=[.cell 6 61]) rfl (by kernel_rfl) (by simp) (by kernel_rfl) (K:=fun r H'=>r=aE (p.gateW w)∧subP s.hp H') ?_) (fun _ _ ⟨h1,h2⟩=>⟨_,h2,h1,rfl⟩)
 simp
 intro b
 refine V.drawX (fun t=>if t=20 then some (.fn (aI (idxI (p.order.findIdx? (w==·))))) else none) (by kernel_rfl) (by kernel_rfl) (by simp) ?_
 simp[w1,h1]
 refine⟨hok,hx,?_⟩
 cases hk:p.order.findIdx? (w==·) with
 | none=>
  have e:p.gateW w=nulE:=by unfold Pln.gateW;rw[hk]
  rw[e]
  simp[idxI,nulE]
  exact (subP.refl _).c _
 | some k=>
  have e:p.gateW w=varE (p.first+k:Nat):=by unfold Pln.gateW;rw[hk]
  have hv:=variable_fn ((p.first:Int)+k)
  rw[e]
  obtain⟨hkl,_⟩:=List.findIdx?_eq_some_iff_getElem.1 hk
  have hfb:p.first<=200:=by unfold Pln.first;omega
  simp
  refine⟨fun hh=>by omega,?_⟩
  refine (hf.mid [(6,_)] []).mono ?_
  rintro r H' ⟨rfl,rfl⟩
  simp
  refine⟨by omega,hv.s ?_⟩
  simp[varE]
  exact (subP.refl _).c _
abbrev rE (x:Expr):List A:=[.dat (.int .i64 x.op),.dat (.int .i64 x.index),.dat (.sl (x.args.map encE))]
theorem rowsD_E (xs:List Expr):rowsD (xs.map rE)=xs.map encE:=by unfold rowsD;rw[List.map_map];congr 1;funext x;simp[encE_eq]
theorem allD_E (xs:List Expr):allD (xs.map rE)=true:=by simp[allD,isD]
attribute [simp] rowsD_E allD_E
theorem PlS.At.kind {s:PlS}{p:Pln}(h:s.At p) {i:Nat}(hi:i<p.ps.length):CallS Tryz.prog 90 [.ptr 170 s.b 0,aI i] s.hp fun r H'=>r=aI (kindOf p.ps i)∧H'=s.hp:=by
 rw[<- h.ps]at hi ⊢
 exact kind_s h.ok hi
theorem PlS.At.klt {s:PlS}{p:Pln}(h:s.At p) (i:Nat):kindOf p.ps i<14:=by rw[<- h.ps];exact h.ok.klt i
def Pln.posL (p:Pln) (g:Gift):List Expr:=if 1<manyK (kindOf p.ps g.part) then [if g.pos=0 then notE (varE ((p.line g.part).getD 0:Nat)) else varE ((p.line g.part).getD 0:Nat)] else []
theorem mapE (l:List Expr):List.map ((fun x=>List.map A.dat x)∘encE) l=l.map rE:=by
 congr 1
 funext x
 simp[encE_eq]
theorem term_c {s:PlS}{p:Pln}(g:Gift) (b4:Nat) (u v:Value) (Ls Ms:List Expr) (hL:Ls.length<=2) (hM:Ms.length<=2):V ⟨Tryz.prog,none,67⟩ (restC Tryz.f294 4)
  (hdE [(0,.ptr 170 s.b 0),(3,.rptr (encGf g)),(4,.ptr 4 b4 0),(5,.own 38 u),(6,.own 54 v)] []) ((54,.seq v 61 3 (Ms.map rE))::(38,.seq u 61 3 (Ls.map rE))::(4,.box b4 [aI 0,aI 0,.nils])::s.hp)
  (RetV Tryz.prog [.cell 4 61] fun r H'=>r=aE (sevE 3 (Ls++(if g.pass.all=true then Ms else [sevE 4 Ms])))∧subP s.hp H'):=by
 have h4:=several_fn 4 Ms (by omega)
 have h3:=several_fn 3 (Ls++(if g.pass.all=true then Ms else [sevE 4 Ms])) (by split<;>simp<;>omega)
 refine V.rest rfl ?_
 refine V.frz1 (τ:=54) (h:=v) (e:=61) (sz:=3) (rows:=Ms.map rE) 6 rfl rfl (allD_E _) ?_
 rw[rowsD_E]
 refine V.of_vc ?_
 simp
 refine⟨fun hall=>?_,fun hall=>?_⟩
 ·rw[if_neg (by simp[hall])]at h3 ⊢
  obtain⟨x,hx⟩:∃x,sevE 4 Ms=x:=⟨_,rfl⟩
  rw[hx]at h4 h3 ⊢
  refine h4.s ?_
  simp
  intro u'
  refine⟨by omega,h3.give (Hc:=[(38,_)]) (Hr:=(4,.box b4 [aI 0,aI 0,.nils])::s.hp) rfl (by simp[frzs,frz,encE_eq]) ?_⟩
  simp
  exact (subP.refl _).c _
 ·rw[if_pos hall]at h3 ⊢
  intro u'
  rw[mapE]
  refine⟨⟨?_,by omega⟩,h3.give (Hc:=[(38,_)]) (Hr:=(4,.box b4 [aI 0,aI 0,.nils])::s.hp) rfl (by simp[frzs,frz]) ?_⟩
  ·intro y hy
   obtain⟨x,_,rfl⟩:=List.mem_map.1 hy
   simp[encE_eq]
  ·simp
   exact (subP.refl _).c _
theorem term_b {s:PlS}{p:Pln}(h:s.At p) {g:Gift}(hsl:g.pass.src.length<=2) (hsrc:∀t∈g.pass.src,((g.part:Int),t)∈allP p.ps) (b4:Nat) (u:Value) (Ls:List Expr) (hL:Ls.length<=2):V ⟨Tryz.prog,none,67⟩ (restC Tryz.f294 3)
  (hdE [(0,.ptr 170 s.b 0),(3,.rptr (encGf g)),(4,.ptr 4 b4 0),(5,.own 38 u),(6,.nils)] []) ((38,.seq u 61 3 (Ls.map rE))::(4,.box b4 [aI 0,aI 0,.nils])::s.hp)
  (RetV Tryz.prog [.cell 4 61] fun r H'=>r=aE (sevE 3 (Ls++(if g.pass.all=true then g.pass.src.map (p.gate g.part) else [sevE 4 (g.pass.src.map (p.gate g.part))])))∧subP s.hp H'):=by
 have hgt:=fun t ht=>netGate_s h (i:=g.part) (t:=t) (hsrc t ht)
 refine V.rest rfl ?_
 refine V.of_vcN 1 ?_
 simp
 refine V.forI (σ:=Value) g.pass.src.length [0,3,4,5,41,42] (by simp;exact rfl) (fun i v=>[(6,.own 54 v),(43,aI i)]) (fun i v=>(54,.seq v 61 3 (((g.pass.src.take i).map (p.gate g.part)).map rE))::(38,.seq u 61 3 (Ls.map rE))::(4,.box b4 [aI 0,aI 0,.nils])::s.hp) (fun _ _=>True) (.slice none 0 0) trivial (by simp) ⟨by simp;exact rfl,by simp⟩ ?_ ?_
 ·rintro i v hi -
  obtain⟨t,ht⟩:∃t,g.pass.src[i]=t:=⟨_,rfl⟩
  have hto:g.pass.src[i]?=some t:=by rw[List.getElem?_eq_getElem hi,ht]
  have hg:=hgt t (List.mem_of_getElem? hto)
  rw[List.take_add_one,hto]
  have hW:(g.pass.src.take i).length<=2:=by rw[List.length_take];omega
  generalize g.pass.src.take i=W at *
  simp[hi,ht,hto]
  refine (hg.mid [(54,_),(38,_),(4,_)] []).mono ?_
  rintro r H' ⟨rfl,rfl⟩
  simp
  exact⟨by omega,by omega⟩
 ·rintro v -
  rw[List.take_length]
  simp
  refine V.cutV (Hs:=(54,.seq v 61 3 ((g.pass.src.map (p.gate g.part)).map rE))::(38,.seq u 61 3 (Ls.map rE))::(4,.box b4 [aI 0,aI 0,.nils])::s.hp) [(0,.ptr 170 s.b 0),(3,.rptr (encGf g)),(4,.ptr 4 b4 0),(5,.own 38 u),(6,.own 54 v)] (by simp) (by simp) ?_
  exact V.of_rest rfl (term_c (p:=p) g b4 u v Ls (g.pass.src.map (p.gate g.part)) hL (by simpa using hsl))
theorem term_s {s:PlS}{p:Pln}(h:s.At p) {g:Gift}(hg:g.part<p.ps.length) (hsl:g.pass.src.length<=2) (hsrc:∀t∈g.pass.src,((g.part:Int),t)∈allP p.ps) :
  CallS Tryz.prog 294 [.ptr 170 s.b 0,.record (encGf g)] s.hp fun r H'=>r=aE (p.term g)∧H'=s.hp:=by
 have hk:=h.kind hg
 have hpo:=Positions_k (kindOf p.ps g.part) (h.klt g.part)
 have hln:=h.line g.part
 have ht:p.term g=sevE 3 (p.posL g++(if g.pass.all=true then g.pass.src.map (p.gate g.part) else [sevE 4 (g.pass.src.map (p.gate g.part))])):=rfl
 rw[ht]
 have hrest:=fun b4 u Ls hL=>term_b h hsl hsrc b4 u Ls hL
 refine CallS.dropP (callS_cut 3 Tryz.func294 rfl Tryz.ntmps294 (rs:=[.cell 4 61]) rfl (by kernel_rfl) (by simp) (by kernel_rfl) (K:=fun r H'=>r=aE (sevE 3 (p.posL g++(if g.pass.all=true then g.pass.src.map (p.gate g.part) else [sevE 4 (g.pass.src.map (p.gate g.part))])))∧subP s.hp H') ?_) (fun _ _ ⟨h1,h2⟩=>⟨_,h2,h1,rfl⟩)
 generalize (if g.pass.all=true then g.pass.src.map (p.gate g.part) else [sevE 4 (g.pass.src.map (p.gate g.part))])=T at hrest ⊢
 simp
 intro b4
 refine (hk.mid [(4,_)] []).mono ?_
 rintro r H' ⟨rfl,rfl⟩
 simp
 refine hpo.s ?_
 simp
 refine⟨fun hm=>?_,fun hm=>?_⟩
 ·have hp:p.posL g=[if g.pos=0 then notE (varE ((p.line g.part).getD 0:Nat)) else varE ((p.line g.part).getD 0:Nat)]:=by
   unfold Pln.posL
   rw[if_pos (by omega)]
  obtain⟨x,hx⟩:∃x,varE ((p.line g.part).getD 0:Nat)=x:=⟨_,rfl⟩
  have hv:=variable_fn ((p.line g.part).getD 0:Nat)
  have hop:=opposite_fn x
  rw[hx]at hp hv
  refine V.drawX (fun t=>if t=29 then some (.fn (aE x)) else none) (by kernel_rfl) (by kernel_rfl) (by simp) ?_
  simp[hln]
  refine⟨?_,fun b9=>⟨by kernel_rfl,fun h0=>?_,fun h0=>?_⟩⟩
  ·cases hq:p.line g.part<;>rw[hq]at hv<;>simpa using hv
  ·refine hop.s ?_
   rw[hp,if_pos h0]
   obtain⟨y,hy⟩:∃y,notE x=y:=⟨_,rfl⟩
   rw[hy]
   simp
   intro u
   exact V.cutV (Hs:=(38,.seq u 61 3 ([y].map rE))::(4,.box b4 [aI 0,aI 0,.nils])::s.hp) [(0,.ptr 170 s.b 0),(3,.rptr (encGf g)),(4,.ptr 4 b4 0),(5,.own 38 u),(6,.nils)] (by simp) (by simp) (V.of_rest rfl (hrest b4 u [y] (by simp)))
  ·rw[hp,if_neg h0]
   simp
   intro u
   exact V.cutV (Hs:=(38,.seq u 61 3 ([x].map rE))::(4,.box b4 [aI 0,aI 0,.nils])::s.hp) [(0,.ptr 170 s.b 0),(3,.rptr (encGf g)),(4,.ptr 4 b4 0),(5,.own 38 u),(6,.nils)] (by simp) (by simp) (V.of_rest rfl (hrest b4 u [x] (by simp)))
 ·have hp:p.posL g=[]:=by
   unfold Pln.posL
   rw[if_neg (by omega)]
  rw[hp]
  exact V.cutV (Hs:=(38,.seq (.slice none 0 0) 61 3 (([]:List Expr).map rE))::(4,.box b4 [aI 0,aI 0,.nils])::s.hp) [(0,.ptr 170 s.b 0),(3,.rptr (encGf g)),(4,.ptr 4 b4 0),(5,.own 38 (.slice none 0 0)),(6,.nils)] (by simp) (by simp) (V.of_rest rfl (hrest b4 (.slice none 0 0) [] (by simp)))
theorem mget_putI {α:Type}(a b:Int) (v:α):∀es:List (L×α),mget (mput es (.int .i64 a) v) (.int .i64 b)=if a=b then some v else mget es (.int .i64 b)
 | []=>by simp[mput,mget,leq]
 | (k,u)::r=>by
  have ih:=mget_putI a b v r
  simp only[mput]
  by_cases h:leq k (.int .i64 a)=true
  ·rw[if_pos h]
   cases k<;>simp[leq]at h
   obtain⟨rfl,rfl⟩:=h
   simp only[mget,leq]
   rename_i z
   by_cases e:z=b<;>simp[e]
  ·rw[if_neg h]
   simp only[mget]
   rw[ih]
   by_cases e:a=b
   ·subst e
    rw[if_neg h]
    simp
   ·rw[if_neg e,if_neg e]
def Pln.lineB (p:Pln) (i:Nat):Option Nat:=match p.ps[i]? with
 | none=>none
 | some x=>
  if x.kind=7 then some (2*p.drives.length+p.butt.idxOf i)
  else if x.kind=6 then some (2*(p.drives.findIdx fun d=>(p.ps.getD d.1 x).name==x.name.dropLast)+(if x.name.getLast? = some 49 then 1 else 0))
  else none
theorem mem_valvN {ps:List Prt}{d:List Drv}{n i:Nat}:i∈valvN ps d n↔i<n∧plusK (kindOf ps i)≠[]∧drivenZ d i=none:=by
 unfold valvN
 simp[List.mem_filter]
theorem mem_buttN {ps:List Prt}{n i:Nat}:i∈buttN ps n↔i<n∧kindOf ps i=7:=by
 unfold buttN
 simp[List.mem_filter]
theorem Pln.line_eq (p:Pln) (i:Nat):p.line i=match p.lineB i with
  | some n=>some n
  | none=>if i∈p.valv then some (p.first+p.order.length+p.valv.idxOf i) else none:=by
 unfold Pln.line Pln.lineB
 cases h:p.ps[i]? with
 | none=>
  have hi:i∉p.valv:=fun hm=>by
   have:=(mem_valvN.1 hm).1
   rw[List.getElem?_eq_none_iff]at h
   omega
  simp[hi]
 | some x=>
  simp only
  by_cases h7:x.kind=7
  ·simp[h7]
  ·by_cases h6:x.kind=6
   ·simp[h6]
   ·simp[h7,h6]
theorem nodup_range (n:Nat):(List.range n).Nodup:=List.nodup_range
theorem idx_filter (q:Nat->Bool) {i:Nat}(hq:q i=true):∀n,i<n->((List.range n).filter q).idxOf i=((List.range i).filter q).length
 | 0,h=>by omega
 | n+1,h=>by
  rw[List.range_succ,List.filter_append]
  by_cases e:i=n
  ·subst e
   have hn:i∉(List.range i).filter q:=by simp
   simp[hq,List.idxOf_append,hn]
  ·have hm:i∈(List.range n).filter q:=by simp[hq];omega
   rw[List.idxOf_append,if_pos hm]
   exact idx_filter q hq n (by omega)
theorem butt_idx {p:Pln}{i:Nat}(h:kindOf p.ps i=7) (hi:i<p.ps.length):p.butt.idxOf i=(buttN p.ps i).length:=idx_filter _ (by simp[h]) _ hi
theorem buttN_succ (ps:List Prt) (n:Nat):buttN ps (n+1)=buttN ps n++(if kindOf ps n=7 then [n] else []):=by
 unfold buttN
 rw[List.range_succ,List.filter_append]
 by_cases h:kindOf ps n=7<;>simp[h]
theorem valvN_succ (ps:List Prt) (d:List Drv) (n:Nat):valvN ps d (n+1)=valvN ps d n++(if plusK (kindOf ps n)≠[]∧drivenZ d n=none then [n] else []):=by
 unfold valvN
 rw[List.range_succ,List.filter_append]
 congr 1
 by_cases h1:plusK (kindOf ps n)=[]<;>by_cases h2:drivenZ d n=none<;>simp[h1,h2]
def LnB (p:Pln) (n:Nat) (E:List (L×L)):Prop:=∀j:Nat,mget E (.int .i64 (j:Int))=if j<n then (p.lineB j).map fun k=>.int .i64 (k:Int) else none
theorem LnB.zero (p:Pln):LnB p 0 []:=fun j=>by simp[mget]
theorem LnB.keep {p:Pln}{n:Nat}{E:List (L×L)}(h:LnB p n E) (hn:p.lineB n=none):LnB p (n+1) E:=fun j=>by
 rw[h j]
 by_cases h1:j<n
 ·rw[if_pos h1,if_pos (by omega)]
 ·rw[if_neg h1]
  by_cases h2:j=n
  ·subst h2
   simp[hn]
  ·rw[if_neg (by omega)]
theorem LnB.put {p:Pln}{n k:Nat}{E:List (L×L)}(h:LnB p n E) (hn:p.lineB n=some k):LnB p (n+1) (mput E (.int .i64 (n:Int)) (.int .i64 (k:Int))):=fun j=>by
 rw[mget_putI,h j]
 by_cases h2:n=j
 ·subst h2
  simp[hn]
 ·rw[if_neg (by omega)]
  by_cases h1:j<n
  ·rw[if_pos h1,if_pos (by omega)]
  ·rw[if_neg h1,if_neg (by omega)]
def LnV (p:Pln) (k:Nat) (E:List (L×L)):Prop:=∀j:Nat,mget E (.int .i64 (j:Int))=match p.lineB j with
 | some n=>some (.int .i64 (n:Int))
 | none=>if j∈p.valv.take k then some (.int .i64 ((p.first+p.order.length+p.valv.idxOf j:Nat):Int)) else none
theorem LnB.lnV {p:Pln}{E:List (L×L)}(h:LnB p p.ps.length E):LnV p 0 E:=fun j=>by
 rw[h j]
 by_cases hj:j<p.ps.length
 ·rw[if_pos hj]
  cases p.lineB j<;>simp
 ·rw[if_neg hj]
  have:p.lineB j=none:=by
   unfold Pln.lineB
   rw[List.getElem?_eq_none (by omega)]
  simp[this]
theorem valv_nodup (p:Pln):p.valv.Nodup:=List.Nodup.sublist List.filter_sublist (nodup_range _)
theorem valv_lineB {p:Pln}{j:Nat}(h:j∈p.valv):p.lineB j=none:=by
 obtain⟨h1,h2,h3⟩:=mem_valvN.1 h
 unfold Pln.lineB
 rw[List.getElem?_eq_getElem h1]
 have hk:kindOf p.ps j=(p.ps[j]).kind.toNat:=by unfold kindOf;rw[List.getElem?_eq_getElem h1]
 simp only
 rw[if_neg,if_neg]
 ·intro e
  rw[hk,e]at h2
  exact h2 rfl
 ·intro e
  rw[hk,e]at h2
  exact h2 rfl
theorem LnV.put {p:Pln}{k i:Nat}{E:List (L×L)}(h:LnV p k E) (hi:p.valv[k]?=some i):LnV p (k+1) (mput E (.int .i64 (i:Int)) (.int .i64 ((p.first+p.order.length+k:Nat):Int))):=fun j=>by
 rw[mget_putI,h j]
 have hl:=valv_lineB (List.mem_of_getElem? hi)
 obtain⟨hk,hik⟩:=List.getElem?_eq_some_iff.1 hi
 have hx:p.valv.idxOf i=k:=by
  rw[<- hik]
  exact (valv_nodup p).idxOf_getElem k hk
 by_cases e:i=j
 ·subst e
  rw[hl,if_pos rfl,hx]
  simp only
  rw[if_pos (by rw[List.take_add_one,hi];simp)]
 ·rw[if_neg (by omega)]
  cases p.lineB j with
  | some n=>rfl
  | none=>
   simp only
   have:j∈p.valv.take (k+1)↔j∈p.valv.take k:=by
    rw[List.take_add_one,hi]
    simp
    intro e2
    exact absurd e2.symm e
   by_cases h2:j∈p.valv.take k
   ·rw[if_pos h2,if_pos (this.2 h2)]
   ·rw[if_neg h2,if_neg fun h3=>h2 (this.1 h3)]
theorem LnV.all {p:Pln}{E:List (L×L)}(h:LnV p p.valv.length E) (i:Nat):mget E (.int .i64 (i:Int))=(p.line i).map fun n=>.int .i64 (n:Int):=by
 rw[h i,p.line_eq]
 cases p.lineB i with
 | some n=>rfl
 | none=>
  simp only[List.take_length]
  split<;>rfl
theorem decN_len2 (n:Nat):(decN n).length<=n+1:=by
 unfold decN
 induction n using Nat.strongRecOn with
 | _ m ih=>
  unfold Go.Lib.decDigits
  split
  ·simp
  ·have:=ih (m / 10) (by omega)
   simp only[List.length_append,List.length_singleton]
   omega
end Go.Proofs.YtafamcbdaeppoaaGreatDoor
