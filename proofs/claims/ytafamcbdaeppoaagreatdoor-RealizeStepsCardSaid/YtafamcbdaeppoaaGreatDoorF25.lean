/- Texts joined by a program: Kx,Kp,Km,Kl,Ko,Kq,Kr,Fxo. -/
import Derived.Test.YtafamcbdaeppoaaGreatDoorF24
import Derived.Test.YtafamcbdaeppoaaGreatDoorF20
import Derived.Test.YtafamcbdaeppoaaGreatDoorF23
import Derived.Test.YtafamcbdaeppoaaGreatDoorF21
import Derived.Test.YtafamcbdaeppoaaGreatDoorF17
set_option linter.unusedSimpArgs false
set_option linter.unusedVariables false
set_option maxHeartbeats 8000000
set_option maxRecDepth 100000
namespace Go.Proofs.YtafamcbdaeppoaaGreatDoor
abbrev encPs' (p:PassP):List L:=[.str p.to,.sl (p.src.map encT),.bool p.all]
theorem pass_fn (a b:List UInt8):CallFn Tryz.prog 363 [aT a,aT b] (.dat (.sl ([(⟨a,[b],false⟩:PassP)].map encPs'))):=by
 refine callFz_of Tryz.func363 rfl Tryz.ntmps363 (rs:=[.tmp 4]) rfl (by kernel_rfl) (by simp) (by kernel_rfl) ?_
 simp
theorem nothing_fn (n:Nat):CallFn Tryz.prog 312 [aI n] (.dat (.sl (([]:List PassP).map encPs'))):=by
 refine callFz_of Tryz.func312 rfl Tryz.ntmps312 (rs:=[.tmp 2]) rfl (by kernel_rfl) (by simp) (by kernel_rfl) ?_
 simp
theorem through_fn (n:Nat):CallFn Tryz.prog 319 [aI n] (.dat (.sl ([(⟨[50],[[49]],false⟩:PassP)].map encPs'))):=by
 have h:=pass_fn [50] [49]
 refine callFz_of Tryz.func319 rfl Tryz.ntmps319 (rs:=[.tmp 2]) rfl (by kernel_rfl) (by simp) (by kernel_rfl) ?_
 simp
 refine h.s ?_
 simp
theorem change_fn (n:Nat) (hn:n<2):CallFn Tryz.prog 314 [aI n] (.dat (.sl ([(⟨if n=1 then [52] else [50],[[49]],false⟩:PassP)].map encPs'))):=by
 have h0:=pass_fn [50] [49]
 have h1:=pass_fn [52] [49]
 have:n=0∨n=1:=by omega
 refine callFz_of Tryz.func314 rfl Tryz.ntmps314 (rs:=[.tmp 2]) rfl (by kernel_rfl) (by simp) (by kernel_rfl) ?_
 rcases this with rfl | rfl
 ·simp
  refine h0.s ?_
  simp
 ·simp
  refine h1.s ?_
  simp
theorem gate1_fn (n:Nat) (o:Nat):CallFn Tryz.prog 364 [aI n,.rptr [.int .i64 o]] (.dat (.sl ((if n=o then [(⟨[50],[[49]],false⟩:PassP)] else []).map encPs'))):=by
 have h:=pass_fn [50] [49]
 refine callFz_of Tryz.func364 rfl Tryz.ntmps364 (rs:=[.tmp 3]) rfl (by kernel_rfl) (by simp) (by kernel_rfl) ?_
 by_cases e:n=o
 ·subst e
  simp
  refine h.s ?_
  simp
 ·have e2:¬(n:Int)=o:=by omega
  simp[e,e2]
theorem merge1_fn (n:Nat) (b:Bool):CallFn Tryz.prog 366 [aI n,.rptr [.bool b]] (.dat (.sl ([(⟨[50],[[49],[49,49]],b⟩:PassP)].map encPs'))):=by
 refine callFz_of Tryz.func366 rfl Tryz.ntmps366 (rs:=[.tmp 3]) rfl (by kernel_rfl) (by simp) (by kernel_rfl) ?_
 simp
theorem row_pass:∀k,k<14->∃f caps,(rowOf k)[10]?=some (.fn f [] caps)∧∀n:Nat,n<2->CallFn Tryz.prog f (aI n::caps) (.dat (.sl ((passK k n).map encPs'))):=by
 refine cat_cases ⟨?_,?_,?_,?_,?_,?_,?_,?_,?_,?_,?_,?_,?_,?_⟩
 ·exact⟨_,_,rfl,fun n hn=>nothing_fn n⟩
 ·exact⟨_,_,rfl,fun n hn=>nothing_fn n⟩
 ·exact⟨_,_,rfl,fun n hn=>change_fn n hn⟩
 ·exact⟨_,_,rfl,fun n hn=>change_fn n hn⟩
 ·exact⟨_,_,rfl,fun n hn=>gate1_fn n 1⟩
 ·refine⟨_,_,rfl,fun n hn=>?_⟩
  have:=gate1_fn n 0
  have e:(if n=0 then [(⟨[50],[[49]],false⟩:PassP)] else [])=passK 5 n:=by
   have:n=0∨n=1:=by omega
   rcases this with rfl | rfl<;>rfl
  rwa [e]at this
 ·exact⟨_,_,rfl,fun n hn=>gate1_fn n 1⟩
 ·exact⟨_,_,rfl,fun n hn=>gate1_fn n 1⟩
 ·exact⟨_,_,rfl,fun n hn=>merge1_fn n false⟩
 ·exact⟨_,_,rfl,fun n hn=>merge1_fn n true⟩
 ·exact⟨_,_,rfl,fun n hn=>through_fn n⟩
 ·exact⟨_,_,rfl,fun n hn=>through_fn n⟩
 ·exact⟨_,_,rfl,fun n hn=>gate1_fn n 1⟩
 ·exact⟨_,_,rfl,fun n hn=>gate1_fn n 1⟩
theorem row_dat:∀k,k<14->(rowOf k)[7]?=some (.dat (.str (plusK k)))∧(rowOf k)[8]?=some (.dat (.str (minusK k)))∧(rowOf k)[9]?=some (aI (manyK k)):=by
 refine cat_cases ⟨?_,?_,?_,?_,?_,?_,?_,?_,?_,?_,?_,?_,?_,?_⟩
 all_goals exact⟨rfl,rfl,rfl⟩
theorem cells_ok {R:List A}(hl:R.length=12) (hc:R.all cellB=true):R.length=12∧R.length<=12∧∀x∈R,(match x with
  | A.any=>false
  | A.undef=>false
  | A.record _=>false
  | A.agg _=>false
  | A.tuple _=>false
  | A.cond _ _=>false
  | A.nn _=>false
  | A.clip _=>false
  | _=>true)=true:=by
 refine⟨hl,by omega,fun x hx=>?_⟩
 have hx2:=List.all_eq_true.1 hc x hx
 cases x<;>exact hx2
theorem Positions_k (k:Nat) (hk:k<14):CallFn Tryz.prog 155 [aI k] (.tuple [aI (manyK k),aI 0]):=by
 have hf:=find_fn k hk
 have hl:=row_len k hk
 have hc:=row_cell k hk
 obtain⟨-,-,h9⟩:=row_dat k hk
 obtain⟨h9l,h91⟩:=List.getElem?_eq_some_iff.1 h9
 refine callFz_of Tryz.func155 rfl Tryz.ntmps155 (rs:=[.tmp 2,.tmp 3]) rfl (by kernel_rfl) (by simp) (by kernel_rfl) ?_
 simp
 refine hf.s ?_
 generalize rowOf k=R at *
 simp
 intro b4
 refine⟨cells_ok hl hc,?_⟩
 simp[hl,h9,h91]
theorem Pilots_k (k:Nat) (hk:k<14):CallFn Tryz.prog 137 [aI k] (.tuple [aT (plusK k),aT (minusK k),aI 0]):=by
 have hf:=find_fn k hk
 have hl:=row_len k hk
 have hc:=row_cell k hk
 obtain⟨h7,h8,-⟩:=row_dat k hk
 obtain⟨h7l,h71⟩:=List.getElem?_eq_some_iff.1 h7
 obtain⟨h8l,h81⟩:=List.getElem?_eq_some_iff.1 h8
 refine callFz_of Tryz.func137 rfl Tryz.ntmps137 (rs:=[.tmp 2,.tmp 3,.tmp 4]) rfl (by kernel_rfl) (by simp) (by kernel_rfl) ?_
 simp
 refine hf.s ?_
 generalize rowOf k=R at *
 simp
 intro b4
 refine⟨cells_ok hl hc,?_⟩
 refine V.drawX (fun _=>none) (by kernel_rfl) (by kernel_rfl) (by simp) ?_
 simp[hl,h7,h71,h8,h81]
theorem placed_k (k:Nat) (hk:k<14) (n:Nat) (hn:n<manyK k):CallFn Tryz.prog 194 [aI k,aI n] (.tuple [.agg (rowOf k),aI 0]):=by
 have hf:=find_fn k hk
 have hl:=row_len k hk
 have hc:=row_cell k hk
 obtain⟨-,-,h9⟩:=row_dat k hk
 obtain⟨h9l,h91⟩:=List.getElem?_eq_some_iff.1 h9
 have hz:=row_frz k hk
 have hnil:=row_nil k hk
 have hls:=row_ls k hk
 have hn2:(n:Int)<manyK k:=by omega
 refine callFz_of Tryz.func194 rfl Tryz.ntmps194 (rs:=[.cell 4 235,.tmp 5]) rfl (by kernel_rfl) (by simp) (by kernel_rfl) ?_
 simp
 intro b4
 refine hf.s ?_
 generalize rowOf k=R at *
 generalize manyK k=m at *
 simp
 intro b6
 refine⟨cells_ok hl hc,?_⟩
 have htk:List.take 12 R=R:=List.take_of_length_le (by omega)
 have hce:=(cells_ok hl hc).2.2
 simp[hl,h9,h91,hn2,hn,htk,hls]
 exact⟨hce,hz _⟩
theorem Passes_k (k:Nat) (hk:k<14) (n:Nat) (hn:n<manyK k):CallFn Tryz.prog 181 [aI k,aI n] (.tuple [.dat (.sl ((passK k n).map encPs')),aI 0]):=by
 have hf:=placed_k k hk n hn
 have hl:=row_len k hk
 have hc:=row_cell k hk
 have hm:manyK k<=2:=by revert k;exact fun k hk=>by intros;exact (show ∀k,k<14->manyK k<=2 by decide) k hk
 obtain⟨f,caps,h10,hp⟩:=row_pass k hk
 have hp:=hp n (by omega)
 obtain⟨h10l,h101⟩:=List.getElem?_eq_some_iff.1 h10
 refine callFz_of Tryz.func181 rfl Tryz.ntmps181 (rs:=[.tmp 4,.tmp 5]) rfl (by kernel_rfl) (by simp) (by kernel_rfl) ?_
 simp
 refine hf.s ?_
 generalize rowOf k=R at *
 simp
 intro b6
 refine⟨cells_ok hl hc,?_⟩
 simp[hl,h10,h101]
 refine hp.s ?_
 simp
theorem row_roles:∀k,k<14->∃r0 r1 r2 r3 r4,rolesK k=[r0,r1,r2,r3,r4]∧List.take 5 (List.drop 2 (rowOf k))=[aTs r0,aTs r1,aTs r2,aTs r3,aTs r4]∧r0.length<=2∧r1.length<=2∧r2.length<=2∧r3.length<=2∧r4.length<=2:=
 cat_cases ⟨⟨_,_,_,_,_,rfl,rfl,by decide,by decide,by decide,by decide,by decide⟩,⟨_,_,_,_,_,rfl,rfl,by decide,by decide,by decide,by decide,by decide⟩,⟨_,_,_,_,_,rfl,rfl,by decide,by decide,by decide,by decide,by decide⟩,⟨_,_,_,_,_,rfl,rfl,by decide,by decide,by decide,by decide,by decide⟩,⟨_,_,_,_,_,rfl,rfl,by decide,by decide,by decide,by decide,by decide⟩,⟨_,_,_,_,_,rfl,rfl,by decide,by decide,by decide,by decide,by decide⟩,⟨_,_,_,_,_,rfl,rfl,by decide,by decide,by decide,by decide,by decide⟩,⟨_,_,_,_,_,rfl,rfl,by decide,by decide,by decide,by decide,by decide⟩,⟨_,_,_,_,_,rfl,rfl,by decide,by decide,by decide,by decide,by decide⟩,⟨_,_,_,_,_,rfl,rfl,by decide,by decide,by decide,by decide,by decide⟩,⟨_,_,_,_,_,rfl,rfl,by decide,by decide,by decide,by decide,by decide⟩,⟨_,_,_,_,_,rfl,rfl,by decide,by decide,by decide,by decide,by decide⟩,⟨_,_,_,_,_,rfl,rfl,by decide,by decide,by decide,by decide,by decide⟩,⟨_,_,_,_,_,rfl,rfl,by decide,by decide,by decide,by decide,by decide⟩⟩
theorem Role_k (k:Nat) (hk:k<14) (t:List UInt8):CallFn Tryz.prog 186 [aI k,aT t] (.tuple [aI ((roleK k t).getD 0:Nat),aI (if (roleK k t).isSome=true then 0 else 6)]):=by
 have hf:=find_fn k hk
 have hl:=row_len k hk
 have hc:=row_cell k hk
 obtain⟨r0,r1,r2,r3,r4,h3,h4,m0,m1,m2,m3,m4⟩:=row_roles k hk
 unfold roleK
 rw[h3]
 have c0:=containsT_fn r0 t (by unfold Sh;omega)
 have c1:=containsT_fn r1 t (by unfold Sh;omega)
 have c2:=containsT_fn r2 t (by unfold Sh;omega)
 have c3:=containsT_fn r3 t (by unfold Sh;omega)
 have c4:=containsT_fn r4 t (by unfold Sh;omega)
 refine callFz_cut 2 Tryz.func186 rfl Tryz.ntmps186 (rs:=[.tmp 4,.tmp 5]) rfl (by kernel_rfl) (by simp) (by kernel_rfl) ?_
 simp
 refine hf.s ?_
 generalize rowOf k=R at *
 simp
 intro b6
 refine⟨cells_ok hl hc,?_⟩
 refine V.cutV [(1,aT t),(6,.ptr 6 b6 0),(7,aI 0),(4,aI 0),(5,aI 0)] (Hs:=[(6,.box b6 R)]) (by simp) (by simp[hl,List.take_of_length_le]) (V.of_vc ?_)
 simp[h4]
 refine⟨by omega,?_⟩
 refine V.forI (σ:=Unit) 5 [1,19] (by simp;exact rfl) (fun i _=>[(4,aI 0),(5,aI 0),(20,aI i)]) (fun _ _=>[]) (fun i _=>NoF (fun l:List (List UInt8)=>l.any (t==·)) ([r0,r1,r2,r3,r4].take i)) () (by simp) (by simp) ⟨by simp;exact rfl,by simp⟩ ?_ ?_
 ·rintro i-hi hI
  have:i=0∨i=1∨i=2∨i=3∨i=4:=by omega
  rcases this with rfl | rfl | rfl | rfl | rfl
  ·simp
   refine c0.s ?_
   cases e:r0.any (t==·)
   ·have hs:=(findIdx_step (p:=fun l:List (List UInt8)=>l.any (t==·)) hI (show [r0,r1,r2,r3,r4][0]?=some r0 from rfl)).1 e
    simp
    exact hs
   ·have hs:=(findIdx_step (p:=fun l:List (List UInt8)=>l.any (t==·)) hI (show [r0,r1,r2,r3,r4][0]?=some r0 from rfl)).2 e
    rw[hs]
    simp
  ·simp
   refine c1.s ?_
   cases e:r1.any (t==·)
   ·have hs:=(findIdx_step (p:=fun l:List (List UInt8)=>l.any (t==·)) hI (show [r0,r1,r2,r3,r4][1]?=some r1 from rfl)).1 e
    simp
    exact hs
   ·have hs:=(findIdx_step (p:=fun l:List (List UInt8)=>l.any (t==·)) hI (show [r0,r1,r2,r3,r4][1]?=some r1 from rfl)).2 e
    rw[hs]
    simp
  ·simp
   refine c2.s ?_
   cases e:r2.any (t==·)
   ·have hs:=(findIdx_step (p:=fun l:List (List UInt8)=>l.any (t==·)) hI (show [r0,r1,r2,r3,r4][2]?=some r2 from rfl)).1 e
    simp
    exact hs
   ·have hs:=(findIdx_step (p:=fun l:List (List UInt8)=>l.any (t==·)) hI (show [r0,r1,r2,r3,r4][2]?=some r2 from rfl)).2 e
    rw[hs]
    simp
  ·simp
   refine c3.s ?_
   cases e:r3.any (t==·)
   ·have hs:=(findIdx_step (p:=fun l:List (List UInt8)=>l.any (t==·)) hI (show [r0,r1,r2,r3,r4][3]?=some r3 from rfl)).1 e
    simp
    exact hs
   ·have hs:=(findIdx_step (p:=fun l:List (List UInt8)=>l.any (t==·)) hI (show [r0,r1,r2,r3,r4][3]?=some r3 from rfl)).2 e
    rw[hs]
    simp
  ·simp
   refine c4.s ?_
   cases e:r4.any (t==·)
   ·have hs:=(findIdx_step (p:=fun l:List (List UInt8)=>l.any (t==·)) hI (show [r0,r1,r2,r3,r4][4]?=some r4 from rfl)).1 e
    simp
    exact hs
   ·have hs:=(findIdx_step (p:=fun l:List (List UInt8)=>l.any (t==·)) hI (show [r0,r1,r2,r3,r4][4]?=some r4 from rfl)).2 e
    rw[hs]
    simp
 ·rintro-hI
  rw[findIdx_none hI]
  simp
section
section
variable (f:PortZ->PortZ) (all:List PortZ)
def rootsN (n:Nat):List PortZ:=(all.take n).filter fun p=>f p==p
def famR (n:Nat) (r:PortZ):List PortZ:=(all.take n).filter fun q=>f q==r
def famN (n:Nat):List (List PortZ):=(rootsN f all n).map (famR f all n)
def atN (n:Nat):List (KeyK×List L):=(rootsN f all n).zipIdx.map fun q=>(q.1,[.int .i64 (q.2:Nat)])
theorem famN_all:famN f all all.length=netsF f all:=by
 unfold famN rootsN netsF
 rw[List.take_length]
 apply List.map_congr_left
 intro r _
 unfold famR
 rw[List.take_length]
theorem famN_len (n:Nat):(famN f all n).length=(rootsN f all n).length:=by simp[famN]
theorem kget_zip (q:PortZ):∀(rs:List PortZ) (k:Nat),kget ((rs.zipIdx k).map fun q=>(q.1,([.int .i64 (q.2:Nat)]:List L))) q=(rs.findIdx? (·==q)).map fun j=>[.int .i64 ((k+j:Nat):Int)]
 | [],k=>rfl
 | r::rs,k=>by
  simp only[List.zipIdx_cons,List.map_cons,kget,List.findIdx?_cons]
  by_cases e:r=q
  ·simp[e]
  ·rw[if_neg e,kget_zip q rs (k+1)]
   simp only[e,beq_iff_eq,if_false,Option.map_map]
   cases rs.findIdx? (·==q) with
   | none=>simp[e]
   | some j=>
    simp[e]
    omega
theorem kget_at (n:Nat) (q:PortZ):kget (atN f all n) q=((rootsN f all n).findIdx? (·==q)).map fun j=>[.int .i64 (j:Nat)]:=by
 unfold atN
 rw[kget_zip]
 simp
theorem kput_new {α:Type}(k:KeyK) (v:α):∀ {es:List (KeyK×α)},kget es k=none->kput es k v=es++[(k,v)]
 | [],_=>rfl
 | e::es,h=>by
  simp only[kget]at h
  split at h
  ·cases h
  ·rename_i hne
   simp only[kput]
   rw[if_neg hne,kput_new k v h]
   rfl
variable {f all}
theorem take_snoc {α:Type}{l:List α}{i:Nat}{x:α}(h:l[i]?=some x):l.take (i+1)=l.take i++[x]:=by rw[List.take_add_one,h];rfl
theorem roots_new {n:Nat}{x:PortZ}(hx:all[n]?=some x) (h:f x=x):rootsN f all (n+1)=rootsN f all n++[x]:=by
 unfold rootsN
 rw[take_snoc hx,List.filter_append]
 simp[h]
theorem roots_old {n:Nat}{x:PortZ}(hx:all[n]?=some x) (h:f x≠x):rootsN f all (n+1)=rootsN f all n:=by
 unfold rootsN
 rw[take_snoc hx,List.filter_append]
 simp[h]
theorem famR_snoc {n:Nat}{x r:PortZ}(hx:all[n]?=some x):famR f all (n+1) r=if f x=r then famR f all n r++[x] else famR f all n r:=by
 unfold famR
 rw[take_snoc hx,List.filter_append]
 by_cases e:f x=r<;>simp[e]
theorem at_new {n:Nat}{x:PortZ}(hx:all[n]?=some x) (h:f x=x) (hn:kget (atN f all n) x=none):kput (atN f all n) x [.int .i64 ((rootsN f all n).length:Nat)]=atN f all (n+1):=by
 rw[kput_new _ _ hn]
 unfold atN
 rw[roots_new hx h,List.zipIdx_append]
 simp
theorem at_old {n:Nat}{x:PortZ}(hx:all[n]?=some x) (h:f x≠x):atN f all (n+1)=atN f all n:=by
 unfold atN
 rw[roots_old hx h]
theorem pairwise_nodup {l:List PortZ}(h:l.Pairwise fun a b=>beforeZ a b=true):l.Nodup:=by
 refine h.imp ?_
 rintro a b hab rfl
 rw[beforeZ_tot.irr]at hab
 cases hab
theorem not_before {n:Nat}{x:PortZ}(hs:all.Pairwise fun a b=>beforeZ a b=true) (hx:all[n]?=some x):x∉all.take n:=by
 intro hm
 obtain⟨i,hi,e⟩:=List.getElem_of_mem hm
 rw[List.length_take]at hi
 obtain⟨hn,hx1⟩:=List.getElem?_eq_some_iff.1 hx
 have h1:=List.pairwise_iff_getElem.1 hs i n (by omega) hn (by omega)
 rw[List.getElem_take]at e
 rw[e,hx1,beforeZ_tot.irr]at h1
 cases h1
theorem root_before {n:Nat}{x:PortZ}(hs:all.Pairwise fun a b=>beforeZ a b=true) (hx:all[n]?=some x) (hle:beforeZ x (f x)=false) (hne:f x≠x) (hm:f x∈all):f x∈all.take n:=by
 obtain⟨i,hi,e⟩:=List.getElem_of_mem hm
 obtain⟨hn,hx1⟩:=List.getElem?_eq_some_iff.1 hx
 have hin:i<n:=by
  rcases Nat.lt_trichotomy i n with h | h | h
  ·exact h
  ·subst h
   exact absurd (e.symm.trans hx1) hne
  ·have h1:=List.pairwise_iff_getElem.1 hs n i hn hi h
   rw[hx1,e]at h1
   rw[h1]at hle
   cases hle
 rw[<- e]
 exact List.mem_of_getElem? (i:=i) (by rw[List.getElem?_take,if_pos hin,List.getElem?_eq_getElem hi])
theorem fam_new {n:Nat}{x:PortZ}(hs:all.Pairwise fun a b=>beforeZ a b=true) (hx:all[n]?=some x) (h:f x=x) (hl:∀p,beforeZ p (f p)=false):famN f all (n+1)=famN f all n++[[x]]∧kget (atN f all n) x=none:=by
 have hnb:=not_before hs hx
 have hr:x∉rootsN f all n:=fun hm=>hnb (List.mem_filter.1 hm).1
 constructor
 ·unfold famN
  rw[roots_new hx h,List.map_append]
  congr 1
  ·apply List.map_congr_left
   intro r hrm
   rw[famR_snoc hx,if_neg (fun e=>hr (by rw[<- h,e];exact hrm))]
  ·rw[List.map_cons,List.map_nil,famR_snoc hx,if_pos h]
   have:famR f all n x=[]:=by
    unfold famR
    rw[List.filter_eq_nil_iff]
    intro q hq
    simp only[beq_iff_eq]
    intro e
    have h1:=hl q
    rw[e]at h1
    obtain⟨i,hi,e2⟩:=List.getElem_of_mem hq
    rw[List.length_take]at hi
    obtain⟨hn,hx1⟩:=List.getElem?_eq_some_iff.1 hx
    have h2:=List.pairwise_iff_getElem.1 hs i n (by omega) hn (by omega)
    rw[List.getElem_take]at e2
    rw[e2,hx1]at h2
    rw[h2]at h1
    cases h1
   rw[this]
   rfl
 ·rw[kget_at]
  have:(rootsN f all n).findIdx? (·==x)=none:=by
   rw[List.findIdx?_eq_none_iff]
   intro r hrm
   simp only[beq_eq_false_iff_ne]
   rintro rfl
   exact hr hrm
  rw[this]
  rfl
theorem fam_old {n:Nat}{x:PortZ}(hs:all.Pairwise fun a b=>beforeZ a b=true) (hx:all[n]?=some x) (h:f x≠x) (hl:beforeZ x (f x)=false) (hi:f (f x)=f x) (hm:f x∈all) :
  ∃k l,k<(rootsN f all n).length∧(famN f all n)[k]?=some l∧famN f all (n+1)=(famN f all n).set k (l++[x])∧kget (atN f all n) (f x)=some [.int .i64 (k:Nat)]:=by
 have hb:=root_before hs hx hl h hm
 have hr:f x∈rootsN f all n:=List.mem_filter.2 ⟨hb,by simp[hi]⟩
 obtain⟨k,hk⟩:∃k,(rootsN f all n).findIdx? (·==f x)=some k:=by
  rw[<- Option.isSome_iff_exists,List.findIdx?_isSome,List.any_eq_true]
  exact⟨f x,hr,by simp⟩
 obtain⟨hkl,hk1,hk2⟩:=List.findIdx?_eq_some_iff_getElem.1 hk
 simp only[beq_iff_eq]at hk1
 have hnd:(rootsN f all n).Nodup:=by
  have:(rootsN f all n).Pairwise fun a b=>beforeZ a b=true:=(hs.sublist (List.take_sublist _ _)).sublist List.filter_sublist
  exact pairwise_nodup this
 refine⟨k,famR f all n (f x),hkl,?_,?_,by rw[kget_at,hk];rfl⟩
 ·unfold famN
  rw[List.getElem?_map,List.getElem?_eq_getElem hkl,hk1]
  rfl
 ·unfold famN
  rw[roots_old hx h]
  apply List.ext_getElem?
  intro j
  rw[List.getElem?_map,List.getElem?_set]
  by_cases e:k=j
  ·subst e
   rw[if_pos rfl,List.getElem?_eq_getElem hkl,hk1]
   simp[famR_snoc hx,hkl]
  ·rw[if_neg e,List.getElem?_map]
   cases hj:(rootsN f all n)[j]? with
   | none=>rfl
   | some r=>
    obtain⟨hjl,hj1⟩:=List.getElem?_eq_some_iff.1 hj
    simp only[Option.map_some,Option.some.injEq]
    rw[famR_snoc hx,if_neg]
    intro e2
    refine e ?_
    have h1:=List.pairwise_iff_getElem.1 hnd
    rcases Nat.lt_trichotomy k j with h3 | h3 | h3
    ·exact absurd (by rw[hk1,hj1,e2]) (h1 k j hkl hjl h3)
    ·exact h3
    ·exact absurd (by rw[hk1,hj1,e2]) (h1 j k hjl hkl h3)
end
end
theorem wfI64 {n:Int}(h:I64 n):(Lit.int .i64 n).wf=true:=by
 unfold Lit.wf
 have h1:IntKind.min .i64 = -9223372036854775808:=by decide
 have h2:IntKind.max .i64=9223372036854775807:=by decide
 simp[h1,h2]
 exact h
theorem port_good (k:KeyK) (hk:okK k):goodK Tryz.prog 50 (kvK k):=by
 obtain⟨n,s⟩:=k
 obtain⟨hn,hs⟩:=hk
 simp only at hn hs
 have h0:(match Tryz.prog.underlying 50 with
  | some (.struct fs)=>decide (fs.toList.map (fun f:Field=>(f.type,f.offset))=[(3,0),(9,1)])&&fs.all (fun f:Field=>f.name != "_")
  | _=>false)=true:=by kernel_rfl
 split at h0<;>try (cases h0;done)
 rename_i fs hu
 simp only[Bool.and_eq_true,decide_eq_true_eq]at h0
 obtain⟨h1,h2⟩:=h0
 have hkt:Tryz.prog.keyType 50=true:=by kernel_rfl
 have hc:Tryz.prog.cellsOf 50=2:=by kernel_rfl
 have hci:Tryz.prog.cellsOf 3=1:=by kernel_rfl
 have hcb:Tryz.prog.cellsOf 9=1:=by kernel_rfl
 have hi:Tryz.prog.underlying 3=some (.int .i64):=by kernel_rfl
 have hb:Tryz.prog.underlying 9=some .string:=by kernel_rfl
 have hpos:decide (0<Tryz.prog.types.size)=true:=by kernel_rfl
 obtain⟨m,hm⟩:∃m,Tryz.prog.types.size=m+1:=⟨Tryz.prog.types.size-1,by
  have:=of_decide_eq_true hpos
  omega⟩
 have hI:Tryz.prog.keyLits (m+1) 3 [.int .i64 n]=some [.int .i64 n]:=by
  simp[Program.keyLits,hi,wfI64 hn]
 have hS:Tryz.prog.keyLits (m+1) 9 [.string ⟨s.toArray⟩]=some [.string s]:=by
  have:(⟨s.toArray⟩:ByteArray).size<=maxLen:=by
   show s.toArray.size<=maxLen
   simp[maxLen]
   omega
  simp[Program.keyLits,hb,this]
 have hl:Tryz.prog.keyLits (Tryz.prog.types.size+1) 50 [.int .i64 n,.string ⟨s.toArray⟩]=some [.int .i64 n,.string s]:=by
  rw[hm]
  unfold Program.keyLits
  rw[hu]
  simp only[hc,h2]
  have hmm:∀l:List (TypeId×Nat),l=fs.toList.map (fun f:Field=>(f.type,f.offset))->(fs.toList.mapM fun f:Field=>Tryz.prog.keyLits (m+1) f.type ((([.int .i64 n,.string ⟨s.toArray⟩]:List Value).drop f.offset).take (Tryz.prog.cellsOf f.type)))=l.mapM fun p=>Tryz.prog.keyLits (m+1) p.1 ((([.int .i64 n,.string ⟨s.toArray⟩]:List Value).drop p.2).take (Tryz.prog.cellsOf p.1)):=by
   rintro l rfl
   rw[List.mapM_map]
   rfl
  rw[hmm _ h1.symm]
  simp[hci,hcb,hI,hS]
 unfold goodK keyBs keyOf
 rw[hu]
 simp only[hkt]
 have hf:(kvK (n,s)).formed Tryz.prog 50=true:=by
  simp[kvK,Value.formed,hu,hc]
 have hcs:(kvK (n,s)).cells.toList=[.int .i64 n,.string ⟨s.toArray⟩]:=rfl
 rw[hf,hcs,hl]
 rfl
@[simp] theorem port_key:KeyP Tryz.prog 50=True:=by
 have h0:(match Tryz.prog.underlying 50 with | some (.array _ _) | some (.struct _)=>true | _=>false)=true:=by kernel_rfl
 exact eq_true ⟨deep_law (m:=4) (by omega) (by kernel_rfl) (by kernel_rfl) h0,port_good⟩
attribute [simp] keyP setK valK datLs
section
variable {ps:List Prt}{l:List PipeZ}
theorem stepQ {i:Nat}{p:Prt}(h:ps[i]?=some p) (h0:partE p=0):(i=0->stepE ps i=0)∧(∀j q,i=j+1->ps[j]?=some q->stepE ps i=if ltB q.name p.name=true then 0 else 9):=by
 constructor
 ·rintro rfl
  simp[stepE,h,h0]
 ·rintro j q rfl hq
  simp[stepE,h,h0,hq]
theorem kz_part {Q:PostQ}{i:Nat}(hi:i<ps.length) (hf:ps.length<=64) (hn:∀p∈ps,p.name.length<=1000)
  (hQ:stepE ps i=0->∀E' H',(∀z∈[(2,aI 0),(19,aI (i+1:Nat))],wk (E' z.1) z.2)->(∀z∈[(1,A.rptr (encCi ⟨ps,l⟩)),(17,.dat (.sl (ps.map encPa))),(18,aI ps.length)],E' z.1=z.2)->Q .normal E' H')
  (hR:stepE ps i≠0->∀E' H',E' 2=aI (stepE ps i)->Q .ret E' H') :
  vcC ⟨Tryz.prog,none,115⟩ (loopC Tryz.f49 0) (hdE [(1,.rptr (encCi ⟨ps,l⟩)),(17,.dat (.sl (ps.map encPa))),(18,aI ps.length)] [(2,aI 0),(19,aI i)]) [] Q:=by
 obtain⟨p,hp⟩:∃p,ps[i]=p:=⟨_,rfl⟩
 have hpo:ps[i]?=some p:=by rw[List.getElem?_eq_getElem hi,hp]
 have hc:=partG_fn p (by have:=hn p (List.mem_of_getElem? hpo);omega)
 refine vc_part rfl ?_
 by_cases h0:partE p=0
 ·rw[h0]at hc
  obtain⟨e0,es⟩:=stepQ hpo h0
  cases i with
  | zero=>
   simp[hi,hp]
   intro b4
   refine hc.s ?_
   simp
   refine V.drawX (fun t=>none) (by kernel_rfl) (by kernel_rfl) (by simp) ?_
   simp[hpo,hi,hp]
   exact hQ (e0 rfl) _ _ (by simp) (by simp)
  | succ i=>
   obtain⟨q,hq⟩:∃q,ps[i]=q:=⟨_,rfl⟩
   have hqo:ps[i]?=some q:=by rw[List.getElem?_eq_getElem (by omega),hq]
   have e1:=es i q rfl hqo
   simp[hi,hp]
   refine⟨fun _=>⟨⟨by omega,by omega⟩,fun b4=>?_⟩,fun h=>absurd h (by omega)⟩
   refine hc.s ?_
   simp
   refine V.drawX (fun t=>none) (by kernel_rfl) (by kernel_rfl) (by simp) ?_
   rw[e1]at hQ hR
   cases hlt:ltB q.name p.name
   ·rw[hlt]at hR
    have h3:Op.bytesLess p.name q.name=true∨p.name=q.name:=by
     cases h4:ltB p.name q.name
     ·exact .inr (ltB_total h4 hlt)
     ·exact .inl h4
    rcases h3 with h3 | h3
    ·simp[hqo,hq,show i<ps.length by omega,h3]
     refine⟨by omega,hR ?_ _ _ ?_⟩<;>simp
    ·simp[hqo,hq,show i<ps.length by omega,h3]
     refine⟨by omega,hR ?_ _ _ ?_⟩<;>simp
   ·have hlt2:Op.bytesLess p.name q.name=false:=ltB_asymm hlt
    have hne:¬(p.name=q.name):=fun e=>by rw[e,ltB_irrefl]at hlt;cases hlt
    rw[hlt]at hQ
    simp[hqo,hq,show i<ps.length by omega,hlt2,hne]
    exact⟨by omega,by omega,hQ rfl _ _ (by simp) (by simp)⟩
 ·have e1:stepE ps i=partE p:=by simp[stepE,hpo,h0]
  rw[e1]at hR
  simp[hi,hp]
  intro b4
  refine hc.s ?_
  simp[h0]
  exact hR h0 _ _ (by simp)
theorem kz_lim {Q:PostQ}{i:Nat}(hi:i<ps.length) (hf:ps.length<=64) (hn:∀p∈ps,p.name.length<=1000) (hne:∀p∈ps,p.name≠[])
  (hQ:limE ps i=0->∀E' H',(∀z∈[(2,aI 0),(47,aI (i+1:Nat))],wk (E' z.1) z.2)->(∀z∈[(1,A.rptr (encCi ⟨ps,l⟩)),(45,.dat (.sl (ps.map encPa))),(46,aI ps.length)],E' z.1=z.2)->Q .normal E' H')
  (hR:limE ps i≠0->∀E' H',E' 2=aI (limE ps i)->Q .ret E' H') :
  vcC ⟨Tryz.prog,none,115⟩ (loopC Tryz.f49 1) (hdE [(1,.rptr (encCi ⟨ps,l⟩)),(45,.dat (.sl (ps.map encPa))),(46,aI ps.length)] [(2,aI 0),(47,aI i)]) [] Q:=by
 obtain⟨p,hp⟩:∃p,ps[i]=p:=⟨_,rfl⟩
 have hpo:ps[i]?=some p:=by rw[List.getElem?_eq_getElem hi,hp]
 have hpm:=List.mem_of_getElem? hpo
 have ho:=ownerZ_fn ⟨ps,l⟩ p (by unfold Sh;simp only;omega) (hn p hpm) (hne p hpm)
 have hlt:=ownI_lt ps p.name
 have e1:limE ps i=if p.kind=6∧ownN ps p.name=false then 6 else 0:=by simp[limE,hpo]
 rw[e1]at hQ hR
 simp only at ho
 generalize ownI ps p.name=k at *
 generalize ownN ps p.name=z at *
 refine vc_part rfl ?_
 by_cases h6:p.kind=6
 ·rw[show encPa p=[L.int .i64 6,.str p.name,.int .i64 p.delay] by simp[h6]]at ho
  cases z
  ·have hk:=hlt.2 rfl
   simp[hi,hp]
   intro b7
   simp[h6]
   refine GCall.fn (aI k) (fun _=>⟨trivial,ho⟩) ?_
   simp[h6,hk]
   refine hR ?_ _ _ ?_<;>simp[h6]
  ·have hk:¬k<0:=fun h=>by have:=hlt.1 h;cases this
   simp[hi,hp]
   intro b7
   simp[h6]
   refine GCall.fn (aI k) (fun _=>⟨trivial,ho⟩) ?_
   simp[h6,hk]
   exact⟨by omega,hQ (by simp) _ _ (by simp) (by simp)⟩
 ·simp[hi,hp]
  intro b7
  simp[h6]
  refine GCall.fn .undef (fun h=>absurd h (by simp)) ?_
  simp
  exact⟨by omega,by omega,hQ (by simp[h6]) _ _ (by simp) (by simp)⟩
theorem kz_pipe {Q:PostQ}{i:Nat}(hi:i<l.length) (hf:ps.length<=64) (hm:l.length<=256) (hk:∀p∈ps,0<=p.kind∧p.kind<14)
  (hQ:pipeE ⟨ps,l⟩ i=0->∀E' H',(∀z∈[(2,aI 0),(68,aI (i+1:Nat))],wk (E' z.1) z.2)->(∀z∈[(1,A.rptr (encCi ⟨ps,l⟩)),(66,.dat (.sl (l.map encPi))),(67,aI l.length)],E' z.1=z.2)->Q .normal E' H')
  (hR:pipeE ⟨ps,l⟩ i≠0->∀E' H',E' 2=aI (pipeE ⟨ps,l⟩ i)->Q .ret E' H') :
  vcC ⟨Tryz.prog,none,115⟩ (loopC Tryz.f49 2) (hdE [(1,.rptr (encCi ⟨ps,l⟩)),(66,.dat (.sl (l.map encPi))),(67,aI l.length)] [(2,aI 0),(68,aI i)]) [] Q:=by
 obtain⟨x,hx⟩:∃x,l[i]=x:=⟨_,rfl⟩
 have hxo:l[i]?=some x:=by rw[List.getElem?_eq_getElem hi,hx]
 have hsh:Sh ps:=by unfold Sh;omega
 have c1:=indexedZ_fn ⟨ps,l⟩ x.1 x.2 hsh
 have c2:=existsZ_fn ⟨ps,l⟩ x.1 x.2 hsh hk
 have c3:=compareZ_fn x.1 x.2
 have hd:=cmpZ_lt x.1 x.2
 have hpe:pipeE ⟨ps,l⟩ i=if inPort ps x.1=false∨inPort ps x.2=false then 2 else if hasPort ps x.1=false∨hasPort ps x.2=false then 6 else if beforeZ x.1 x.2=false then 9 else match i with
   | 0=>0
   | j+1=>match l[j]? with
    | some y=>if earlierZ y x=true then 0 else 9
    | none=>0:=by
  unfold pipeE
  rw[show (⟨ps,l⟩:Cir).pipes[i]?=some x from hxo]
  cases i<;>rfl
 obtain⟨⟨x1,x2⟩,x3,x4⟩:=x
 simp only at c1 c2 c3 hd hQ hR
 generalize inPort ps (x1,x2)=i1 at *
 generalize inPort ps (x3,x4)=i2 at *
 generalize hasPort ps (x1,x2)=p1 at *
 generalize hasPort ps (x3,x4)=p2 at *
 generalize cmpZ (x1,x2) (x3,x4)=cp at *
 generalize beforeZ (x1,x2) (x3,x4)=bf at *
 refine vc_part rfl ?_
 simp[hi,hx]
 intro b9
 refine c1.s ?_
 by_cases hin:i1=true∧i2=true
 ·obtain⟨rfl,rfl⟩:=hin
  simp
  refine (c2 rfl rfl).s ?_
  by_cases hhas:p1=true∧p2=true
  ·obtain⟨rfl,rfl⟩:=hhas
   cases bf
   ·have hd2:0<=cp:=by
     rcases Int.lt_or_le cp 0 with h | h
     ·have:=hd.1 h;cases this
     ·exact h
    simp
    refine V.drawX (fun t=>if t=97 then some (.fn (aI cp)) else if t=110 then some (.fn (aI 0)) else none) (by kernel_rfl) (by kernel_rfl) (by simp) ?_
    simp[hxo,hx,hi,hd2]
    rw[show pipeE ⟨ps,l⟩ i=9 from by rw[hpe];simp]at hR
    refine⟨c3,hR (by simp) _ _ ?_⟩
    simp
   ·have hd2:¬ 0<=cp:=by have:=hd.2 rfl;omega
    cases i with
    | zero=>
     simp
     refine V.drawX (fun t=>if t=97 then some (.fn (aI cp)) else if t=110 then some (.fn (aI 0)) else none) (by kernel_rfl) (by kernel_rfl) (by simp) ?_
     simp[hxo,hx,hi,hd2]
     exact⟨c3,hQ (by rw[hpe];simp) _ _ (by simp) (by simp)⟩
    | succ i=>
     obtain⟨w,hw⟩:∃w,l[i]=w:=⟨_,rfl⟩
     have hwo:l[i]?=some w:=by rw[List.getElem?_eq_getElem (by omega),hw]
     have c4:=pipesZ_fn w ((x1,x2),x3,x4)
     have hlt:=cmpZZ_lt w ((x1,x2),x3,x4)
     simp only[hwo]at hpe
     generalize cmpZZ w ((x1,x2),x3,x4)=cq at *
     generalize earlierZ w ((x1,x2),x3,x4)=ea at *
     obtain⟨⟨w1,w2⟩,w3,w4⟩:=w
     simp
     refine V.drawX (fun t=>if t=97 then some (.fn (aI cp)) else if t=110 then some (.fn (aI cq)) else none) (by kernel_rfl) (by kernel_rfl) (by simp) ?_
     cases ea
     ·have hlt2:0<=cq:=by
       rcases Int.lt_or_le cq 0 with h | h
       ·have:=hlt.1 h;cases this
       ·exact h
      simp[hwo,hw,hi,hd2,hlt2,show i<l.length by omega]
      rw[show pipeE ⟨ps,l⟩ (i+1)=9 from by rw[hpe];simp]at hR
      refine⟨c3,by omega,c4,hR (by simp) _ _ ?_⟩
      simp
     ·have hlt2:¬ 0<=cq:=by have:=hlt.2 rfl;omega
      simp[hwo,hw,hi,hd2,hlt2,show i<l.length by omega]
      exact⟨c3,by omega,c4,by omega,hQ (by rw[hpe];simp) _ _ (by simp) (by simp)⟩
  ·have hne:¬(p1=true∧p2=true):=hhas
   have h2:p1=false∨p2=false:=by cases p1<;>cases p2<;>simp_all
   simp[hne]
   rw[show pipeE ⟨ps,l⟩ i=6 from by rw[hpe];simp[h2]]at hR
   refine hR (by simp) _ _ ?_
   simp
 ·have h2:i1=false∨i2=false:=by cases i1<;>cases i2<;>simp_all
  simp[hin]
  rw[show pipeE ⟨ps,l⟩ i=2 from by rw[hpe];simp[h2]]at hR
  refine hR (by simp) _ _ ?_
  simp
theorem stepE_part {ps:List Prt}{n:Nat}(h:firstE (stepE ps) n=0):∀i p,i<n->ps[i]?=some p->partE p=0:=by
 intro i p hi hp
 have:=firstE_zero n h i hi
 by_cases h0:partE p=0
 ·exact h0
 ·rw[show stepE ps i=partE p by simp[stepE,hp,h0]]at this
  exact absurd this h0
theorem partE_kindZ {p:Prt}(h:partE p=0):0<=p.kind∧p.kind<14:=by
 unfold partE at h
 split at h
 ·cases h
 ·rename_i h1
  exact Classical.not_not.1 h1
theorem partE_ne {p:Prt}(h:partE p=0):p.name≠[]:=by
 rintro e
 unfold partE at h
 split at h
 ·cases h
 ·rw[e]at h
  simp[wordE]at h
theorem CheckZ_fn (c:Cir) (hs:c.parts.length<=64->∀p∈c.parts,p.name.length<=1000) (hl:Sh c.parts) (hl2:Sh c.pipes):CallFn Tryz.prog 49 [aCi c] (aI (cirE c)):=by
 obtain⟨ps,l⟩:=c
 unfold cirE
 simp only at hs hl hl2 ⊢
 refine callFz_cut 3 Tryz.func49 rfl Tryz.ntmps49 (rs:=[.tmp 2]) rfl (by kernel_rfl) (by simp) (by kernel_rfl) ?_
 simp
 refine⟨fun h1 h2=>absurd h1 (by omega),fun h64=>?_⟩
 have h64':¬ 64<ps.length:=by omega
 have hs:=hs (by omega)
 rw[if_neg h64']
 refine V.forI (σ:=Unit) ps.length [1,17,18] (by simp;exact rfl) (fun i _=>[(2,aI 0),(19,aI i)]) (fun _ _=>[]) (fun i _=>firstE (stepE ps) i=0) () rfl (by simp) ⟨by simp;exact rfl,by simp⟩ ?_ ?_
 ·rintro i-hi hI
  refine vc_of_part rfl (kz_part hi (by omega) hs (fun h0 E' H' q1 q2=>⟨(),by rw[firstE_step hI,h0],q1,q2,by simp⟩) fun h0 E' H' q=>?_)
  have:=firstE_hit hI hi h0
  simp[RetV,q,this,h0]
 ·rintro-hI
  rw[hI]
  have hpart:=stepE_part hI
  have hall:∀p∈ps,partE p=0:=fun p hp=>by
   obtain⟨i,hi,e⟩:=List.getElem_of_mem hp
   exact hpart i p hi (by rw[List.getElem?_eq_getElem hi,e])
  simp
  refine V.cutV [(1,.rptr (encCi ⟨ps,l⟩)),(2,aI 0)] (Hs:=[]) (by simp) (by simp) (V.of_vcN 1 ?_)
  simp
  refine V.forI (σ:=Unit) ps.length [1,45,46] (by simp;exact rfl) (fun i _=>[(2,aI 0),(47,aI i)]) (fun _ _=>[]) (fun i _=>firstE (limE ps) i=0) () rfl (by simp) ⟨by simp;exact rfl,by simp⟩ ?_ ?_
  ·rintro i-hi hI
   refine vc_of_part rfl (kz_lim hi (by omega) hs (fun p hp=>partE_ne (hall p hp)) (fun h0 E' H' q1 q2=>⟨(),by rw[firstE_step hI,h0],q1,q2,by simp⟩) fun h0 E' H' q=>?_)
   have:=firstE_hit hI hi h0
   simp[RetV,q,this,h0]
  ·rintro-hI
   rw[hI]
   simp
   refine V.cutV [(1,.rptr (encCi ⟨ps,l⟩)),(2,aI 0)] (Hs:=[]) (by simp) (by simp) (V.of_vcN 2 ?_)
   simp
   refine⟨fun h1 h2=>absurd h1 (by omega),fun h256=>?_⟩
   have h256':¬ 256<l.length:=by omega
   rw[if_neg h256']
   refine V.forI (σ:=Unit) l.length [1,66,67] (by simp;exact rfl) (fun i _=>[(2,aI 0),(68,aI i)]) (fun _ _=>[]) (fun i _=>firstE (pipeE ⟨ps,l⟩) i=0) () rfl (by simp) ⟨by simp;exact rfl,by simp⟩ ?_ ?_
   ·rintro i-hi hI
    refine vc_of_part rfl (kz_pipe hi (by omega) (by omega) (fun p hp=>partE_kindZ (hall p hp)) (fun h0 E' H' q1 q2=>⟨(),by rw[firstE_step hI,h0],q1,q2,by simp⟩) fun h0 E' H' q=>?_)
    have:=firstE_hit hI hi h0
    simp[RetV,q,this]
   ·rintro-hI
    rw[hI]
    simp
    refine V.of_vc ?_
    simp
end
abbrev upH (b r:Nat) (us:List (PortZ×PortZ)):Heap:=[(170,.box b [.map 171 r]),(171,.mapK r true (encUp us))]
theorem getD_enc (o:Option PortZ):(o.map encPo).getD [.int .i64 0,.str []]=encPo (o.getD (0,[])):=by cases o<;>rfl
theorem root_s {us:List (PortZ×PortZ)}{f:PortZ->PortZ}(h:UpR us f) (ho:∀u∈us,okK u.2) (p:PortZ) (hp:okK p) (b r:Nat) :
  CallS Tryz.prog 120 [.record (encPo p),.ptr 170 b 0] (upH b r us) fun v H'=>v=.record (encPo (f p))∧H'=upH b r us:=by
 refine CallS.agg (az:=[]) (bz:=[.ptr 170 b 0]) (CallS.dropP (callS_of Tryz.func120 rfl Tryz.ntmps120 (rs:=[.cell 3 50]) rfl (by kernel_rfl) (by simp) (by kernel_rfl) (K:=fun v H'=>v=.record (encPo (f p))∧subP (upH b r us) H') ?_) (fun v H' ⟨e,hh⟩=>⟨_,hh,e,rfl⟩))
 simp[kget_enc,getD_enc]
 intro b2 b3
 refine⟨hp,fun b4=>?_⟩
 refine V.for' [1,2,3] (fun s:PortZ×Nat=>[(4,.ptr 4 s.2 0),(5,aB (kget us s.1).isSome)])
  (fun s=>[(4,.box s.2 [aI ((kget us s.1).getD (0,[])).1,aT ((kget us s.1).getD (0,[])).2]),(3,.box b3 [aI 0,aT []]),(2,.box b2 [aI s.1.1,aT s.1.2]),(170,.box b [.map 171 r]),(171,.mapK r true (encUp us))])
  (fun s=>f s.1=f p∧okK s.1) (fun s=>mU us s.1) (p,b4) ⟨⟨rfl,hp⟩,by simp,?_⟩ ?_
 ·exact subP.refl _
 ·rintro⟨q,c4⟩ ⟨h1,h2⟩
  simp only at h1 h2
  cases hq:kget us q with
  | none=>
   have h3:=h.none q hq
   rw[h3]at h1
   subst h1
   simp[hq]
   exact subP.c (subP.c (subP.c (subP.refl _) _) _) _
  | some y=>
   obtain⟨h3,h4⟩:=h.some q y hq
   have h5:=ho _ (kget_mem hq)
   simp[hq,kget_enc,getD_enc]
   intro b1
   exact⟨h5,y.1,y.2,⟨h3.symm.trans h1,h5⟩,mU_lt hq h4,b1,⟨rfl,rfl⟩,subP.refl _⟩
abbrev rPo (p:PortZ):List A:=[.dat (.int .i64 p.1),.dat (.str p.2)]
theorem rowsD_Po (xs:List PortZ):rowsD (xs.map rPo)=xs.map encPo:=by unfold rowsD;rw[List.map_map];rfl
theorem allD_Po (xs:List PortZ):allD (xs.map rPo)=true:=by simp[allD,isD]
attribute [simp] rowsD_Po allD_Po
theorem all_fn (c:Cir) (hk:∀p∈c.parts,0<=p.kind∧p.kind<14) (h64:c.parts.length<=64):CallFn Tryz.prog 121 [aCi c] (.dat (.sl ((allP c.parts).map encPo))):=by
 obtain⟨ps,l⟩:=c
 simp only at hk h64 ⊢
 unfold allP
 have hal:=allN_len ps
 refine callFz_of Tryz.func121 rfl Tryz.ntmps121 (rs:=[.tmp 2]) rfl (by kernel_rfl) (by simp) (by kernel_rfl) ?_
 simp
 refine V.forI (σ:=Value) ps.length [2,9,10] (by simp;exact rfl) (fun i g=>[(3,.own 50 g),(11,aI i)]) (fun i g=>[(50,.seq g 50 2 ((allN ps i).map rPo))]) (fun _ _=>True) (.slice none 0 0) trivial (by simp) ⟨by simp;exact rfl,by simp[allN]⟩ ?_ ?_
 ·rintro i g hi -
  obtain⟨p,hp⟩:∃p,ps[i]=p:=⟨_,rfl⟩
  have hpo:ps[i]?=some p:=by rw[List.getElem?_eq_getElem hi,hp]
  have hkp:=hk p (List.mem_of_getElem? hpo)
  have hpf:=portsZ_fn p hkp
  have hlen:=portsK_len p.kind.toNat
  have hle:=hal i
  rw[allN_succ,show portsOf ps i=(portsK p.kind.toNat).map fun t=>((i:Int),t) by simp[portsOf,hpo]]
  generalize portsK p.kind.toNat=F at *
  generalize allN ps i=W at *
  simp[hi,hp]
  intro b5
  refine hpf.s ?_
  simp
  refine V.forI (σ:=Value) F.length [2,4,9,10,11,17,18] (by simp;exact rfl) (fun j g=>[(3,.own 50 g),(19,aI j)]) (fun j g=>[(50,.seq g 50 2 ((W++(F.take j).map fun t=>((i:Int),t)).map rPo))]) (fun _ _=>True) g trivial (by simp) ⟨by simp;exact rfl,by simp⟩ ?_ ?_
  ·rintro j g2 hj -
   obtain⟨x,hx⟩:∃x,F[j]=x:=⟨_,rfl⟩
   have hxo:F[j]?=some x:=by rw[List.getElem?_eq_getElem hj,hx]
   rw[List.take_add_one,hxo]
   simp[hj,hx,hxo]
   omega
  ·rintro g2 -
   simp
   omega
 ·rintro g -
  simp
section
theorem okK_port {ps:List Prt}{p:PortZ}(hl:ps.length<=1000000) (h:p∈allP ps):okK p:=by
 obtain⟨i,q,hi,_,h1,h2⟩:=mem_allN.1 h
 have:=portsK_short _ _ h2
 exact⟨by omega,by omega⟩
theorem kput_mem {α:Type}{k:KeyK}{v:α}:∀ {us:List (KeyK×α)}{u:KeyK×α},u∈kput us k v->u=(k,v)∨u∈us
 | [],u,h=>by simp[kput]at h;exact .inl h
 | w::us,u,h=>by
  simp only[kput]at h
  split at h
  ·rename_i e
   rcases List.mem_cons.1 h with rfl | h
   ·exact .inl (by rw[e])
   ·exact .inr (List.mem_cons_of_mem _ h)
  ·rcases List.mem_cons.1 h with rfl | h
   ·exact .inr (by simp)
   ·rcases kput_mem h with h | h
    ·exact .inl h
    ·exact .inr (List.mem_cons_of_mem _ h)
variable {ps:List Prt}{l:List PipeZ}
abbrev nzK (ps:List Prt) (l:List PipeZ) (b3:Nat):List (Nat×A):=[(1,.rptr (encCi ⟨ps,l⟩)),(2,.nils),(3,.ptr 170 b3 0),(4,.fn 120 [] [.ptr 170 b3 0]),(19,.dat (.sl (l.map encPi))),(20,aI l.length)]
theorem nz_pipe {Q:PostQ}{b3 r i:Nat}{us:List (PortZ×PortZ)}(hi:i<l.length) (hm:l.length<=256) (hfew:ps.length<=64) (hinall:∀x∈l,x.1∈allP ps∧x.2∈allP ps)
  (hcl:∀p,p∈allP ps->rootF (l.take i) p∈allP ps) (hI:UpR us (rootF (l.take i))) (hU:∀u∈us,u.2∈allP ps)
  (hQ:∀us',UpR us' (rootF (l.take (i+1)))->(∀u∈us',u.2∈allP ps)->∀E' H',wk (E' 21) (aI (i+1:Nat))->(∀z∈nzK ps l b3,E' z.1=z.2)->subN (upH b3 r us') H'->Q .normal E' H') :
  vcC ⟨Tryz.prog,none,88⟩ (loopC Tryz.f56 0) (hdE (nzK ps l b3) [(21,aI i)]) (upH b3 r us) Q:=by
 obtain⟨x,hx⟩:∃x,l[i]=x:=⟨_,rfl⟩
 have hxo:l[i]?=some x:=by rw[List.getElem?_eq_getElem hi,hx]
 obtain⟨hx1,hx2⟩:=hinall x (List.mem_of_getElem? hxo)
 have hu:∀u∈us,okK u.2:=fun u hu=>okK_port (by omega) (hU u hu)
 have c1:=root_s hI hu x.1 (okK_port (by omega) hx1) b3 r
 have c2:=root_s hI hu x.2 (okK_port (by omega) hx2) b3 r
 have e1:=hcl _ hx1
 have e2:=hcl _ hx2
 have hstep:=rootF_take hxo
 have hs:=@upR_same us _ hI x
 have hp:=@upR_put us _ hI x
 rw[<- hstep]at hs hp
 obtain⟨⟨x1,x2⟩,x3,x4⟩:=x
 simp only at c1 c2 e1 e2 hs hp
 generalize rootF (l.take i) (x1,x2)=a at *
 generalize rootF (l.take i) (x3,x4)=b at *
 have c3:=compareZ_fn a b
 have g1:=cmpZ_gt a b
 have oka:=okK_port (ps:=ps) (by omega) e1
 have okb:=okK_port (ps:=ps) (by omega) e2
 refine vc_part rfl ?_
 simp[hi,hx,hxo]
 intro b6
 refine V.drawX (fun t=>if t=28 then some (.ro (.record (encPo a))) else if t=32 then some (.ro (.record (encPo b))) else none) (by kernel_rfl) (by kernel_rfl) (by simp) ?_
 simp
 refine⟨c1,c2,fun b7 b8=>⟨by kernel_rfl,c3.s ?_⟩⟩
 by_cases hb:beforeZ b a=true
 ·have h0:=g1.2 hb
  have hne:a≠b:=fun e=>by rw[e,beforeZ_tot.irr]at hb;cases hb
  have hh:hiP a b=a∧loP a b=b:=by unfold hiP loP;simp[hb]
  have h1:=hp hne
  rw[hh.1,hh.2]at h1
  have hne2:¬(b.1=a.1∧b.2=a.2):=fun e=>hne (Prod.ext e.1 e.2).symm
  simp[h0,hne2,kput_enc]
  exact fun _=>⟨oka,by omega,hQ _ h1 (fun u hu=>by
   rcases kput_mem hu with rfl | hu
   ·exact e2
   ·exact hU u hu) _ _ (by simp) (by simp) (by simp)⟩
 ·have h0:¬ 0<cmpZ a b:=fun h=>hb (g1.1 h)
  by_cases he:a=b
  ·subst he
   simp[h0]
   exact⟨by omega,hQ _ (hs rfl) hU _ _ (by simp) (by simp) (by simp)⟩
  ·have hh:hiP a b=b∧loP a b=a:=by unfold hiP loP;simp[hb]
   have h1:=hp he
   rw[hh.1,hh.2]at h1
   have hne2:¬(a.1=b.1∧a.2=b.2):=fun e=>he (Prod.ext e.1 e.2)
   simp[h0,hne2,kput_enc]
   exact fun _=>⟨okb,by omega,hQ _ h1 (fun u hu=>by
    rcases kput_mem hu with rfl | hu
    ·exact e1
    ·exact hU u hu) _ _ (by simp) (by simp) (by simp)⟩
end
theorem Inv.mid {A B C D:Heap}(h:∀x H0,Inv x (A++H0)->Inv x (B++H0)) (x:X) (H0:Heap) (hi:Inv x ((C++A++D)++H0)):Inv x ((C++B++D)++H0):=by
 have p1:((C++A++D)++H0).Perm (A++(C++D++H0)):=by
  rw[List.append_assoc,List.append_assoc]
  refine (List.perm_append_comm_assoc C A (D++H0)).trans ?_
  rw[List.append_assoc]
 have p2:(B++(C++D++H0)).Perm ((C++B++D)++H0):=by
  rw[List.append_assoc C B D,List.append_assoc,List.append_assoc]
  refine (List.perm_append_comm_assoc B C (D++H0)).trans ?_
  rw[List.append_assoc]
 exact (h x _ (hi.perm p1.symm)).perm p2.symm
abbrev ownR (h:Value):List A:=[.own 90 h]
abbrev famQ (h:Value) (l:List PortZ):Sq:=(h,50,2,l.map rPo)
theorem freeze_fam {x:X}{g:Value}{e sz:Nat}{q:Sq}{l sp:List Sq}{hs:List Value}{fs:List (List PortZ)}{H:Heap}(hl:hs.length=fs.length)
  (hp:(q::l).Perm (List.zipWith famQ hs fs++sp)) (hi:Inv x ([(90,sq q),(91,.seqs l),(50,.seq g e sz (hs.map ownR))]++H)) :
  ∃y:X,y.w=x.w∧x.le y∧Inv y ([(50,.seq g e sz (fs.map fun l=>[.dat (.sl (l.map encPo))]))]++H):=by
 have h1:Inv x ((91,.seqs (q::l))::(50,.seq g e sz (hs.map ownR))::H):=inv_shut hi
 have h2:Inv x ([(91,.seqs (List.zipWith famQ hs fs++sp))]++((50,.seq g e sz (hs.map ownR))::H)):=inv_shuffle hp h1
 obtain⟨y,hw,hle,hi2,hok,-⟩:=h2.freeze
 have hsq:∀s∈List.zipWith famQ hs fs++sp,∃xs,y.w.ownsRow 0 s.2.1 s.2.2.1 s.1 s.2.2.2.length xs∧(∀r∈s.2.2.2,r.length=s.2.2.1)∧Ds y s.2.2.2.flatten xs:=by
  have:=Ent.sat_step hle (fun b _=>by rw[hw]) (h2.sat (91,.seqs (List.zipWith famQ hs fs++sp)) (by simp))
  exact this.1
 have hdat:∀h f,famQ h f∈List.zipWith famQ hs fs->RdL y (.sl (f.map encPo)) h:=by
  intro h f hm
  have hm2:famQ h f∈List.zipWith famQ hs fs++sp:=List.mem_append.2 (.inl hm)
  have:=seq_data (x:=y) (h:=h) (e:=50) (sz:=2) (rows:=f.map rPo) (hsq _ hm2) (fun b hb=>hok b ⟨_,List.mem_singleton.2 rfl,_,hm2,hb⟩) (allD_Po f)
  rwa [rowsD_Po]at this
 refine⟨y,hw,hle,?_⟩
 have hsat:Ent.sat y (.seq g e sz (fs.map fun l=>[.dat (.sl (l.map encPo))])):=by
  obtain⟨xs,ho,hr,hd⟩:=hi2.sat (50,.seq g e sz (hs.map ownR)) (by simp)
  refine⟨xs,by simpa [hl]using ho,?_,?_⟩
  ·intro r hrm
   obtain⟨f,hf,rfl⟩:=List.mem_map.1 hrm
   obtain⟨i,hi1,e1⟩:=List.getElem_of_mem hf
   have:=hr (ownR (hs[i]'(by omega))) (List.mem_map.2 ⟨_,List.getElem_mem _,rfl⟩)
   simpa using this
  ·clear hi2 ho hr h1 h2 hp hsq hok hi
   induction hs generalizing fs xs with
   | nil=>
    cases fs with
    | nil=>simpa using hd
    | cons _ _=>simp at hl
   | cons h hs ih=>
    cases fs with
    | nil=>simp at hl
    | cons f fs=>
     cases xs with
     | nil=>simp[Ds]at hd
     | cons v vs=>
      simp only[List.map_cons,List.flatten_cons,List.cons_append,List.nil_append,Ds,D]at hd ⊢
      refine⟨?_,ih (by simpa using hl) (fun h' f' hm=>hdat h' f' (by simp[hm])) vs hd.2⟩
      rw[hd.1.1]
      exact hdat h f (by simp)
 have hi3:=Inv.swap (H:=[(50,.seq g e sz (hs.map ownR))]) (g:=50) (e:=.seq g e sz (hs.map ownR)) (e':=.seq g e sz (fs.map fun l=>[.dat (.sl (l.map encPo))])) rfl (fun _=>hsat) (fun b hb=>hb) (H0:=H) hi2
 simpa using hi3
section
variable {P:Program}
theorem V.forV {C:Cfg}{E:Env}{H:Heap}{Q:PostQ}{c:Code}{σ:Type}{kv:List (Nat×A)}{kh:Heap}(n:Nat) (Lv:List Nat) (hkv:kv=Lv.map fun t=>(t,E t)) (sl:Nat->σ->List (Nat×A)) (Hs:Nat->σ->Heap) (I:Nat->σ->Prop) (s0:σ)
  (hI0:I 0 s0) (hE0:∀p∈sl 0 s0,wk (E p.1) p.2) (hH0:kh=kpH (Hs 0 s0) H∧subN (hcat (Hs 0 s0) kh) H)
  (hb:∀i s,i<n->I i s->V C c (hdE kv (sl i s)) (hcat (Hs i s) kh) (LoopQ Q (Gh fun E' H'=>
   ∃s',I (i+1) s'∧(∀p∈sl (i+1) s',wk (E' p.1) p.2)∧(∀p∈kv,E' p.1=p.2)∧subN (hcat (Hs (i+1) s') kh) H')))
  (he:∀s,I n s->vcC C c (hdE kv (sl n s)) (hcat (Hs n s) kh) (LoopQ Q fun _ _=>False)):V C (.loop c) E H Q:=by
 intro hf x act H0 ms hi hen
 have hhead:∀ {i:Nat}{s:σ}{E':Env}{y:X}{a:Act}{ds:List Deferred},EnvOK C.n ds y a E'->(∀p∈sl i s,wk (E' p.1) p.2)->(∀p∈kv,E' p.1=p.2)->EnvOK C.n ds y a (hdE kv (sl i s)):=by
  intro i s E' y a ds h h1 h2
  refine⟨h.defers,h.size,sets_wk h.slot _ _ h1 (sets_wk h.slot _ _ ?_ fun t=>by simp[anyE,D])⟩
  intro p hp
  rw[h2 p hp]
  simp
 have h00:∀p∈kv,E p.1=p.2:=by
  intro p hp
  rw[hkv]at hp
  obtain⟨t,_,rfl⟩:=List.mem_map.1 hp
  rfl
 have key:W C (.loop c) (hdE kv (sl 0 s0)) (hcat (Hs 0 s0) kh) Q:=by
  refine W.loop (fun m E' H'=>∃i s,i<=n∧I i s∧n-i=m∧E'=hdE kv (sl i s)∧H'=hcat (Hs i s) kh) n ⟨0,s0,Nat.zero_le _,hI0,rfl,rfl,rfl⟩ ?_
  rintro m _ _ ⟨i,s,hin,hI,rfl,rfl,rfl⟩
  rcases Nat.lt_or_ge i n with hlt | hge
  ·have hw:=hb i s hlt hI hf
   intro x act H0 ms hi hen
   refine wpIn_mono (hw x act H0 ms hi hen) ?_
   rintro e a' w' ⟨y,E',H',ms',rfl,hle,hi',he',hq⟩
   cases e with
   | normal=>
    obtain⟨z,E2,H2,w2,l2,i2,e2,s',h1,h3,h4,h5⟩:=hq C.n (ms'.map mk) y a' _ hi' he'
    exact⟨z,_,_,ms',w2,hle.trans l2,subN_inv h5 i2,hhead e2 h3 h4,n-(i+1),by omega,i+1,s',by omega,h1,rfl,rfl,rfl⟩
   | exit k=>exact⟨y,E',H',ms',rfl,hle,hi',he',hq⟩
   | ret=>exact⟨y,E',H',ms',rfl,hle,hi',he',hq⟩
   | goto k=>exact hq.elim
   | panic k=>exact hq.elim
   | outgrown=>exact hq.elim
  ·obtain rfl:i=n:=by omega
   have hw:=vcC_ok c _ _ _ hf (he s hI)
   intro x act H0 ms hi hen
   refine wpIn_mono (hw x act H0 ms hi hen) ?_
   rintro e a' w' ⟨y,E',H',ms',rfl,hle,hi',he',hq⟩
   cases e with
   | normal=>exact hq.elim
   | exit k=>exact⟨y,E',H',ms',rfl,hle,hi',he',hq⟩
   | ret=>exact⟨y,E',H',ms',rfl,hle,hi',he',hq⟩
   | goto k=>exact hq.elim
   | panic k=>exact hq.elim
   | outgrown=>exact hq.elim
 refine key x act H0 ms (subN_inv hH0.2 hi) (hhead hen hE0 h00)
theorem V.blockV {C:Cfg}{id:Nat}{c:Code}{E:Env}{H:Heap}{Q:PostQ}(h:V C c E H (blockQ id Q)):V C (.block id c) E H Q:=by
 intro hf
 simp only[fitsC]at hf
 exact W.block (h hf)
theorem V.part {f:Func}{k:Nat}{c:Code}{C:Cfg}{E:Env}{H:Heap}{Q:PostQ}(h:loopO f k=some c) (hv:V C c E H Q):V C (loopC f k) E H Q:=by
 unfold loopC
 rw[h]
 exact hv
theorem V.of_part {f:Func}{k:Nat}{c:Code}{C:Cfg}{E:Env}{H:Heap}{Q:PostQ}(h:loopO f k=some c) (hv:V C (loopC f k) E H Q):V C c E H Q:=by
 unfold loopC at hv
 rw[h]at hv
 exact hv
end
end Go.Proofs.YtafamcbdaeppoaaGreatDoor
