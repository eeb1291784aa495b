/- Texts joined by a program: Kz,Ql,Qsa,Of,Lo,Qa,Oaa,Oc. -/
import Derived.Test.YtafamcbdaeppoaaGreatDoorE16
import Derived.Test.YtafamcbdaeppoaaGreatDoorE14
import Derived.Test.YtafamcbdaeppoaaGreatDoorE15
import Derived.Test.YtafamcbdaeppoaaGreatDoorE13
set_option linter.unusedSimpArgs false
set_option linter.unusedVariables false
set_option maxHeartbeats 8000000
set_option maxRecDepth 100000
namespace Go.Proofs.YtafamcbdaeppoaaGreatDoor
theorem CallY.args {P:Program}{l:Nat}{az az':List A}{H:Heap}{K:A->Heap->Prop}(ha:∀x vs,Ds x az vs->Ds x az' vs) (h:CallY P l az' H K):CallY P l az H K:=
 fun x args H0 hi hd=>h x args H0 hi (ha x _ hd)
theorem GCall.sure {P:Program}{q p:Prop}{g:FuncId}{az:List A}{H:Heap}{K:A->Heap->Prop}(h:p∧CallS P g az H K) (hq:q):GCall P q p g az H K:=.inr ⟨fun _=>h,fun hn=>absurd hq hn⟩
theorem GCall.never {P:Program}{q p:Prop}{g:FuncId}{az:List A}{H:Heap}{K:A->Heap->Prop}(hq:¬q) (r:A) (h:K r H):GCall P q p g az H K:=.inr ⟨fun h=>absurd h hq,fun _=>⟨r,h⟩⟩
abbrev rN (n:Nat):List A:=[.dat (.int .i64 (n:Int))]
abbrev encN (n:Nat):List L:=[.int .i64 (n:Int)]
theorem rowsD_n (xs:List Nat):rowsD (xs.map rN)=xs.map encN:=by unfold rowsD;rw[List.map_map];rfl
theorem allD_n (xs:List Nat):allD (xs.map rN)=true:=by simp[allD,isD]
attribute [simp] rowsD_n allD_n
theorem port_of {ps:List Prt}{i:Nat}{t:List UInt8}(hi:i<ps.length) (ht:t∈portsK (kindOf ps i)):((i:Int),t)∈allP ps:=by
 unfold allP
 rw[mem_allN]
 refine⟨i,ps[i],hi,List.getElem?_eq_getElem hi,rfl,?_⟩
 unfold kindOf at ht
 rw[List.getElem?_eq_getElem hi]at ht
 exact ht
theorem kindOf_lt {ps:List Prt}{i:Nat}(h:kindOf ps i≠0):i<ps.length:=by
 rcases Nat.lt_or_ge i ps.length with hi | hi
 ·exact hi
 ·unfold kindOf at h
  rw[List.getElem?_eq_none hi]at h
  exact absurd rfl h
theorem indices_fn (n:Nat) (hn:n<=1000):CallFn Tryz.prog 210 [aI n] (aNs (List.range n)):=by
 refine callFz_of Tryz.func210 rfl Tryz.ntmps210 (rs:=[.tmp 2]) rfl (by kernel_rfl) (by simp) (by kernel_rfl) ?_
 simp
 refine V.forI (σ:=Value) n [2,5] (by simp;exact rfl) (fun i g=>[(3,.own 50 g),(6,aI i)]) (fun i g=>[(50,.seq g 3 1 ((List.range i).map rN))]) (fun _ _=>True) (.slice none 0 0) trivial (by simp) ⟨by simp;exact rfl,by simp⟩ ?_ ?_
 ·rintro i g hi -
  simp[hi,List.range_succ]
  omega
 ·rintro g -
  simp
theorem valve1_s {s:PlS}(h:s.OK) {i v b2:Nat}(hi:kindOf s.ps i=1) (hv:v<s.ps.length) :
  CallS Tryz.prog 211 [aI v,.ptr 2 b2 0,.rptr [.int .i64 (i:Int)]] ((2,.box b2 [.ptr 170 s.b 0])::s.hp) fun r H'=>r=aB (drvB s.ps s.ns i v)∧H'=(2,.box b2 [.ptr 170 s.b 0])::s.hp:=by
 have hk:=kind_s h hv
 have hil:=kindOf_lt (ps:=s.ps) (i:=i) (by omega)
 have h2:=pair_s h (a:=i) (b:=v) (t:=[50]) (port_of hil (by rw[hi];decide)) (by have:=h.few;omega)
 have h4:=pair_s h (a:=i) (b:=v) (t:=[52]) (port_of hil (by rw[hi];decide)) (by have:=h.few;omega)
 unfold drvB
 generalize kindOf s.ps v=k at *
 refine callS_of Tryz.func211 rfl Tryz.ntmps211 (rs:=[.tmp 4]) rfl (by kernel_rfl) (by simp) (by kernel_rfl) ?_
 simp
 refine hk.c1.mono ?_
 rintro r H' ⟨_,⟨rfl,rfl⟩,rfl⟩
 simp
 by_cases hk2:(k:Int)=2∨(k:Int)=3
 ·have e:(k==2||k==3)=true:=by simp;omega
  rw[e]
  refine GCall.sure ⟨hk2,h2.c1.mono ?_⟩ hk2
  rintro r H' ⟨_,⟨rfl,rfl⟩,rfl⟩
  simp[hk2]
  cases e2:pairZ s.ns i v [50]
  ·refine GCall.never (by simp) (aB false) ?_
   simp[hk2]
  ·refine GCall.sure ⟨by simp[hk2],h4.c1.mono ?_⟩ (by simp[hk2])
   rintro r H' ⟨_,⟨rfl,rfl⟩,rfl⟩
   simp[hk2]
 ·have e:(k==2||k==3)=false:=by simp;omega
  rw[e]
  refine GCall.never hk2 (aB false) ?_
  simp[hk2]
  refine GCall.never (by simp[hk2]) (aB false) ?_
  simp[hk2]
theorem valve_s {s:PlS}(h:s.OK) {i:Nat}(hi:kindOf s.ps i=1):CallS Tryz.prog 149 [.ptr 170 s.b 0,aI i] s.hp fun r H'=>r=aI (idxI (valveZ s.ps s.ns i))∧H'=s.hp:=by
 have hf:=h.few
 have hin:=indices_fn s.ps.length (by omega)
 refine CallS.dropP (callS_of Tryz.func149 rfl Tryz.ntmps149 (rs:=[.tmp 4]) rfl (by kernel_rfl) (by simp) (by kernel_rfl) (K:=fun r H'=>r=aI (idxI (valveZ s.ps s.ns i))∧subP s.hp H') ?_) (fun _ _ ⟨h1,h2⟩=>⟨_,h2,h1,rfl⟩)
 simp
 intro b2
 refine hin.s ?_
 simp
 have hx:=idxM_s ((List.range s.ps.length).map fun n:Nat=>(n:Int)) (fun n=>drvB s.ps s.ns i n.toNat) 211 [] [.ptr 2 b2 0,.rptr [.int .i64 (i:Int)]] ((2,.box b2 [.ptr 170 s.b 0])::s.hp) (by unfold Sh;simp;omega) (fun n hn=>by
  obtain⟨v,hv,rfl⟩:=List.mem_map.1 hn
  exact valve1_s h hi (List.mem_range.1 hv))
 rw[List.findIdx?_map]at hx
 have e:((fun n:Int=>drvB s.ps s.ns i n.toNat)∘fun n:Nat=>(n:Int))=drvB s.ps s.ns i:=by funext n;simp
 rw[e]at hx
 have e2:aIs ((List.range s.ps.length).map fun n:Nat=>(n:Int))=aNs (List.range s.ps.length):=by
  unfold aIs aNs
  rw[List.map_map]
  rfl
 rw[e2]at hx
 refine hx.mono ?_
 rintro r H' ⟨rfl,rfl⟩
 simp
 exact⟨rfl,(subP.refl _).c _⟩
theorem counts_s {s:PlS}(h:s.OK) {i:Nat}(hi:i<s.ns.length):CallS Tryz.prog 289 [.ptr 170 s.b 0,aI i] s.hp fun r H'=>r=aB (countsI s.ps s.ns i)∧H'=s.hp:=by
 obtain⟨l,hl⟩:∃l,s.ns[i]=l:=⟨_,rfl⟩
 have hlo:s.ns[i]?=some l:=by rw[List.getElem?_eq_getElem hi,hl]
 obtain⟨h1,h2,h3⟩:=h.net l (List.mem_of_getElem? hlo)
 obtain⟨q,l2,rfl⟩:=List.exists_cons_of_ne_nil h2
 obtain⟨q1,q2⟩:=q
 obtain⟨j,p,hj,hp,hq1,hq2⟩:=mem_allN.1 (h3 (q1,q2) (by simp))
 simp only at hq1
 subst hq1
 have hk:=kind_s h hj
 have hkl:kindOf s.ps j<14:=by
  unfold kindOf
  rw[hp]
  have:=h.kinds p (List.mem_of_getElem? hp)
  simp only
  omega
 have hr:=Role_k (kindOf s.ps j) hkl q2
 have hc:countsI s.ps s.ns i=(decide (1<((↑j,q2)::l2:List PortZ).length)||roleK (kindOf s.ps j) q2==some 3):=by
  unfold countsI countsZ
  rw[List.getD_eq_getElem?_getD,hlo]
  simp
 rw[hc]
 generalize kindOf s.ps j=k at *
 refine callS_of Tryz.func289 rfl Tryz.ntmps289 (rs:=[.tmp 4]) rfl (by kernel_rfl) (by simp) (by kernel_rfl) ?_
 simp[hi,hl,hlo]
 refine V.drawX (fun t=>if t=21 then some (.ro (aI k)) else if t=26 then some (.fn (.tuple [aI ((roleK k q2).getD 0:Nat),aI (if (roleK k q2).isSome=true then 0 else 6)])) else none) (by kernel_rfl) (by kernel_rfl) (by simp) ?_
 simp[hi,hl,hlo]
 refine⟨hk,hr,?_,?_⟩
 ·intro h1
  exact⟨h1,fun h2=>⟨h1,h2⟩⟩
 ·rw[show decide (1<(l2.length:Int)+1)=decide (0<l2.length) from by rw[decide_eq_decide];omega]
  congr 1
  cases roleK k q2 with
  | none=>rfl
  | some n=>
   simp
   rw[Bool.eq_iff_iff]
   simp
   omega
abbrev encGf (g:Gift):List L:=[.int .i64 (g.part:Int),.int .i64 (g.pos:Int),.str g.pass.to,.sl (g.pass.src.map encT),.bool g.pass.all]
theorem kindOf_at {ps:List Prt}{j:Nat}{p:Prt}(hp:ps[j]?=some p):kindOf ps j=p.kind.toNat:=by unfold kindOf;rw[hp]
theorem PlS.OK.klt {s:PlS}(h:s.OK) (i:Nat):kindOf s.ps i<14:=by
 unfold kindOf
 cases hp:s.ps[i]? with
 | none=>simp
 | some p=>
  have:=h.kinds p (List.mem_of_getElem? hp)
  simp only
  omega
abbrev rGf (g:Gift):List A:=(encGf g).map A.dat
theorem rowsD_Gf (xs:List Gift):rowsD (xs.map rGf)=xs.map encGf:=by unfold rowsD;rw[List.map_map];rfl
theorem allD_Gf (xs:List Gift):allD (xs.map rGf)=true:=by simp[allD,isD]
attribute [simp] rowsD_Gf allD_Gf
theorem passK_len (k n:Nat):(passK k n).length<=1:=by
 unfold passK
 repeat' split
 all_goals simp
theorem gvN_len (k j:Nat) (t:List UInt8) (i:Nat):((List.range i).flatMap fun pos=>((passK k pos).filter fun y=>y.to==t).map fun y=>(⟨j,pos,y⟩:Gift)).length<=i:=by
 induction i with
 | zero=>simp
 | succ i ih=>
  rw[List.range_succ,List.flatMap_append,List.length_append]
  have h1:=List.length_filter_le (fun y:PassP=>y.to==t) (passK k i)
  have h2:=passK_len k i
  simp only[List.flatMap_cons,List.flatMap_nil,List.append_nil,List.length_map]
  omega
theorem given_s {s:PlS}(h:s.OK) {j:Nat}{t:List UInt8}(hj:j<s.ps.length):CallS Tryz.prog 358 [.ptr 170 s.b 0,.record (encPo ((j:Int),t))] s.hp fun r H'=>r=.dat (.sl ((givenZ s.ps ((j:Int),t)).map encGf))∧H'=s.hp:=by
 have hk:=kind_s h hj
 have hkl:=h.klt j
 have hpo:=Positions_k (kindOf s.ps j) hkl
 have hpa:=fun n hn=>Passes_k (kindOf s.ps j) hkl n hn
 unfold givenZ
 simp only[Int.toNat_natCast]
 generalize kindOf s.ps j=k at *
 refine CallS.frzTop (τ:=50) (e:=364) (sz:=5) (rows:=((List.range (manyK k)).flatMap fun pos=>((passK k pos).filter fun y=>y.to==t).map fun y=>(⟨j,pos,y⟩:Gift)).map rGf) (allD_Gf _) (rowsD_Gf _) (callS_of Tryz.func358 rfl Tryz.ntmps358 (rs:=[.tmp 4]) rfl (by kernel_rfl) (by simp) (by kernel_rfl) ?_)
 ·simp
  refine hk.mono ?_
  rintro r H' ⟨rfl,rfl⟩
  simp
  refine hpo.s ?_
  simp
  refine V.forI (σ:=Value) (manyK k) [0,3,4,21] (by simp;exact rfl) (fun i g=>[(5,.own 50 g),(22,aI i)]) (fun i g=>(50,.seq g 364 5 (((List.range i).flatMap fun pos=>((passK k pos).filter fun y=>y.to==t).map fun y=>(⟨j,pos,y⟩:Gift)).map rGf))::s.hp) (fun _ _=>True) (.slice none 0 0) trivial (by simp) ⟨by simp;exact rfl,by simp⟩ ?_ ?_
  ·rintro i g hi -
   have hp2:=hpa i hi
   have hm2:manyK k<=2:=by unfold manyK;split<;>omega
   simp[hi]
   refine hk.c1.mono ?_
   rintro r H' ⟨_,⟨rfl,rfl⟩,rfl⟩
   simp
   refine hp2.s ?_
   simp
   have hW:=gvN_len k j t i
   have hF:=passK_len k i
   rw[List.range_succ,List.flatMap_append]
   generalize ((List.range i).flatMap fun pos=>((passK k pos).filter fun y=>y.to==t).map fun y=>(⟨j,pos,y⟩:Gift))=W at hW ⊢
   generalize hFe:passK k i=F at hp2 hF ⊢
   refine V.forI (σ:=Value) F.length [0,3,4,8,21,22,34,35] (by simp;exact rfl) (fun n g=>[(5,.own 50 g),(36,aI n)]) (fun n g=>(50,.seq g 364 5 ((W++((F.take n).filter fun y=>y.to==t).map fun y=>(⟨j,i,y⟩:Gift)).map rGf))::s.hp) (fun _ _=>True) g trivial (by simp) ⟨by simp;exact rfl,by simp⟩ ?_ ?_
   ·rintro n g2 hn -
    obtain⟨x,hx⟩:∃x,F[n]=x:=⟨_,rfl⟩
    have hxo:F[n]?=some x:=by rw[List.getElem?_eq_getElem hn,hx]
    rw[List.take_add_one,hxo]
    have hle:=List.length_filter_le (fun y:PassP=>y.to==t) (F.take n)
    rw[List.length_take]at hle
    simp[hn,hx,hxo]
    refine⟨fun e=>⟨by omega,by omega,?_⟩,fun e=>⟨by omega,e⟩⟩
    simp[e]
   ·rintro g2 -
    simp
    refine⟨by omega,?_⟩
    rw[hFe]
  ·rintro g -
   simp
   exact subP.refl _
theorem gifts_s {s:PlS}(i:Nat):CallS Tryz.prog 293 [.ptr 170 s.b 0,aI i] s.hp fun r H'=>∃bg,r=.fn 357 [] [.ptr 175 bg 0,.rptr [.int .i64 (i:Int)]]∧H'=(175,.box bg [.ptr 170 s.b 0])::s.hp:=by
 refine CallS.res (K:=fun r H'=>∃bg,r=.fn 357 [] [.ptr 2 bg 0,.rptr [.int .i64 (i:Int)]]∧H'=(2,.box bg [.ptr 170 s.b 0])::s.hp) (callS_of Tryz.func293 rfl Tryz.ntmps293 (rs:=[.tmp 4]) rfl (by kernel_rfl) (by simp) (by kernel_rfl) ?_) ?_
 ·simp
 ·rintro r H' ⟨bg,rfl,rfl⟩
  refine⟨_,_,fun x H0 h=>?_,fun x v hv=>?_,bg,rfl,rfl⟩
  ·exact Inv.ents (by simp) h
  ·exact D_fn Ds_i (Ds_c D_tag Ds_i) _ hv
abbrev gfB (s:PlS) (bg:Nat):Heap:=(175,.box bg [.ptr 170 s.b 0])::s.hp
abbrev encGs (ps:List Prt) (d:List Drv) (x:PortZ):List A:=[.record (encPo x),.dat (.sl ((giftsZ ps d x).map encGf))]
theorem gifts_iter {s:PlS}(h:s.OK) {d:List Drv}(hd:s.dr=.dat (.sl (d.map encDr))) (hdl:d.length<=1000) {i:Nat}{l:List PortZ}(hl:s.ns[i]?=some l) (bg:Nat) :
  IterB Tryz.prog (gfB s bg) 357 [] [.ptr 175 bg 0,.rptr [.int .i64 (i:Int)]] l (encGs s.ps d):=by
 refine IterB.rt 1000 ?_
 intro σ δ lp Hc Hd I R st0 hI0 hy
 obtain⟨hil,hi1⟩:=List.getElem?_eq_some_iff.1 hl
 obtain⟨n1,n2,n3⟩:=h.net l (List.mem_of_getElem? hl)
 refine callS_of Tryz.func357 rfl Tryz.ntmps357 (rs:=[]) rfl (by kernel_rfl) (by simp) (by kernel_rfl) ?_
 simp
 refine V.frame (H1:=gfB s bg) ?_
 refine V.drawX (fun _=>none) (by kernel_rfl) (by kernel_rfl) (by simp) ?_
 simp[hil,hi1,hl]
 refine V.for' [0,1,13,14] (fun p:Nat×σ=>[(15,aI p.1)]) (fun p=>gfB s bg++rt 1000 (Hc p.2))
  (fun p=>p.1<=l.length∧I (l.drop p.1) p.2∧∀o,FoldR R (l.drop p.1) p.2 o->FoldR R l st0 o) (fun p=>l.length-p.1) (0,st0) ⟨⟨by simp,hI0,fun o ho=>ho⟩,by simp,subP.refl _⟩ ?_
 rintro⟨n,st⟩ ⟨hn,hIst,hinv⟩
 simp only at hn hIst hinv
 by_cases hlt:n<l.length
 ·obtain⟨y,hy1⟩:∃y,l[n]=y:=⟨_,rfl⟩
  have hyo:l[n]?=some y:=by rw[List.getElem?_eq_getElem hlt,hy1]
  have hym:=List.mem_of_getElem? hyo
  rw[List.drop_eq_getElem_cons hlt,hy1]at hinv hIst
  obtain⟨y1,y2⟩:=y
  obtain⟨j,p,hj,hp,hq1,hq2⟩:=mem_allN.1 (n3 _ hym)
  simp only at hq1
  subst hq1
  simp[hlt,hy1,hyo]
  intro b5
  have hdv:=driven_s h hd hdl j
  have hgv:=given_s h (t:=y2) hj
  have hyy:=hy st ((j:Int),y2) _ hIst hym
  have hgi:giftsZ s.ps d ((j:Int),y2)=if (drivenZ d j).isSome=true then [] else givenZ s.ps ((j:Int),y2):=rfl
  have hy2:=hyy.c1 (e:=(5,.box b5 [aI j,aT y2]))
  simp[encGs,hgi]at hy2
  refine (hdv.mid [(5,_),(175,_)] (rt 1000 (Hc st))).mono ?_
  rintro r H' ⟨rfl,rfl⟩
  have hfin:∀r H',(∃H2,(∃o,(R st ((j:Int),y2) o∧∀s',o=.ok s'->I (l.drop (n+1)) s')∧yK (fun s'=>gfB s bg++rt 1000 (Hc s')) (fun e=>gfB s bg++rt 1000 (Hd e)) o r H2)∧H'=(5,.box b5 [aI j,aT y2])::H2) ->
    (∃st',I (l.drop (n+1)) st'∧r=aB true∧H'=(5,.box b5 [aI j,aT y2])::(gfB s bg++rt 1000 (Hc st'))∧∀o,FoldR R (l.drop (n+1)) st' o->FoldR R l st0 o) ∨
    ∃e,FoldR R l st0 (.error e)∧r=aB false∧H'=(5,.box b5 [aI j,aT y2])::(gfB s bg++rt 1000 (Hd e)):=by
   rintro r H' ⟨H2,⟨o,⟨h1,h2⟩,hk⟩,rfl⟩
   cases o with
   | ok st'=>
    obtain⟨rfl,rfl⟩:=hk
    exact .inl ⟨st',h2 _ rfl,rfl,rfl,fun o ho=>hinv o ⟨_,h1,ho⟩⟩
   | error e=>
    obtain⟨rfl,rfl⟩:=hk
    exact .inr ⟨e,hinv _ ⟨_,h1,rfl⟩,rfl,rfl⟩
  simp
  cases hv:drivenZ d j with
  | some v=>
   rw[hv]at hy2
   simp at hy2 ⊢
   refine⟨fun h=>absurd h (by omega),?_⟩
   refine CallY.args (az':=[A.record (encPo ((j:Int),y2)),A.dat (L.sl [])]) (fun x vs=>Ds_c D_i (Ds_c D_nild Ds_i) vs) ?_
   refine hy2.mono fun r H' hk=>?_
   rcases hfin r H' hk with⟨st',e1,rfl,rfl,e2⟩|⟨e,e1,rfl,rfl⟩
   ·simp
    refine⟨by omega,n+1,st',⟨by omega,e1,e2⟩,by omega,by simp,?_⟩
    exact (subP.refl _).c _
   ·simp
    exact⟨.error e,e1,(subP.refl _).c _⟩
  | none=>
   rw[hv]at hy2
   simp[idxI]at hy2 ⊢
   refine (hgv.mid [(5,_),(175,_)] (rt 1000 (Hc st))).mono ?_
   rintro r H' ⟨rfl,rfl⟩
   simp
   refine hy2.mono fun r H' hk=>?_
   rcases hfin r H' hk with⟨st',e1,rfl,rfl,e2⟩|⟨e,e1,rfl,rfl⟩
   ·simp
    refine⟨by omega,n+1,st',⟨by omega,e1,e2⟩,by omega,by simp,?_⟩
    exact (subP.refl _).c _
   ·simp
    exact⟨.error e,e1,(subP.refl _).c _⟩
 ·obtain rfl:n=l.length:=by omega
  rw[List.drop_length]at hinv
  simp
  exact⟨.ok st,hinv _ rfl,subP.refl _⟩
theorem allN_nodup (ps:List Prt) (n:Nat):(allN ps n).Nodup:=(allN_sorted ps n).imp fun {a b} h e=>by
 subst e
 have:=beforeZ_tot.irr a
 rw[h]at this
 cases this
def rootsZ (c:Cir):List PortZ:=(allP c.parts).filter fun r=>rootF c.pipes r==r
theorem netsZ_eq (c:Cir):netsZ c=(rootsZ c).map fun r=>(allP c.parts).filter fun q=>rootF c.pipes q==r:=rfl
theorem netsZ_at {c:Cir}{i:Nat}{l:List PortZ}(h:(netsZ c)[i]?=some l):∃r,(rootsZ c)[i]?=some r∧l=(allP c.parts).filter fun q=>rootF c.pipes q==r:=by
 rw[netsZ_eq,List.getElem?_map]at h
 cases hr:(rootsZ c)[i]? with
 | none=>rw[hr]at h;simp at h
 | some r=>
  rw[hr]at h
  simp only[Option.map_some,Option.some.injEq]at h
  exact⟨r,rfl,h.symm⟩
theorem netsZ_few {c:Cir}(h:CirR c):(netsZ c).length<=448:=by
 rw[netsZ_eq,List.length_map]
 have h1:(rootsZ c).length<=(allP c.parts).length:=List.length_filter_le _ _
 have h2:=allN_len c.parts c.parts.length
 have h3:=h.few
 unfold allP at h1
 omega
theorem netsZ_net {c:Cir}(h:CirR c):∀l∈netsZ c,l.length<=448∧l≠[]∧∀p∈l,p∈allP c.parts:=by
 intro l hl
 obtain⟨i,hi,e⟩:=List.getElem_of_mem hl
 obtain⟨r,hr,rfl⟩:=netsZ_at (c:=c) (i:=i) (l:=l) (by rw[List.getElem?_eq_getElem hi,e])
 have hr2:=List.mem_of_getElem? hr
 unfold rootsZ at hr2
 rw[List.mem_filter]at hr2
 refine⟨?_,List.ne_nil_of_mem (a:=r) (List.mem_filter.2 hr2),fun p hp=>(List.mem_filter.1 hp).1⟩
 have h1:((allP c.parts).filter fun q=>rootF c.pipes q==r).length<=(allP c.parts).length:=List.length_filter_le _ _
 have h2:=allN_len c.parts c.parts.length
 have h3:=h.few
 unfold allP at h1 ⊢
 omega
theorem netsZ_same {c:Cir}{i j:Nat}{l m:List PortZ}{p:PortZ}(hi:(netsZ c)[i]?=some l) (hj:(netsZ c)[j]?=some m) (hp:p∈l) (hq:p∈m):i=j:=by
 obtain⟨r,hr,rfl⟩:=netsZ_at hi
 obtain⟨t,ht,rfl⟩:=netsZ_at hj
 have e1:=(List.mem_filter.1 hp).2
 have e2:=(List.mem_filter.1 hq).2
 simp only[beq_iff_eq]at e1 e2
 rw[<- e1,e2]at hr
 have hn:(rootsZ c).Nodup:=List.Nodup.sublist List.filter_sublist (allN_nodup _ _)
 obtain⟨h1,h2⟩:=List.getElem?_eq_some_iff.1 hr
 obtain⟨h3,h4⟩:=List.getElem?_eq_some_iff.1 ht
 exact (List.getElem_inj hn).1 (h2.trans h4.symm)
theorem netW_at {c:Cir}{i:Nat}{l:List PortZ}{p:PortZ}(hi:(netsZ c)[i]?=some l) (hp:p∈l):netW (netsZ c) p=i:=by
 obtain⟨h1,h2⟩:=List.getElem?_eq_some_iff.1 hi
 unfold netW
 rw[List.findIdx_eq h1]
 refine⟨by rw[h2];simpa using hp,fun j hj=>?_⟩
 cases e:((netsZ c)[j]).any (p==·) with
 | false=>rfl
 | true=>
  have hm:p∈(netsZ c)[j]:=by simpa using e
  have:=netsZ_same (c:=c) (i:=j) (j:=i) (l:=(netsZ c)[j]) (m:=l) (List.getElem?_eq_getElem (by omega)) hi hm hp
  omega
theorem netW_some {c:Cir}(h:CirR c) {p:PortZ}(hp:p∈allP c.parts):∃l,(netsZ c)[netW (netsZ c) p]?=some l∧p∈l:=by
 have hr:=(root_all h).1 hp
 have hm:rootF c.pipes p∈rootsZ c:=by
  unfold rootsZ
  rw[List.mem_filter]
  exact⟨hr,by simp[(rootF_ok c.pipes).idem]⟩
 obtain⟨i,hi,e⟩:=List.getElem_of_mem hm
 have h1:(netsZ c)[i]?=some ((allP c.parts).filter fun q=>rootF c.pipes q==rootF c.pipes p):=by
  rw[netsZ_eq,List.getElem?_map,List.getElem?_eq_getElem hi,e]
  rfl
 have h2:p∈(allP c.parts).filter fun q=>rootF c.pipes q==rootF c.pipes p:=List.mem_filter.2 ⟨hp,by simp⟩
 refine⟨_,?_,h2⟩
 rw[netW_at h1 h2]
 exact h1
def OfD (ns:List (List PortZ)) (i j:Nat) (E:List (KeyK×List L)):Prop:=∀(a:Nat) (l:List PortZ) (p:PortZ),ns[a]?=some l->(a<i∧p∈l)∨(a=i∧p∈l.take j)->kget E p=some [.int .i64 (a:Int)]
theorem OfD.zero (ns:List (List PortZ)):OfD ns 0 0 []:=fun a l p _ h=>by
 rcases h with⟨h,_⟩|⟨_,h⟩
 ·omega
 ·simp at h
theorem OfD.next {ns:List (List PortZ)}{i:Nat}{l:List PortZ}{E:List (KeyK×List L)}(h:OfD ns i l.length E) (hl:ns[i]?=some l):OfD ns (i+1) 0 E:=fun a m p hm hp=>by
 rcases hp with⟨h1,h2⟩|⟨_,h2⟩
 ·by_cases e:a=i
  ·subst e
   rw[hl]at hm
   cases hm
   exact h a l p hl (.inr ⟨rfl,by rw[List.take_length];exact h2⟩)
  ·exact h a m p hm (.inl ⟨by omega,h2⟩)
 ·simp at h2
theorem OfD.put {c:Cir}{i j:Nat}{l:List PortZ}{x:PortZ}{E:List (KeyK×List L)}(h:OfD (netsZ c) i j E) (hl:(netsZ c)[i]?=some l) (hx:l[j]?=some x):OfD (netsZ c) i (j+1) (kput E x [.int .i64 (i:Int)]):=fun a m p hm hp=>by
 have hpm:p∈m:=by
  rcases hp with⟨_,h2⟩|⟨_,h2⟩
  ·exact h2
  ·exact List.mem_of_mem_take h2
 rw[kget_put]
 by_cases e:x=p
 ·subst e
  rw[if_pos rfl,netsZ_same hm hl hpm (List.mem_of_getElem? hx)]
 ·rw[if_neg e]
  refine h a m p hm ?_
  rcases hp with h1 | ⟨rfl,h2⟩
  ·exact .inl h1
  ·rw[hl]at hm
   cases hm
   rw[List.take_add_one,hx]at h2
   refine .inr ⟨rfl,?_⟩
   simp only[Option.toList_some,List.mem_append,List.mem_singleton]at h2
   rcases h2 with h2 | h2
   ·exact h2
   ·exact absurd h2.symm e
theorem OfD.all {c:Cir}(hr:CirR c) {E:List (KeyK×List L)}(h:OfD (netsZ c) (netsZ c).length 0 E):∀p∈allP c.parts,kget E p=some [.int .i64 (netW (netsZ c) p:Nat)]∧netW (netsZ c) p<(netsZ c).length:=fun p hp=>by
 obtain⟨l,h1,h2⟩:=netW_some hr hp
 have h3:=(List.getElem?_eq_some_iff.1 h1).1
 exact⟨h _ l p h1 (.inl ⟨h3,h2⟩),h3⟩
theorem part_kind {p:Prt}(h:partE p=0):0<=p.kind∧p.kind<14:=by
 unfold partE at h
 by_cases h1:0<=p.kind∧p.kind<14
 ·exact h1
 ·rw[if_pos h1]at h
  simp at h
theorem cylsN_succ (ps:List Prt) (n:Nat):cylsN ps (n+1)=cylsN ps n++(if kindOf ps n=1 then [n] else []):=by
 unfold cylsN
 rw[List.range_succ,List.filter_append]
 by_cases h:kindOf ps n=1<;>simp[h]
theorem drvN_succ (ps:List Prt) (ns:List (List PortZ)) (n:Nat):drvN ps ns (n+1)=drvN ps ns n++(if kindOf ps n=1 then [(n,(valveZ ps ns n).getD 0)] else []):=by
 unfold drvN
 rw[cylsN_succ,List.map_append]
 by_cases h:kindOf ps n=1<;>simp[h]
theorem drvN_len (ps:List Prt) (ns:List (List PortZ)) (n:Nat):(drvN ps ns n).length<=n:=by
 unfold drvN cylsN
 rw[List.length_map]
 exact Nat.le_trans (List.length_filter_le _ _) (by simp)
theorem drvE_bad {ps:List Prt}{ns:List (List PortZ)}{i:Nat}(hi:i<ps.length) (hk:kindOf ps i=1) (hv:valveZ ps ns i=none):drvE ps ns=14:=by
 unfold drvE
 rw[if_pos]
 rw[List.any_eq_true]
 refine⟨i,?_,by rw[hv];rfl⟩
 unfold cylsN
 rw[List.mem_filter]
 exact⟨List.mem_range.2 hi,by simp[hk]⟩
theorem drvE_end {ps:List Prt}{ns:List (List PortZ)}(h:∀i,i<ps.length->kindOf ps i=1->(valveZ ps ns i).isSome=true):drvE ps ns=if drvN ps ns ps.length=[] then 13 else 0:=by
 unfold drvE
 rw[if_neg]
 ·unfold drvN
  by_cases e:cylsN ps ps.length=[]
  ·rw[if_pos e,e]
   simp
  ·rw[if_neg e,if_neg (by simpa using e)]
 ·rw[List.any_eq_true]
  rintro⟨i,hi,hn⟩
  unfold cylsN at hi
  rw[List.mem_filter]at hi
  have:=h i (List.mem_range.1 hi.1) (by simpa using hi.2)
  rw[Option.isSome_iff_ne_none]at this
  exact this (by simpa using hn)
structure OkCir (c:Cir):Prop where
 names:c.parts.length<=64->∀p∈c.parts,p.name.length<=1000
 parts:Sh c.parts
 pipes:Sh c.pipes
def posOkB (ps:List Prt) (pos:List Int) (i:Nat):Bool:=decide (0<=pos.getD i 0∧pos.getD i 0<manyK (kindOf ps i))
def presE (c:Cir) (pos:List Int):Int:=
 if cirE c≠0 then cirE c else if pos.length≠c.parts.length then 8 else if (List.range c.parts.length).all (posOkB c.parts pos)=true then 0 else 2
theorem presE_bad {c:Cir}{pos:List Int}(h0:cirE c=0) (hl:pos.length=c.parts.length) {i:Nat}(hi:i<c.parts.length) (hb:posOkB c.parts pos i=false):presE c pos=2:=by
 unfold presE
 rw[if_neg (by simp[h0]),if_neg (by simp[hl]),if_neg]
 intro h
 have:=List.all_eq_true.1 h i (List.mem_range.2 hi)
 rw[hb]at this
 cases this
theorem presE_good {c:Cir}{pos:List Int}(h0:cirE c=0) (hl:pos.length=c.parts.length) (h:∀i,i<c.parts.length->posOkB c.parts pos i=true):presE c pos=0:=by
 unfold presE
 rw[if_neg (by simp[h0]),if_neg (by simp[hl]),if_pos]
 rw[List.all_eq_true]
 exact fun i hi=>h i (List.mem_range.1 hi)
theorem presCheck_fn (c:Cir) (hc:OkCir c) (pos:List Int) (hp:Sh pos):CallFn Tryz.prog 86 [aCi c,aIs pos] (aI (presE c pos)):=by
 have hch:=CheckZ_fn c hc.names hc.parts hc.pipes
 have hl:=hc.parts
 generalize hP:presE c pos=P
 by_cases h0:cirE c=0
 ·have hr:=cirR_of h0
  have hf:=hr.few
  rw[h0]at hch
  refine callFz_of Tryz.func86 rfl Tryz.ntmps86 (rs:=[.tmp 4]) rfl (by kernel_rfl) (by simp) (by kernel_rfl) ?_
  simp
  refine hch.s ?_
  simp
  by_cases hlen:pos.length=c.parts.length
  ·have hlz:((pos.length:Nat):Int)=c.parts.length:=by omega
   simp[hlz]
   refine V.forI (σ:=Unit) c.parts.length [2,4,21,22] (by simp;exact rfl) (fun i _=>[(23,aI i)]) (fun _ _=>[]) (fun i _=>∀j,j<i->posOkB c.parts pos j=true) () (by simp) (by simp) ⟨by simp[hlz];exact rfl,by simp⟩ ?_ ?_
   ·rintro i ⟨⟩ hi hI
    obtain⟨x,hx⟩:∃x,c.parts[i]=x:=⟨_,rfl⟩
    have hxo:c.parts[i]?=some x:=by rw[List.getElem?_eq_getElem hi,hx]
    have hip:i<pos.length:=by omega
    obtain⟨z,hz⟩:∃z,pos[i]=z:=⟨_,rfl⟩
    have hzo:pos[i]?=some z:=by rw[List.getElem?_eq_getElem hip,hz]
    have hk:=part_kind (hr.part x (List.mem_of_getElem? hxo))
    have hpk:=Positions_k x.kind.toNat (by omega)
    rw[show ((x.kind.toNat:Nat):Int)=x.kind from by omega]at hpk
    have hpo:posOkB c.parts pos i=decide (0<=z∧z<manyK x.kind.toNat):=by
     unfold posOkB
     rw[kindOf_at hxo,List.getD_eq_getElem?_getD,hzo]
     rfl
    simp[hi,hip,hx,hxo,hz,hzo]
    refine hpk.s ?_
    simp
    refine⟨fun hbad=>?_,fun h1 h2=>⟨⟨by omega,by omega⟩,fun j hj=>?_⟩⟩
    ·rw[<- hP,presE_bad h0 hlen hi]
     rw[hpo]
     simp only[decide_eq_false_iff_not]
     omega
    ·by_cases e:j=i
     ·rw[e,hpo]
      simp only[decide_eq_true_eq]
      exact⟨h1,h2⟩
     ·exact hI j (by omega)
   ·rintro⟨⟩ hI
    simp[hlen]
    rw[<- hP,presE_good h0 hlen hI]
  ·have hlz:¬((pos.length:Nat):Int)=c.parts.length:=by omega
   simp[hlz]
   rw[<- hP]
   unfold presE
   rw[if_neg (by simp[h0]),if_pos (by simpa using hlen)]
 ·refine callFz_of Tryz.func86 rfl Tryz.ntmps86 (rs:=[.tmp 4]) rfl (by kernel_rfl) (by simp) (by kernel_rfl) ?_
  simp
  refine hch.s ?_
  simp[h0]
  rw[<- hP]
  unfold presE
  rw[if_pos (by simpa using h0)]
structure PuS where
 ps:List Prt
 l:List PipeZ
 ns:List (List PortZ)
 m:Nat
 b:Nat
 E:List (KeyK×List L)
abbrev PuS.cells (s:PuS):List A:=[.dat (.sl (s.ps.map encPa)),.dat (.sl (s.l.map encPi)),aI s.ns.length,.map 171 s.m]
abbrev PuS.hp (s:PuS):Heap:=[(170,.box s.b s.cells),(171,.mapK s.m false s.E)]
structure PuS.OK (s:PuS):Prop where
 few:s.ps.length<=64
 kinds:∀p∈s.ps,0<=p.kind∧p.kind<14
 nets:s.ns.length<=448
 of:∀p∈allP s.ps,kget s.E p=some [.int .i64 (netW s.ns p:Nat)]∧netW s.ns p<s.ns.length
theorem puNet_s {s:PuS}(h:s.OK) {i:Nat}{t:List UInt8}(hp:((i:Int),t)∈allP s.ps):CallS Tryz.prog 76 [.ptr 170 s.b 0,aI i,aT t] s.hp fun r H'=>r=aI (netW s.ns ((i:Int),t))∧H'=s.hp:=by
 obtain⟨h1,h2⟩:=h.of _ hp
 have hok:=okK_port (ps:=s.ps) (by have:=h.few;omega) hp
 generalize netW s.ns ((i:Int),t)=k at *
 refine callS_of Tryz.func76 rfl Tryz.ntmps76 (rs:=[.tmp 6]) rfl (by kernel_rfl) (by simp) (by kernel_rfl) ?_
 simp[h1]
 exact hok
abbrev pu (c:Cir) (m b:Nat) (E:List (KeyK×List L)):PuS:=⟨c.parts,c.pipes,netsZ c,m,b,E⟩
theorem pu_ok {c:Cir}(hr:CirR c) {E:List (KeyK×List L)}(h:OfD (netsZ c) (netsZ c).length 0 E) (m b:Nat):(pu c m b E).OK:=
 ⟨hr.few,fun p hp=>part_kind (hr.part p hp),netsZ_few hr,h.all hr⟩
theorem pu_a {c:Cir}(hr:CirR c) (m b:Nat):V ⟨Tryz.prog,none,56⟩ (restC Tryz.f57 5) (hdE [(4,.nilp),(5,aI 0),(7,aNets (netsZ c)),(9,.ptr 170 b 0)] []) (pu c m b []).hp (RetV Tryz.prog [.tmp 4,.tmp 5] fun r H'=>∃m b E,r=.tuple [.ptr 170 b 0,aI 0]∧subP (pu c m b E).hp H'∧OfD (netsZ c) (netsZ c).length 0 E):=by
 refine V.rest rfl ?_
 refine V.of_vcN 1 ?_
 have hfew:=netsZ_few hr
 simp
 refine V.forI (σ:=List (KeyK×List L)) (netsZ c).length [4,5,9,34,35] (by simp;exact rfl) (fun i _=>[(36,aI i)]) (fun _ q=>(pu c m b q).hp) (fun i q=>OfD (netsZ c) i 0 q) [] (OfD.zero _) (by simp) ⟨by simp;exact rfl,by simp⟩ ?_ ?_
 ·rintro i q hi hI
  obtain⟨l,hl⟩:∃l,(netsZ c)[i]=l:=⟨_,rfl⟩
  have hlo:(netsZ c)[i]?=some l:=by rw[List.getElem?_eq_getElem hi,hl]
  obtain⟨n1,n2,n3⟩:=netsZ_net hr l (List.mem_of_getElem? hlo)
  simp[hi,hl,hlo]
  refine V.forI (σ:=List (KeyK×List L)) l.length [4,5,9,10,11,34,35,36,41,42] (by simp;exact rfl) (fun j _=>[(43,aI j)]) (fun _ q=>(pu c m b q).hp) (fun j q=>OfD (netsZ c) i j q) q hI (by simp) ⟨by simp;exact rfl,by simp⟩ ?_ ?_
  ·rintro j q hj hI
   obtain⟨x,hx⟩:∃x,l[j]=x:=⟨_,rfl⟩
   have hxo:l[j]?=some x:=by rw[List.getElem?_eq_getElem hj,hx]
   have hok:=okK_port (ps:=c.parts) (by have:=hr.few;omega) (n3 x (List.mem_of_getElem? hxo))
   simp[hj,hx,hxo]
   intro b10
   refine V.drawX (fun _=>none) (by kernel_rfl) (by kernel_rfl) (by simp) ?_
   simp
   exact⟨hok,⟨by omega,by omega⟩,hI.put hlo hxo⟩
  ·rintro q hI
   simp
   exact⟨⟨by omega,by omega⟩,hI.next hlo⟩
 ·rintro q hI
  simp
  refine V.of_vc ?_
  simp
  exact⟨m,q,subP.refl _,hI⟩
theorem puOf_s (c:Cir) (hc:OkCir c) (pos:List Int) (hp:Sh pos) :
  CallS Tryz.prog 57 [aCi c,aIs pos] [] fun r H'=>if presE c pos=0 then ∃s:PuS,r=.tuple [.ptr 170 s.b 0,aI 0]∧H'=s.hp∧s.OK∧s.ps=c.parts∧s.ns=netsZ c else r=.tuple [.nilp,aI (presE c pos)]∧H'=[]:=by
 have hn:=Nets_fn c hc.names hc.parts hc.pipes
 have hpc:=presCheck_fn c hc pos hp
 by_cases h0:presE c pos=0
 ·have hz:cirE c=0:=by
   unfold presE at h0
   split at h0
   ·rename_i h;exact absurd h0 h
   ·rename_i h;exact Classical.not_not.1 h
  have hr:=cirR_of hz
  rw[hz]at hn
  rw[h0]at hpc
  simp only[h0,if_true]
  refine CallS.dropP (callS_cut 5 Tryz.func57 rfl Tryz.ntmps57 (rs:=[.tmp 4,.tmp 5]) rfl (by kernel_rfl) (by simp) (by kernel_rfl) (K:=fun r H'=>∃m b E,r=.tuple [.ptr 170 b 0,aI 0]∧subP (pu c m b E).hp H'∧OfD (netsZ c) (netsZ c).length 0 E) ?_) (fun r H' ⟨m,b,E,h1,h2,h3⟩=>⟨_,h2,pu c m b E,h1,rfl,pu_ok hr h3 _ _,rfl,rfl⟩)
  simp
  refine hpc.s ?_
  simp
  refine hn.s ?_
  simp
  intro m b
  refine V.cutIN 0 (Hs:=(pu c m b []).hp) [(4,.nilp),(5,aI 0),(7,aNets (netsZ c)),(9,.ptr 170 b 0)] ?_ ?_ ?_
  ·intro p hp x v hv
   simp only[List.mem_cons,List.not_mem_nil,or_false]at hp
   rcases hp with rfl | rfl | rfl | rfl
   ·simpa using hv
   ·simpa using hv
   ·simpa using hv
   ·simpa [D]using hv
  ·intro x H0 hi
   have h1:Inv x ([(170,Ent.box b [.dat (.sl (c.parts.map encPa)),.dat (.sl (c.pipes.map encPi)),aI (netsZ c).length,.map 31 m]),(171,.mapK m false [])]++H0):=hi.ents (by simp)
   have h2:=Inv.swap (g:=170) (e:=.box b [.dat (.sl (c.parts.map encPa)),.dat (.sl (c.pipes.map encPi)),aI (netsZ c).length,.map 31 m]) (e':=.box b (pu c m b []).cells) rfl (box_sat (Ds_c D_i (Ds_c D_i (Ds_c D_i (Ds_c D_mtag Ds_i))))) (fun _ h=>h) h1
   exact h2
  ·exact pu_a hr m b
 ·simp only[h0,if_false]
  refine callS_of Tryz.func57 rfl Tryz.ntmps57 (rs:=[.tmp 4,.tmp 5]) rfl (by kernel_rfl) (by simp) (by kernel_rfl) ?_
  simp
  refine hpc.s ?_
  simp[h0]
theorem idxI_fn (xs:List Int) (v:Int) (hx:Sh xs):CallFn Tryz.prog 68 [aIs xs,aI v] (aI (idxI (xs.findIdx? (v==·)))):=by
 refine callFz_of Tryz.func68 rfl Tryz.ntmps68 (rs:=[.tmp 4]) rfl (by kernel_rfl) (by simp) (by kernel_rfl) ?_
 simp
 refine V.forI (σ:=Unit) xs.length [0,1,7] (by simp;exact rfl) (fun i _=>[(8,aI i)]) (fun _ _=>[]) (fun i _=>NoF (v==·) (xs.take i)) () (by simp) (by simp) ⟨by simp;exact rfl,by simp⟩ ?_ ?_
 ·rintro i-hi hI
  have h1:=List.getElem?_eq_getElem hi
  have hs:=findIdx_step (p:=(v==·)) hI h1
  simp[hi,h1]
  cases e:(v==xs[i])
  ·simp at e
   simp[e]
   exact⟨by omega,hs.1 (by simp[e])⟩
  ·have e2:=hs.2 e
   simp at e
   rw[e2]
   simp[e]
 ·rintro-hI
  rw[findIdx_none hI]
  simp
theorem containsI_fn (xs:List Int) (v:Int) (hx:Sh xs):CallFn Tryz.prog 25 [aIs xs,aI v] (aB (decide (v∈xs))):=by
 refine callFz_of Tryz.func25 rfl Tryz.ntmps25 (rs:=[.tmp 4]) rfl (by kernel_rfl) (by simp) (by kernel_rfl) ?_
 simp
 refine (idxI_fn xs v hx).s ?_
 simp
 rw[<- decide_eq_true_iff (p:=0<=_),idxI_ge,List.findIdx?_isSome]
 simp
theorem passK_src {k:Nat}(hk:k<14) {n:Nat}(hn:n<2) {y:PassP}(hy:y∈passK k n) {t:List UInt8}(ht:t∈y.src):t∈portsK k:=by
 have key:((List.range 14).all fun k=>(List.range 2).all fun n=>(passK k n).all fun y=>y.src.all fun t=>(portsK k).any (t==·))=true:=by decide
 have h1:=List.all_eq_true.1 (List.all_eq_true.1 (List.all_eq_true.1 (List.all_eq_true.1 key k (List.mem_range.2 hk)) n (List.mem_range.2 hn)) y hy) t ht
 obtain⟨u,hu,e⟩:=List.any_eq_true.1 h1
 rw[eq_of_beq e]
 exact hu
theorem passK_srcl (k n:Nat):∀y∈passK k n,y.src.length<=2:=by
 intro y hy
 unfold passK at hy
 repeat' split at hy
 all_goals (simp at hy;try (subst hy;simp))
theorem manyK_le (k:Nat):manyK k<=2:=by unfold manyK;split<;>omega
theorem given_mem {ps:List Prt}{x:PortZ}{g:Gift}(h:g∈givenZ ps x):g.part=x.1.toNat∧g.pos<manyK (kindOf ps x.1.toNat)∧g.pass∈passK (kindOf ps x.1.toNat) g.pos:=by
 unfold givenZ at h
 obtain⟨n,hn,h2⟩:=List.mem_flatMap.1 h
 obtain⟨y,hy,rfl⟩:=List.mem_map.1 h2
 exact⟨rfl,List.mem_range.1 hn,(List.mem_filter.1 hy).1⟩
theorem gifts_mem {ps:List Prt}{d:List Drv}{x:PortZ}{g:Gift}(h:g∈giftsZ ps d x):g∈givenZ ps x:=by
 unfold giftsZ at h
 split at h
 ·simp at h
 ·exact h
theorem gift_port {s:PlS}(h:s.OK) {d:List Drv}{x:PortZ}(hx:x∈allP s.ps) {g:Gift}(hg:g∈giftsZ s.ps d x) {t:List UInt8}(ht:t∈g.pass.src):((g.part:Int),t)∈allP s.ps:=by
 obtain⟨h1,h2,h3⟩:=given_mem (gifts_mem hg)
 obtain⟨i,p,hi,hp,hx1,_⟩:=mem_allN.1 hx
 have e:x.1.toNat=i:=by omega
 rw[e]at h1 h2 h3
 rw[h1]
 exact port_of hi (passK_src (h.klt i) (Nat.lt_of_lt_of_le h2 (manyK_le _)) h3 ht)
abbrev ordE (go:Value) (order:List Nat):Nat×Ent:=(173,.seq go 3 1 (order.map rN))
theorem any_nat (l:List Nat) (n:Nat):decide ((n:Int)∈l.map fun k:Nat=>(k:Int))=l.any (n==·):=by
 rw[Bool.eq_iff_iff]
 simp only[decide_eq_true_eq,List.mem_map,List.any_eq_true,beq_iff_eq]
 constructor
 ·rintro⟨a,h1,h2⟩;exact⟨a,h1,by omega⟩
 ·rintro⟨a,h1,h2⟩;exact⟨a,h1,by omega⟩
theorem containsN_fn (xs:List Nat) (n:Nat) (hx:Sh xs):CallFn Tryz.prog 25 [aNs xs,aI n] (aB (xs.any (n==·))):=by
 have h:=containsI_fn (xs.map fun k:Nat=>(k:Int)) n (by unfold Sh at hx ⊢;simpa using hx)
 rw[any_nat]at h
 have e2:aIs (xs.map fun k:Nat=>(k:Int))=aNs xs:=by
  unfold aIs aNs
  rw[List.map_map]
  rfl
 rw[e2]at h
 exact h
def okT (s:PlS) (d:List Drv) (order:List Nat) (G:Gift):Bool:=G.pass.src.all fun t=>!takesZ s.ps s.ns order G t
theorem fold_all {α:Type}(p:α->Bool):∀l:List α,(l.foldlM (fun (_:Unit) x=>if p x=true then (Except.ok ():Except Unit Unit) else .error ()) ())=if l.all p=true then .ok () else .error ()
 | []=>rfl
 | x::l=>by
  rw[List.foldlM_cons,List.all_cons]
  cases h:p x
  ·rfl
  ·simp only[Bool.true_and]
   exact fold_all p l
theorem ready_s {s:PlS}(h:s.OK) {d:List Drv}(hd:s.dr=.dat (.sl (d.map encDr))) (hdl:d.length<=1000) {order:List Nat}{go:Value}(ho:s.od=.own 173 go) (hol:order.length<=1000) {i:Nat}(hi:i<s.ns.length) :
  CallS Tryz.prog 290 [.ptr 170 s.b 0,aI i] (s.hp++[ordE go order]) fun r H'=>r=aB (readyZ s.ps d s.ns order i)∧H'=s.hp++[ordE go order]:=by
 have hl:s.ns[i]?=some s.ns[i]:=List.getElem?_eq_getElem hi
 have hr:readyZ s.ps d s.ns order i=s.ns[i].all fun x=>(giftsZ s.ps d x).all (okT s d order):=by
  unfold readyZ okT
  rw[List.getD_eq_getElem?_getD,hl]
  rfl
 have hnet:=h.net _ (List.mem_of_getElem? hl)
 rw[hr]
 generalize s.ns[i]=l at hl hnet ⊢
 refine CallS.dropP (callS_of Tryz.func290 rfl Tryz.ntmps290 (rs:=[.cell 4 4]) rfl (by kernel_rfl) (by simp) (by kernel_rfl) (K:=fun r H'=>r=aB (l.all fun x=>(giftsZ s.ps d x).all (okT s d order))∧subP (s.hp++[ordE go order]) H') ?_) (fun _ _ ⟨h1,h2⟩=>⟨_,h2,h1,rfl⟩)
 simp
 intro b2 b4
 have hg:=(gifts_s (s:=s) i).frame (H1:=[ordE go order]) |>.frameL (H1:=[(4,.box b4 [aB false]),(2,.box b2 [.ptr 170 s.b 0])])
 refine hg.mono ?_
 rintro r H' ⟨_,⟨_,⟨bg,rfl,rfl⟩,rfl⟩,rfl⟩
 simp
 refine V.rangeFoldB (σ:=Unit) (δ:=Unit) (items:=l) (enc:=encGs s.ps d) (B:=gfB s bg) 100 (by simp) trivial (gifts_iter h hd hdl hl bg)
  (fun _=>[(4,.box b4 [aB false]),(2,.box b2 [.ptr 170 s.b 0]),ordE go order]) (fun _=>[(4,.box b4 [aB false]),(2,.box b2 [.ptr 170 s.b 0]),ordE go order])
  (fun _=>none) (fun _ _=>True) (fun _ x o=>o=if (giftsZ s.ps d x).all (okT s d order)=true then .ok () else .error ()) () trivial (by
   refine⟨_,List.Sublist.refl _,?_⟩
   exact List.Perm.append_right [ordE go order] (List.perm_append_comm (l₁:=[(4,.box b4 [aB false]),(2,.box b2 [.ptr 170 s.b 0])]) (l₂:=gfB s bg))) (by simp[encGs]) ?_ ?_
 ·rintro lp ⟨⟩ x _-hx
  have hxa:=hnet.2.2 x hx
  have hgp:=fun G hG t ht=>gift_port h (d:=d) hxa (g:=G) hG (t:=t) ht
  have hgs:=fun G hG=>passK_srcl _ _ _ (given_mem (gifts_mem (ps:=s.ps) (d:=d) (g:=G) (x:=x) hG)).2.2
  have hgl:(giftsZ s.ps d x).length<=2:=by
   unfold giftsZ
   split
   ·simp
   ·exact Nat.le_trans (gvN_len _ _ _ _) (manyK_le _)
  simp[encGs]
  generalize giftsZ s.ps d x=GS at *
  refine V.forI (σ:=Unit) GS.length [2,4,17,18] (by simp;exact rfl) (fun n _=>[(19,aI n)]) (fun _ _=>gfB s bg++[(4,.box b4 [aB false]),(2,.box b2 [.ptr 170 s.b 0]),ordE go order]) (fun n _=>(GS.take n).all (okT s d order)=true) () (by simp) (by simp) ⟨by simp;exact rfl,by simp⟩ ?_ ?_
  ·rintro n ⟨⟩ hn hI
   obtain⟨G,hG⟩:∃G,GS[n]=G:=⟨_,rfl⟩
   have hGo:GS[n]?=some G:=by rw[List.getElem?_eq_getElem hn,hG]
   have hGm:=List.mem_of_getElem? hGo
   have hp:=hgp G hGm
   have hsl:=hgs G hGm
   rw[List.take_add_one,hGo]
   simp[hn,hG,hGo]
   intro b8
   refine V.forI (σ:=Unit) G.pass.src.length [2,4,8,17,18,19,25,26] (by simp;exact rfl) (fun m _=>[(27,aI m)]) (fun _ _=>(8,.box b8 ((encGf G).map A.dat))::(gfB s bg++[(4,.box b4 [aB false]),(2,.box b2 [.ptr 170 s.b 0]),ordE go order])) (fun m _=>((G.pass.src.take m).all fun t=>!takesZ s.ps s.ns order G t)=true) () (by simp) (by simp) ⟨by simp;exact rfl,by simp⟩ ?_ ?_
   ·rintro m ⟨⟩ hm hJ
    obtain⟨t,ht⟩:∃t,G.pass.src[m]=t:=⟨_,rfl⟩
    have hto:G.pass.src[m]?=some t:=by rw[List.getElem?_eq_getElem hm,ht]
    have htm:=List.mem_of_getElem? hto
    have hpa:=hp t htm
    obtain⟨w1,w2⟩:=h.of _ hpa
    have hok:=okK_port (ps:=s.ps) (by have:=h.few;omega) hpa
    have hcs:=counts_s h w2
    have hcn:=containsN_fn order (netW s.ns ((G.part:Int),t)) (by unfold Sh;omega)
    have htk:takesZ s.ps s.ns order G t=(countsI s.ps s.ns (netW s.ns ((G.part:Int),t)) && !(order.any (netW s.ns ((G.part:Int),t)==·))):=rfl
    rw[List.take_add_one,hto]
    simp[hm,ht,hto]
    refine V.drawXR (fun _=>none) (by kernel_rfl) (by kernel_rfl) (by kernel_rfl) (by simp) ?_
    simp[hm,ht,hto,w1]
    refine⟨hok,(hcs.mid [(8,_),(175,_)] [(4,_),(2,_),ordE go order]).mono ?_⟩
    rintro r H' ⟨rfl,rfl⟩
    simp[ho]
    generalize netW s.ns ((G.part:Int),t)=k at *
    cases hc:countsI s.ps s.ns k
    ·refine GCall.never (by simp) (aB false) ?_
     rw[hc]at htk
     simp[htk]
     simp at hJ
     exact⟨by omega,hJ⟩
    ·refine GCall.sure ⟨by simp,hcn.lend (by simp[frzs,frz,ordE]) rfl ?_⟩ (by simp)
     rw[hc]at htk
     simp[htk]
     refine⟨fun hno=>?_,fun hkx=>⟨by omega,by simpa using hJ,hkx⟩⟩
     have hbad:takesZ s.ps s.ns order G t=true:=by
      rw[htk]
      simp
      exact hno
     rw[if_neg (fun hall=>by
      have:=hall G hGm
      unfold okT at this
      have:=List.all_eq_true.1 this t htm
      rw[hbad]at this
      cases this)]
     refine⟨rfl,?_⟩
     exact (subP.refl _).c _
   ·rintro⟨⟩ hJ
    simp at hJ hI
    simp
    refine⟨by omega,hI,?_⟩
    unfold okT
    simpa using hJ
  ·rintro⟨⟩ hI
   simp at hI ⊢
   rw[if_pos hI]
   simp
   exact subP.refl _
 ·intro o hof
  have hof:=FoldR.fn (fun (_:Unit) x=>if (giftsZ s.ps d x).all (okT s d order)=true then (Except.ok ():Except Unit Unit) else .error ()) _ _ _ hof
  rw[fold_all]at hof
  cases hall:l.all fun x=>(giftsZ s.ps d x).all (okT s d order)
  ·rw[hall]at hof
   subst hof
   simp[jX]
   exact ((((((subP.refl _).c _).c _).cc _).cc _).cc _).c _
  ·rw[hall]at hof
   subst hof
   simp
   exact ((((((subP.refl _).c _).c _).cc _).cc _).cc _).c _
def posN (pos:List Int) (i:Nat):Nat:=(pos.getD i 0).toNat
inductive Prs (ps:List Prt) (nets:List (List PortZ)) (pos:List Int):Nat->Prop
 | sup (i:Nat) (hi:i<ps.length) (hk:kindOf ps i=0):Prs ps nets pos (netW nets ((i:Int),[49]))
 | all (i:Nat) (y:PassP) (hi:i<ps.length) (hy:y∈passK (kindOf ps i) (posN pos i)) (ha:y.all=true) (h:∀t∈y.src,Prs ps nets pos (netW nets ((i:Int),t))):Prs ps nets pos (netW nets ((i:Int),y.to))
 | any (i:Nat) (y:PassP) (t:List UInt8) (hi:i<ps.length) (hy:y∈passK (kindOf ps i) (posN pos i)) (ht:t∈y.src) (ha:y.all=false) (h:Prs ps nets pos (netW nets ((i:Int),t))):Prs ps nets pos (netW nets ((i:Int),y.to))
theorem pass_to {k n:Nat}{y:PassP}(h:y∈passK k n):(y.to=[50]∨y.to=[52])∧y.src≠[]∧(∀t∈y.src,t=[49]∨t=[49,49])∧k≠0∧k≠1∧k<14:=by
 unfold passK at h
 split at h
 ·rename_i hk
  rw[List.mem_singleton]at h
  subst h
  refine⟨?_,by simp,by simp,by omega,by omega,by omega⟩
  simp only
  split
  ·exact .inr rfl
  ·exact .inl rfl
 ·split at h
  ·split at h
   ·rw[List.mem_singleton]at h
    subst h
    exact⟨.inl rfl,by simp,by simp,by omega,by omega,by omega⟩
   ·simp at h
  ·split at h
   ·split at h
    ·simp at h
    ·rw[List.mem_singleton]at h
     subst h
     exact⟨.inl rfl,by simp,by simp,by omega,by omega,by omega⟩
   ·split at h
    ·rw[List.mem_singleton]at h
     subst h
     exact⟨.inl rfl,by simp,by simp,by omega,by omega,by omega⟩
    ·split at h
     ·rw[List.mem_singleton]at h
      subst h
      exact⟨.inl rfl,by simp,by simp,by omega,by omega,by omega⟩
     ·simp at h
theorem pass_port:∀k,k<14->∀n,n<2->∀y∈passK k n,y.to∈portsK k:=by decide
theorem many_two (k:Nat):manyK k=1∨manyK k=2:=by unfold manyK;split<;>simp
theorem net_getD {c:Cir}{k:Nat}{l:List PortZ}(h:(netsZ c)[k]?=some l):(netsZ c).getD k []=l:=by rw[List.getD_eq_getElem?_getD,h];rfl
theorem Prs.inv {ps:List Prt}{nets:List (List PortZ)}{pos:List Int}{k:Nat}(h:Prs ps nets pos k):(∃i,i<ps.length∧kindOf ps i=0∧k=netW nets ((i:Int),[49])) ∨
  ∃i y,i<ps.length∧y∈passK (kindOf ps i) (posN pos i)∧k=netW nets ((i:Int),y.to)∧∃t∈y.src,Prs ps nets pos (netW nets ((i:Int),t)):=by
 cases h with
 | sup i hi hk=>exact .inl ⟨i,hi,hk,rfl⟩
 | all i y hi hy ha hs=>
  obtain⟨t,l,e⟩:=List.exists_cons_of_ne_nil (pass_to hy).2.1
  exact .inr ⟨i,y,hi,hy,rfl,t,by rw[e];simp,hs t (by rw[e];simp)⟩
 | any i y t hi hy ht ha hs=>exact .inr ⟨i,y,hi,hy,rfl,t,ht,hs⟩
def exhK (k:Nat):List (List UInt8):=(portsK k).filter fun t=>roleK k t==some 2
def vntK (k pos:Nat):List (List UInt8):=
 if k=2∨k=3 then [if pos=1 then [50] else [52]]
 else if k=4∨k=6∨k=7∨k=12∨k=13 then (if pos=1 then [] else [[50]])
 else if k=5 then (if pos=0 then [] else [[50]])
 else []
def openK (k pos:Nat):List (List UInt8):=vntK k pos++exhK k
theorem shut_fn (n:Nat):CallFn Tryz.prog 313 [aI n] (aTs []):=by
 refine callFz_of Tryz.func313 rfl Tryz.ntmps313 (rs:=[.tmp 2]) rfl (by kernel_rfl) (by simp) (by kernel_rfl) ?_
 simp
theorem changeVents_fn (n:Nat) (hn:n<2):CallFn Tryz.prog 315 [aI n] (aTs [if n=1 then [50] else [52]]):=by
 have:n=0∨n=1:=by omega
 refine callFz_of Tryz.func315 rfl Tryz.ntmps315 (rs:=[.tmp 2]) rfl (by kernel_rfl) (by simp) (by kernel_rfl) ?_
 rcases this with rfl | rfl
 ·simp
 ·simp
theorem gateVents1_fn (n:Nat) (o:Nat):CallFn Tryz.prog 365 [aI n,.rptr [.int .i64 o]] (aTs (if n=o then [] else [[50]])):=by
 refine callFz_of Tryz.func365 rfl Tryz.ntmps365 (rs:=[.tmp 3]) rfl (by kernel_rfl) (by simp) (by kernel_rfl) ?_
 by_cases e:n=o
 ·subst e
  simp
 ·have e2:¬(n:Int)=o:=by omega
  simp[e,e2]
theorem row_vent:∀k,k<14->∃f caps,(rowOf k)[11]?=some (.fn f [] caps)∧∀n:Nat,n<2->CallFn Tryz.prog f (aI n::caps) (aTs (vntK k n)):=by
 refine cat_cases ⟨?_,?_,?_,?_,?_,?_,?_,?_,?_,?_,?_,?_,?_,?_⟩
 ·exact⟨_,_,rfl,fun n hn=>shut_fn n⟩
 ·exact⟨_,_,rfl,fun n hn=>shut_fn n⟩
 ·exact⟨_,_,rfl,fun n hn=>changeVents_fn n hn⟩
 ·exact⟨_,_,rfl,fun n hn=>changeVents_fn n hn⟩
 ·exact⟨_,_,rfl,fun n hn=>gateVents1_fn n 1⟩
 ·exact⟨_,_,rfl,fun n hn=>gateVents1_fn n 0⟩
 ·exact⟨_,_,rfl,fun n hn=>gateVents1_fn n 1⟩
 ·exact⟨_,_,rfl,fun n hn=>gateVents1_fn n 1⟩
 ·exact⟨_,_,rfl,fun n hn=>shut_fn n⟩
 ·exact⟨_,_,rfl,fun n hn=>shut_fn n⟩
 ·exact⟨_,_,rfl,fun n hn=>shut_fn n⟩
 ·exact⟨_,_,rfl,fun n hn=>shut_fn n⟩
 ·exact⟨_,_,rfl,fun n hn=>gateVents1_fn n 1⟩
 ·exact⟨_,_,rfl,fun n hn=>gateVents1_fn n 1⟩
theorem Vents_k (k:Nat) (hk:k<14) (n:Nat) (hn:n<manyK k):CallFn Tryz.prog 184 [aI k,aI n] (.tuple [aTs (vntK k n),aI 0]):=by
 have hf:=placed_k k hk n hn
 have hl:=row_len k hk
 have hc:=row_cell k hk
 have hm:manyK k<=2:=by revert k;exact fun k hk=>by intros;exact (show ∀k,k<14->manyK k<=2 by decide) k hk
 obtain⟨f,caps,h10,hp⟩:=row_vent k hk
 have hp:=hp n (by omega)
 obtain⟨h10l,h101⟩:=List.getElem?_eq_some_iff.1 h10
 refine callFz_of Tryz.func184 rfl Tryz.ntmps184 (rs:=[.tmp 4,.tmp 5]) rfl (by kernel_rfl) (by simp) (by kernel_rfl) ?_
 simp
 refine hf.s ?_
 generalize rowOf k=R at *
 simp
 intro b6
 refine⟨cells_ok hl hc,?_⟩
 simp[hl,h10,h101]
 refine hp.s ?_
 simp
end Go.Proofs.YtafamcbdaeppoaaGreatDoor
