/- Texts joined by a program: Ky,Fxp,Kz,Lo,Qa,Sdl. -/
import Derived.OrdersIn
import Derived.Shelf.Slices.Delete
import Derived.Test.YtpadinblmjlggaaGreatDoorProg
import Derived.KernelRfl
import Derived.Test.YtpadinblmjlggaaGreatDoorW15
import Derived.Test.YtpadinblmjlggaaGreatDoorW16
import Derived.Test.YtpadinblmjlggaaGreatDoorW14
import Derived.Test.YtpadinblmjlggaaGreatDoorW13
set_option linter.unusedSimpArgs false
set_option linter.unusedVariables false
set_option maxHeartbeats 8000000
set_option maxRecDepth 100000
namespace Go.Proofs.YtpadinblmjlggaaGreatDoor
abbrev encDr (d:Drv):List L:=[.int .i64 (d.1:Nat),.int .i64 (d.2:Nat)]
abbrev aNs (xs:List Nat):A:=.dat (.sl (xs.map fun n:Nat=>[.int .i64 (n:Int)]))
structure PlS where
 ps:List Prt
 l:List PipeZ
 ns:List (List PortZ)
 m1:Nat
 m2:Nat
 b:Nat
 dr:A
 od:A
 bu:A
 va:A
 oE:List (KeyK×List L)
 lE:List (L×L)
abbrev PlS.cells (s:PlS):List A:=[.dat (.sl (s.ps.map encPa)),.dat (.sl (s.l.map encPi)),aNets s.ns,.map 171 s.m1,s.dr,s.od,s.bu,s.va,.map 172 s.m2]
abbrev PlS.hp (s:PlS):Heap:=[(170,.box s.b s.cells),(171,.mapK s.m1 false s.oE),(172,.map s.m2 (.int .i64) s.lE)]
structure PlS.OK (s:PlS):Prop where
 few:s.ps.length<=64
 kinds:∀p∈s.ps,0<=p.kind∧p.kind<14
 nets:s.ns.length<=448
 net:∀l∈s.ns,l.length<=448∧l≠[]∧∀p∈l,p∈allP s.ps
 of:∀p∈allP s.ps,kget s.oE p=some [.int .i64 (netW s.ns p:Nat)]∧netW s.ns p<s.ns.length
theorem idxM_s (xs:List Int) (p:Int->Bool) (f:FuncId) (first caps:List A) (H:Heap) (hx:Sh xs) (hp:∀n∈xs,CallS Tryz.prog f (first++[aI n]++caps) H fun r H'=>r=aB (p n)∧H'=H) :
  CallS Tryz.prog 90 [aIs xs,.fn f first caps] H fun r H'=>r=aI (idxI (xs.findIdx? p))∧H'=H:=by
 refine CallS.rt (k:=1000) (CallS.dropP (callS_of Tryz.func90 rfl Tryz.ntmps90 (rs:=[.tmp 4]) rfl (by kernel_rfl) (by simp) (by kernel_rfl) (K:=fun r H'=>r=aI (idxI (xs.findIdx? p))∧subP (rt 1000 H) H') ?_) ?_)
 ·simp
  refine V.for' [0,1,7] (fun i:Nat=>[(8,aI i)]) (fun _=>rt 1000 H) (fun i=>i<=xs.length∧NoF p (xs.take i)) (fun i=>xs.length-i) 0 ⟨by simp,by simp,subP.refl _⟩ ?_
  rintro i ⟨hi,hI⟩
  by_cases hlt:i<xs.length
  ·have h1:=List.getElem?_eq_getElem hlt
   have hs:=findIdx_step (p:=p) hI h1
   have hc:=(hp xs[i] (List.getElem_mem hlt)).rt' (k:=1000)
   simp at hc
   simp[hlt,h1]
   refine hc.mono ?_
   rintro r H' ⟨H2,rfl,rfl,rfl⟩
   cases e:p xs[i]
   ·simp
    exact⟨by omega,i+1,⟨hlt,hs.1 e⟩,by omega,by simp,subP.refl _⟩
   ·rw[hs.2 e]
    simp
    exact subP.refl _
  ·obtain rfl:i=xs.length:=by omega
   rw[findIdx_none hI]
   simp
   exact subP.refl _
 ·rintro r H' ⟨rfl,h⟩
  exact⟨_,h,_,rfl,rfl,rfl⟩
theorem idxDr_s (xs:List Drv) (p:Drv->Bool) (f:FuncId) (first caps:List A) (H:Heap) (hx:Sh xs) (hp:∀n∈xs,CallS Tryz.prog f (first++[.record (encDr n)]++caps) H fun r H'=>r=aB (p n)∧H'=H) :
  CallS Tryz.prog 79 [.dat (.sl (xs.map encDr)),.fn f first caps] H fun r H'=>r=aI (idxI (xs.findIdx? p))∧H'=H:=by
 refine CallS.rt (k:=1000) (CallS.dropP (callS_of Tryz.func79 rfl Tryz.ntmps79 (rs:=[.tmp 4]) rfl (by kernel_rfl) (by simp) (by kernel_rfl) (K:=fun r H'=>r=aI (idxI (xs.findIdx? p))∧subP (rt 1000 H) H') ?_) ?_)
 ·simp
  refine V.for' [0,1,7] (fun i:Nat=>[(8,aI i)]) (fun _=>rt 1000 H) (fun i=>i<=xs.length∧NoF p (xs.take i)) (fun i=>xs.length-i) 0 ⟨by simp,by simp,subP.refl _⟩ ?_
  rintro i ⟨hi,hI⟩
  by_cases hlt:i<xs.length
  ·have h1:=List.getElem?_eq_getElem hlt
   have hs:=findIdx_step (p:=p) hI h1
   have hc:=(hp xs[i] (List.getElem_mem hlt)).rt' (k:=1000)
   simp at hc
   simp[hlt,h1]
   refine hc.mono ?_
   rintro r H' ⟨H2,rfl,rfl,rfl⟩
   cases e:p xs[i]
   ·simp
    exact⟨by omega,i+1,⟨hlt,hs.1 e⟩,by omega,by simp,subP.refl _⟩
   ·rw[hs.2 e]
    simp
    exact subP.refl _
  ·obtain rfl:i=xs.length:=by omega
   rw[findIdx_none hI]
   simp
   exact subP.refl _
 ·rintro r H' ⟨rfl,h⟩
  exact⟨_,h,_,rfl,rfl,rfl⟩
theorem driven1_fn (d:Drv) (i:Nat):CallFn Tryz.prog 91 [.record (encDr d),.rptr [.int .i64 (i:Int)]] (aB (d.2==i)):=by
 refine callFz_of Tryz.func91 rfl Tryz.ntmps91 (rs:=[.tmp 3]) rfl (by kernel_rfl) (by simp) (by kernel_rfl) ?_
 simp
 rw[Bool.eq_iff_iff]
 simp only[beq_iff_eq]
 omega
theorem kind_s {s:PlS}(h:s.OK) {i:Nat}(hi:i<s.ps.length):CallS Tryz.prog 52 [.ptr 170 s.b 0,aI i] s.hp fun r H'=>r=aI (kindOf s.ps i)∧H'=s.hp:=by
 obtain⟨p,hp⟩:∃p,s.ps[i]=p:=⟨_,rfl⟩
 have hpo:s.ps[i]?=some p:=by rw[List.getElem?_eq_getElem hi,hp]
 have hk:=h.kinds p (List.mem_of_getElem? hpo)
 have hko:((kindOf s.ps i:Nat):Int)=p.kind:=by
  unfold kindOf
  rw[hpo]
  simp only
  omega
 refine callS_of Tryz.func52 rfl Tryz.ntmps52 (rs:=[.tmp 4]) rfl (by kernel_rfl) (by simp) (by kernel_rfl) ?_
 simp[hi,hp,hpo,hko]
theorem driven_s {s:PlS}(h:s.OK) {d:List Drv}(hd:s.dr=.dat (.sl (d.map encDr))) (hdl:d.length<=1000) (i:Nat):CallS Tryz.prog 51 [.ptr 170 s.b 0,aI i] s.hp fun r H'=>r=aI (idxI (drivenZ d i))∧H'=s.hp:=by
 have hix:=idxDr_s d (fun q=>q.2==i) 91 [] [.rptr [.int .i64 (i:Int)]] s.hp (by unfold Sh;omega) fun q hq=>by
  have:=driven1_fn q i
  exact this.s ⟨rfl,rfl⟩
 refine callS_of Tryz.func51 rfl Tryz.ntmps51 (rs:=[.tmp 4]) rfl (by kernel_rfl) (by simp) (by kernel_rfl) ?_
 simp[hd]
 refine hix.mono ?_
 rintro _ _ ⟨rfl,rfl⟩
 simp[drivenZ]
theorem idxPo_fn (xs:List PortZ) (p:PortZ) (hx:Sh xs):CallFn Tryz.prog 292 [.dat (.sl (xs.map encPo)),.record (encPo p)] (aI (idxI (xs.findIdx? (p==·)))):=by
 obtain⟨p1,p2⟩:=p
 refine callFz_of Tryz.func292 rfl Tryz.ntmps292 (rs:=[.tmp 4]) rfl (by kernel_rfl) (by simp) (by kernel_rfl) ?_
 simp
 refine V.forI (σ:=Unit) xs.length [0,3,7] (by simp;exact rfl) (fun i _=>[(8,aI i)]) (fun _ _=>[]) (fun i _=>NoF ((p1,p2)==·) (xs.take i)) () (by simp) (by simp) ⟨by simp;exact rfl,by simp⟩ ?_ ?_
 ·rintro i-hi hI
  obtain⟨x,hxe⟩:∃x,xs[i]=x:=⟨_,rfl⟩
  have hxo:xs[i]?=some x:=by rw[List.getElem?_eq_getElem hi,hxe]
  have hs:=findIdx_step (p:=((p1,p2)==·)) hI hxo
  obtain⟨x1,x2⟩:=x
  simp[hi,hxe,hxo]
  refine V.drawX (fun _=>none) (by kernel_rfl) (by kernel_rfl) (by simp) ?_
  simp[hi,hxe,hxo]
  by_cases e:p1=x1∧p2=x2
  ·obtain⟨rfl,rfl⟩:=e
   rw[hs.2 (by simp)]
   simp[idxI]
  ·have e2:((p1,p2)==(x1,x2))=false:=by
    simp only[beq_eq_false_iff_ne,ne_eq,Prod.mk.injEq]
    exact e
   refine⟨fun a b=>absurd ⟨a,b⟩ e,fun _=>⟨by omega,hs.1 e2⟩⟩
 ·rintro-hI
  rw[findIdx_none hI]
  simp[idxI]
theorem contPo_fn (xs:List PortZ) (p:PortZ) (hx:Sh xs):CallFn Tryz.prog 252 [.dat (.sl (xs.map encPo)),.record (encPo p)] (aB (xs.any (p==·))):=by
 have h:=idxPo_fn xs p hx
 obtain⟨p1,p2⟩:=p
 refine callFz_of Tryz.func252 rfl Tryz.ntmps252 (rs:=[.tmp 4]) rfl (by kernel_rfl) (by simp) (by kernel_rfl) ?_
 simp
 refine h.s ?_
 simp
 rw[idxI_ge,List.findIdx?_isSome]
theorem PlS.OK.at {s:PlS}(h:s.OK) {p:PortZ}(hp:p∈allP s.ps):∃l,s.ns[netW s.ns p]?=some l∧l.length<=448∧l≠[]∧netW s.ns p<s.ns.length∧kget s.oE p=some [.int .i64 (netW s.ns p:Nat)]:=by
 obtain⟨h1,h2⟩:=h.of p hp
 refine⟨s.ns[netW s.ns p],List.getElem?_eq_getElem h2,?_,?_,h2,h1⟩
 ·exact (h.net _ (List.getElem_mem h2)).1
 ·exact (h.net _ (List.getElem_mem h2)).2.1
theorem pair_s {s:PlS}(h:s.OK) {a b:Nat}{t:List UInt8}(hp:((a:Int),t)∈allP s.ps) (hb:b<=1000):CallS Tryz.prog 191 [.ptr 170 s.b 0,aI a,aI b,aT t] s.hp fun r H'=>r=aB (pairZ s.ns a b t)∧H'=s.hp:=by
 obtain⟨l,h1,h2,h3,h4,h5⟩:=h.at hp
 have hok:=okK_port (ps:=s.ps) (by have:=h.few;omega) hp
 have hpz:pairZ s.ns a b t=(decide (l.length=2)&&l.any (((b:Int),t)==·)):=by
  unfold pairZ
  rw[List.getD_eq_getElem?_getD,h1]
  rfl
 rw[hpz]
 have hc:=contPo_fn l ((b:Int),t) (by unfold Sh;omega)
 obtain⟨hl,hl1⟩:=List.getElem?_eq_some_iff.1 h1
 generalize netW s.ns ((a:Int),t)=k at *
 refine callS_of Tryz.func191 rfl Tryz.ntmps191 (rs:=[.tmp 8]) rfl (by kernel_rfl) (by simp) (by kernel_rfl) ?_
 simp
 refine V.drawX (fun _=>none) (by kernel_rfl) (by kernel_rfl) (by simp) ?_
 simp[h5,hl,hl1,h1]
 refine⟨hok,?_⟩
 by_cases e:l.length=2
 ·simp only[e,decide_true,Bool.true_and]
  refine GCall.fn (aB (l.any (((b:Int),t)==·))) (fun h=>⟨h,hc⟩) ?_
  simp
 ·simp only[e,decide_false,Bool.false_and]
  refine GCall.fn (aB (l.any (((b:Int),t)==·))) (fun h=>absurd h (by first | omega | simp[e])) ?_
  simp
  intro h
  omega
section
variable {P:Program}
def FoldR {ι σ δ:Type}(R:σ->ι->Except δ σ->Prop):List ι->σ->Except δ σ->Prop
 | [],s,o=>o=.ok s
 | p::ps,s,o=>∃o1,R s p o1∧match o1 with
  | .ok s1=>FoldR R ps s1 o
  | .error d=>o=.error d
def IterB (P:Program) (B:Heap) (f:FuncId) (first caps:List A) {ι:Type}(items:List ι) (enc:ι->List A):Prop:=
 ∀ {σ δ:Type}(l:Nat) (Hc:σ->Heap) (Hd:δ->Heap) (I:List ι->σ->Prop) (R:σ->ι->Except δ σ->Prop) (s:σ),I items s ->
  (∀s p rest,I (p::rest) s->p∈items->CallY P l (enc p) (B++Hc s) fun r H'=>∃o,R s p o∧(∀s',o=.ok s'->I rest s')∧yK (fun s=>B++Hc s) (fun d=>B++Hd d) o r H') ->
  CallS P f (first++[.yld l]++caps) (B++Hc s) fun _ H'=>∃o,FoldR R items s o∧match o with
   | .ok s'=>H'=B++Hc s'
   | .error e=>H'=B++Hd e
theorem V.rangeFoldB {n:Nat}{E:Env}{H:Heap}{Q:PostQ}{g:Operand}{ps:Array Tmp}{asg body:Code}{p:Prop}{f:FuncId}{first caps:List A}{ι σ δ:Type}{items:List ι}{enc:ι->List A}{B:Heap}
  (τ:Nat) (hg:st (ev E g)=(p,.fn f first caps)) (hp:p) (hit:IterB P B f first caps items enc) (Hb:σ->Heap) (Hx:δ->Heap) (jump:δ->Option Nat) (I:List ι->σ->Prop) (R:σ->ι->Except δ σ->Prop) (s0:σ) (hI0:I items s0)
  (hH:subP (B++Hb s0) H) (hlen:∀p∈items,(enc p).length=ps.size)
  (hbody:∀l s p rest,I (p::rest) s->p∈items->vcC ⟨P,some l,n⟩ asg (bindP ps.toList (enc p) E) (B++Hb s) fun e E' H'=>match e with
   | .normal=>vcC ⟨P,some l,n⟩ body E' H' fun e _ H''=>∃o,R s p o∧(∀s',o=.ok s'->I rest s')∧match o with
    | .ok s'=>e=.normal∧subP (B++Hb s') H''
    | .error d=>e=jX (jump d)∧subP (B++Hx d) H''
   | _=>False)
  (hend:∀o,FoldR R items s0 o->match (generalizing:=false) o with
   | .ok s=>Q .normal E (B++Hb s)
   | .error d=>Q (jX (jump d)) E (B++Hx d)):V ⟨P,none,n⟩ (.rangeFunc g ps asg body) E H Q:=by
 intro hf
 have key:V ⟨P,none,n⟩ (.rangeFunc g ps asg body) E (B++Hb s0) Q:=by
  refine V.rangeFunc τ hg hp fun l=>?_
  have hc:=hit l (fun s=>(τ,.loop l n .ready none ps asg body E)::Hb s) (fun d=>(τ,.loop l n .done (some (jC (jump d))) ps asg body E)::Hx d) I R s0 hI0 ?_
  ·refine (CallS.dropP (hc.perm List.perm_middle) (K':=fun r H'=>∃o,FoldR R items s0 o∧match o with
    | .ok s'=>H'=(τ,.loop l n .ready none ps asg body E)::(B++Hb s')
    | .error d=>H'=(τ,.loop l n .done (some (jC (jump d))) ps asg body E)::(B++Hx d)) ?_).mono ?_
   ·rintro r H' ⟨o,ho,hk⟩
    cases o with
    | ok s=>
     subst hk
     exact⟨_,⟨_,List.Sublist.refl _,List.perm_middle⟩,_,ho,rfl⟩
    | error d=>
     subst hk
     exact⟨_,⟨_,List.Sublist.refl _,List.perm_middle⟩,_,ho,rfl⟩
   ·rintro _ H' ⟨o,ho,hk⟩
    have h2:=hend _ ho
    cases o with
    | ok s=>
     subst hk
     exact .inl ⟨_,rfl,h2⟩
    | error d=>
     subst hk
     simp only at h2
     cases hj:jump d with
     | none=>rw[hj]at h2;exact .inr (.inl ⟨_,rfl,h2⟩)
     | some i=>rw[hj]at h2;exact .inr (.inr ⟨_,i,rfl,h2⟩)
  ·intro s q rest hs hq
   have hb:=hbody l s q rest hs hq
   refine CallY.dropP (K:=fun r H''=>∃o,R s q o∧(∀s',o=.ok s'->I rest s')∧match o with
    | .ok s'=>r=.dat (.bool true)∧∃H3,H''=(τ,.loop l n .ready none ps asg body E)::H3∧subP (B++Hb s') H3
    | .error d=>r=.dat (.bool false)∧∃H3,H''=(τ,.loop l n .done (some (jC (jump d))) ps asg body E)::H3∧subP (B++Hx d) H3) ((callY_of (hlen q hq) hf ?_).perm List.perm_middle.symm) ?_
   ·have hf':=hf
    simp only[fitsC,Bool.and_eq_true]at hf'
    refine vcC_mono asg ?_ hb
    intro e E' H' h
    cases e with
    | normal=>
     refine vcC_mono body ?_ h
     rintro e E'' H'' ⟨o,ho,hoI,h⟩
     cases o with
     | ok s'=>
      obtain⟨rfl,h⟩:=h
      exact⟨_,ho,hoI,rfl,_,rfl,h⟩
     | error d=>
      obtain⟨rfl,h⟩:=h
      cases hj:jump d with
      | none=>exact⟨_,ho,hoI,rfl,_,by rw[hj];rfl,h⟩
      | some i=>exact⟨_,ho,hoI,rfl,_,by rw[hj];rfl,h⟩
    | ret=>exact h
    | exit i=>exact h
    | goto t=>exact h
    | panic c=>exact h
    | outgrown=>exact h
   ·rintro r H'' ⟨o,ho,hoI,hk⟩
    have hmid:∀(e:Nat×Ent) (H1 H3:Heap),subP (B++H1) H3->subP (B++e::H1) (e::H3):=fun e H1 H3 h3=>by
     obtain⟨L,k1,k2⟩:=h3.cc e
     exact⟨L,k1,k2.trans List.perm_middle.symm⟩
    cases o with
    | ok s'=>
     obtain⟨rfl,H3,rfl,h3⟩:=hk
     exact⟨_,hmid _ _ _ h3,_,ho,hoI,rfl,rfl⟩
    | error d=>
     obtain⟨rfl,H3,rfl,h3⟩:=hk
     exact⟨_,hmid _ _ _ h3,_,ho,hoI,rfl,rfl⟩
 intro x act H0 ms hi he
 exact key hf x act H0 ms (subP_inv hH hi) he
theorem CallS.frzKeep {P:Program}{g:FuncId}{az:List A}{H:Heap}{K K':A->Heap->Prop}(h:CallS P g az H K) (hk:∀r H',K r H'->∃Hf Hk:Heap,(Hf++Hk).Perm H'∧(Go.Proofs.YtpadinblmjlggaaGreatDoor.frz Hf r).1∧K' (Go.Proofs.YtpadinblmjlggaaGreatDoor.frz Hf r).2 Hk):CallS P g az H K':=by
 refine⟨h.1,fun x args H0 hi hd=>(h.2 x args H0 hi hd).mono ?_⟩
 rintro _ _ ⟨y,v,r,H',rfl,rfl,hle,hi',hv,hkk⟩
 obtain⟨Hf,Hk,hp,h1,h2⟩:=hk r H' hkk
 have hi2:Inv y (Hf++(Hk++H0)):=by
  rw[<- List.append_assoc]
  exact hi'.perm (hp.append_right H0)
 obtain⟨z,hw,hle2,hi3,hok,_⟩:=hi2.freeze
 exact⟨z,v,_,Hk,rfl,hw,hle.trans hle2,hi3,frz_ok hi2 hle2 hw hok r v hv h1,h2⟩
theorem CallS.frzTop {P:Program}{g:FuncId}{az:List A}{H Hk:Heap}{τ:Nat}{e:TypeId}{sz:Nat}{rows:List (List A)}{xs:List (List L)}(hd:allD rows=true) (hx:rowsD rows=xs)
  (h:CallS P g az H fun r H'=>∃hd,r=.own τ hd∧subP ((τ,.seq hd e sz rows)::Hk) H'):CallS P g az H fun r H'=>r=.dat (.sl xs)∧H'=Hk:=by
 have h2:=h.dropP (K':=fun r H'=>∃hd,r=.own τ hd∧H'=(τ,.seq hd e sz rows)::Hk) (fun r H' ⟨a,b,c⟩=>⟨_,c,a,b,rfl⟩)
 refine h2.frzKeep ?_
 rintro r H' ⟨a,rfl,rfl⟩
 refine⟨[(τ,.seq a e sz rows)],Hk,List.Perm.refl _,?_,?_,rfl⟩
 ·simp[Go.Proofs.YtpadinblmjlggaaGreatDoor.frz,hget,hd]
 ·simp[Go.Proofs.YtpadinblmjlggaaGreatDoor.frz,hget,hx]
theorem CallY.rtB {P:Program}{k l:Nat}{az:List A}{B:Heap}{σ δ:Type}{Hc:σ->Heap}{Hd:δ->Heap}{s:σ}{W:Except δ σ->Prop}(h:CallY P l az (B++Hc s) fun r H'=>∃o,W o∧yK (fun s=>B++Hc s) (fun d=>B++Hd d) o r H') :
  CallY P l az (B++Go.Proofs.YtpadinblmjlggaaGreatDoor.rt k (Hc s)) fun r H'=>∃o,W o∧yK (fun s=>B++Go.Proofs.YtpadinblmjlggaaGreatDoor.rt k (Hc s)) (fun d=>B++Go.Proofs.YtpadinblmjlggaaGreatDoor.rt k (Hd d)) o r H':=by
 intro x args H0 hi hd
 obtain⟨f,t,a,b,h1,h2⟩:=h x args H0 (hi.ents (by simp[rt_snd])) hd
 refine⟨f,t,a,b,h1,h2.mono ?_⟩
 rintro _ _ ⟨y,v,r,H',a,b,c,d,e,o,w,g⟩
 cases o with
 | ok s'=>
  obtain⟨g1,g2⟩:=g
  exact⟨y,v,r,B++Go.Proofs.YtpadinblmjlggaaGreatDoor.rt k (Hc s'),a,b,c,d.ents (by rw[g2];simp[rt_snd]),e,_,w,g1,rfl⟩
 | error e'=>
  obtain⟨g1,g2⟩:=g
  exact⟨y,v,r,B++Go.Proofs.YtpadinblmjlggaaGreatDoor.rt k (Hd e'),a,b,c,d.ents (by rw[g2];simp[rt_snd]),e,_,w,g1,rfl⟩
theorem IterB.rt {P:Program}{B:Heap}{f:FuncId}{first caps:List A}{ι:Type}{items:List ι}{enc:ι->List A}(k:Nat)
  (h:∀ {σ δ:Type}(l:Nat) (Hc:σ->Heap) (Hd:δ->Heap) (I:List ι->σ->Prop) (R:σ->ι->Except δ σ->Prop) (s:σ),I items s ->
   (∀s p rest,I (p::rest) s->p∈items->CallY P l (enc p) (B++Go.Proofs.YtpadinblmjlggaaGreatDoor.rt k (Hc s)) fun r H'=>∃o,(R s p o∧∀s',o=.ok s'->I rest s')∧yK (fun s=>B++Go.Proofs.YtpadinblmjlggaaGreatDoor.rt k (Hc s)) (fun d=>B++Go.Proofs.YtpadinblmjlggaaGreatDoor.rt k (Hd d)) o r H') ->
   CallS P f (first++[.yld l]++caps) (B++Go.Proofs.YtpadinblmjlggaaGreatDoor.rt k (Hc s)) fun _ H'=>∃o,FoldR R items s o∧match o with
    | .ok s'=>subP (B++Go.Proofs.YtpadinblmjlggaaGreatDoor.rt k (Hc s')) H'
    | .error e=>subP (B++Go.Proofs.YtpadinblmjlggaaGreatDoor.rt k (Hd e)) H'):IterB P B f first caps items enc:=by
 intro σ δ l Hc Hd I R s hI hy
 have h1:=h l Hc Hd I R s hI fun s p rest hs hp=>by
  have h2:=hy s p rest hs hp
  refine CallY.rtB (W:=fun o=>R s p o∧∀s',o=.ok s'->I rest s') (h2.mono ?_)
  rintro r H' ⟨o,a,b,c⟩
  exact⟨o,⟨a,b⟩,c⟩
 refine⟨h1.1,fun x args H0 hi hd=>(h1.2 x args H0 (hi.ents (by simp[rt_snd])) hd).mono ?_⟩
 rintro _ _ ⟨y,v,r,H',a,b,c,d,e,o,ho,g⟩
 cases o with
 | ok s'=>exact⟨y,v,r,B++Hc s',a,b,c,(subP_inv g d).ents (by simp[rt_snd]),e,_,ho,rfl⟩
 | error e'=>exact⟨y,v,r,B++Hd e',a,b,c,(subP_inv g d).ents (by simp[rt_snd]),e,_,ho,rfl⟩
theorem FoldR.fn {ι σ δ:Type}(step:σ->ι->Except δ σ):∀(l:List ι) (s:σ) (o:Except δ σ),FoldR (fun s p o=>o=step s p) l s o->o=l.foldlM step s
 | [],s,o,h=>h
 | p::l,s,o,h=>by
  obtain⟨o1,rfl,h2⟩:=h
  rw[List.foldlM_cons]
  cases hs:step s p with
  | ok s1=>
   rw[hs]at h2
   exact FoldR.fn step l s1 o h2
  | error d=>
   rw[hs]at h2
   exact h2
theorem CallS.mid {P:Program}{g:FuncId}{az:List A}{H:Heap}{ρ:A}(h:CallS P g az H fun r H'=>r=ρ∧H'=H) (B D:Heap):CallS P g az (B++(H++D)) fun r H'=>r=ρ∧H'=B++(H++D):=by
 refine (h.frame (H1:=D)).frameL.mono ?_
 rintro r H' ⟨_,⟨_,⟨rfl,rfl⟩,rfl⟩,rfl⟩
 exact⟨rfl,rfl⟩
theorem D_nild {x:X}:∀v,D x .nils v->D x (.dat (.sl [])) v:=fun v hv=>by
 simp only[D]at hv
 subst hv
 simp[D,RdL]
theorem wpAny_fw {P:Program}{r:Option Nat}{ops:Array Oper}{Q:Exit->Act->World->Prop}(hnd:(ops.toList.all fun o=>!isDefer o.op)=true) (hp:∀c a w,¬Q (.panic c) a w) (ho:∀a w,¬Q .outgrown a w) :
  ∀(fuel:Nat) (listed:Array Bool) (a:Act) (w:World),wpAny P .any ops Q fuel listed a w->wpAnyIn (fw r) 0 P .any ops Q fuel listed a w:=by
 intro fuel
 induction fuel with
 | zero=>intro listed a w h;exact h
 | succ fuel ih=>
  intro listed a w h
  refine⟨h.1,fun i hi=>?_⟩
  have h2:=h.2 i hi
  unfold wpOp at h2
  unfold wpOpIn
  cases hoi:ops[i]? with
  | none=>
   rw[hoi]at h2
   exact ih _ _ _ h2
  | some o=>
   rw[hoi]at h2
   simp only at h2 ⊢
   by_cases hw:Region.wanted o (yielded ops a.tmps)=true
   ·rw[if_pos hw]at h2 ⊢
    have hmem:o∈ops.toList:=by
     obtain⟨hl,he⟩:=Array.getElem?_eq_some_iff.1 hoi
     rw[<- he]
     simp
    have hdf:isDefer o.op=false:=by simpa using List.all_eq_true.1 hnd o hmem
    have hwp:o.wp P a w (wpAny P .any ops Q fuel (listed.setIfInBounds i true)) Q:=by
     rcases h2 with h2 | ⟨_,a',w',h2⟩
     ·exact h2
     ·exact absurd h2 (ho _ _)
    unfold Oper.wp at hwp
    refine⟨fun _ _=>trivial,?_⟩
    rw[semAt_exec _ _ hdf]
    generalize (execOp a.eval o).run P w=res at hwp ⊢
    cases res with
    | ok nx w'=>
     cases nx<;>simp only[Oper.upon,Oper.uponIn]at hwp ⊢
     ·exact ih _ _ _ hwp
     ·exact ih _ _ _ hwp
     ·refine⟨fun hh=>by simp[fw]at hh,?_⟩
      refine CallsIn.mono (calls_fw hwp ?_) ?_
      ·intro e w' he
       cases e with
       | returned v=>exact⟨v,rfl⟩
       | panicked c=>exact absurd he (hp _ _ _)
       | outgrown=>obtain⟨a',w'',h3⟩:=he;exact absurd h3 (ho _ _)
      ·intro e w' he
       cases e with
       | returned v=>exact ih _ _ _ he
       | panicked c=>exact he
       | outgrown=>exact he
     ·exact ih _ _ _ hwp
     ·refine⟨fun hh=>by simp[fw]at hh,?_⟩
      intro c cs _
      obtain⟨v,w',h3,h4⟩:=hwp c cs
      exact⟨v,w',ih _ _ _ h3,(StepsIn.of_steps h4).mono fun m _=>fenced_wide P m⟩
    | halt x w'=>cases x<;>simp only[Oper.upon,Oper.uponIn]at hwp ⊢<;>exact hwp
   ·rw[if_neg hw]at h2 ⊢
    exact⟨fun _ _=>trivial,ih _ _ _ h2⟩
theorem V.drawR {r:Option Nat}{n:Nat}{id:Nat}{ops:Array Oper}{E:Env}{H:Heap}{Q:PostQ}(ρ:Nat->Option CR) (hnd:(ops.toList.all fun o=>!isDefer o.op)=true) (hm:P.follows .mixedOrders=true) (hd:depB ops.toList=true) (hn:(H.map (·.1)).Nodup)
  (h:vcD P ρ ops.toList 0 [] ops.toList E H fun E' H'=>Q .normal E' H'):V ⟨P,r,n⟩ (.region id ops true) E H Q:=by
 intro hf x act H00 ms hi he
 generalize hH0:marks ms++H00=H0 at hi
 generalize hds:ms.map mk=ds at he
 have hlex:=fun ν=>vcD_lex (P:=P) (E0:=E) (G0:=fun t=>hget t H) (ν:=ν) ops.toList 0 [] E H (by simp) h rfl hn (fun k o hk=>by omega)
 have L:LexOK P ρ ops.toList E (fun t=>hget t H):=⟨hd,fun ν i o ho=>(hlex ν).1 i o (Nat.zero_le _) ho,
  fun ν i j oi oj t hij hoi hoj hc=>(hlex ν).2.1 i j oi oj t (Nat.zero_le _) hij hoi hoj hc⟩
 refine wpIn_mono (Q:=Post n H00 (fun e E H=>match e with
  | .normal=>Q .normal E H
  | _=>False) x) (wpIn_region_any hm (wpAny_fw hnd (by rintro c a w ⟨_,_,_,_,_,_,_,_,hq⟩;exact hq) (by rintro a w ⟨_,_,_,_,_,_,_,_,hq⟩;exact hq) _ _ _ _ ?_)) (by
  rintro e a w ⟨x',E',H',ms',h1,h2,h3,h4,hq⟩
  cases e with
  | normal=>exact⟨x',E',H',ms',h1,h2,h3,h4,hq⟩
  | _=>exact hq.elim)
 have hi':Inv x.drew (H++H0):=hi.grow (X.drew_grow x)
 have he':EnvOK n ds x.drew act E:=he.mono (X.drew_grow x).le
 have hsz:∀k,(Array.replicate ops.size false).getD k false=false:=by
  intro k
  rw[Array.getD_eq_getD_getElem?]
  by_cases hk:k<ops.size
  ·simp[Array.getElem?_replicate,hk]
  ·simp[Array.getElem?_replicate,hk]
 have hfun:(fun k=>(Array.replicate ops.size false).getD k false)=fun _=>false:=funext hsz
 have hee:∀(r:Nat->Option (Prop×A×Option (Nat×Ent))) m,eeS ops.toList E r (fun _=>false) m=E:=by
  intro r m
  induction m with
  | zero=>rfl
  | succ m ih=>simp[eeS,ih]
 have hgg:∀(r:Nat->Option (Prop×A×Option (Nat×Ent))) m,ggS ops.toList (fun t=>hget t H) r (fun _=>false) m=fun t=>hget t H:=by
  intro r m
  induction m with
  | zero=>rfl
  | succ m ih=>simp[ggS,ih]
 have key:=region_any (H0:=H0) (x0:=x) (n:=n) (ds:=ds) (Q:=Post n H00 (fun e E H=>match e with
  | .normal=>Q .normal E H
  | _=>False) x) L (fitsOps_ok hf) (by
   intro ν y a Hc hle hy hey hg
   obtain⟨Hn,q1,q2,q3⟩:=(hlex ν).2.2
   have hsub:∀t e,hget t Hn=some e->hget t Hc=some e:=fun t e ht=>by rw[hg t,q2];exact ht
   exact⟨y,_,Hn,ms,rfl,hle,by rw[hH0];exact subH_inv (subH_of q3 hsub) hy,by rw[hds];exact hey,q1⟩)
  ops.size (Array.replicate ops.size false) (fun _=>(.nilIface,0)) x.drew act H (List.range ops.size) (by simp) List.nodup_range (by intro k;rw[hsz k];simp) (by simp) (by
   rw[hfun];intro j i hj;cases hj) (X.drew_grow x).le hi' (by rw[hfun,hee];exact he') (by intro t;rw[hfun,hgg])
 have key2:wpAny P .any ops (Post n H00 (fun e E H=>match e with
  | .normal=>Q .normal E H
  | _=>False) x) ops.size (Array.replicate ops.size false) act x.drew.w:=by simpa using key
 exact key2
theorem V.drawXR {r:Option Nat}{n:Nat}{id:Nat}{ops:Array Oper}{E:Env}{H:Heap}{Q:PostQ}(ρ:Nat->Option CR) (hnd:(ops.toList.all fun o=>!isDefer o.op)=true) (hm:P.follows .mixedOrders=true) (hd:depB ops.toList=true) (hn:(H.map (·.1)).Nodup)
  (h:vcX P ρ ops.toList 0 [] [] ops.toList E H fun E' H'=>Q .normal E' H'):V ⟨P,r,n⟩ (.region id ops true) E H Q:=
 V.drawR ρ hnd hm hd hn ((vcX_D _ _ _ _ _ _ h).2 [] (by simp))
theorem CallS.frzCell {P:Program}{g:FuncId}{az:List A}{H:Heap}{K K':A->Heap->Prop}(h:CallS P g az H K)
  (hk:∀r H',K r H'->∃(q τ b j t:Nat) (hd:Value) (e sz:Nat) (rows:List (List A)) (cs:List A),hget q (hdel τ H')=some (.box b cs)∧hget τ H'=some (.seq hd e sz rows)∧allD rows=true∧cs[j]?=some (.own t hd) ∧
   K' r (hset q (.box b (cs.set j (.dat (.sl (rowsD rows))))) (hdel τ H'))):CallS P g az H K':=by
 refine⟨h.1,fun x args H0 hi hd=>(h.2 x args H0 hi hd).mono ?_⟩
 rintro _ _ ⟨y,v,r,H',rfl,rfl,hle,hi',hv,hkk⟩
 obtain⟨q,τ,b,j,t,hd,e,sz,rows,cs,h1,h2,h3,h4,h5⟩:=hk r H' hkk
 obtain⟨z,hw,hle2,hi2,hrd⟩:=freeze1 h2 h3 hi'
 have hi3:=hi2.swap (e':=.box b (cs.set j (.dat (.sl (rowsD rows))))) h1 (fun ⟨c,ty,k1,k2⟩=>⟨c,ty,k1,Ds_set (fun v hv=>by simp only[D]at hv ⊢;rw[hv.1];exact hrd) h4 k2⟩) (fun b hb=>hb)
 exact⟨z,v,r,_,rfl,hw,hle.trans hle2,hi3,hv.mono hle2,h5⟩
theorem V.rest {f:Func}{k:Nat}{c:Code}{C:Cfg}{E:Env}{H:Heap}{Q:PostQ}(h:restF f k=some c) (hv:V C c E H Q):V C (restC f k) E H Q:=by
 unfold restC
 rw[h]
 exact hv
theorem V.of_rest {f:Func}{k:Nat}{c:Code}{C:Cfg}{E:Env}{H:Heap}{Q:PostQ}(h:restF f k=some c) (hv:V C (restC f k) E H Q):V C c E H Q:=by
 unfold restC at hv
 rw[h]at hv
 exact hv
end
theorem CallY.args {P:Program}{l:Nat}{az az':List A}{H:Heap}{K:A->Heap->Prop}(ha:∀x vs,Ds x az vs->Ds x az' vs) (h:CallY P l az' H K):CallY P l az H K:=
 fun x args H0 hi hd=>h x args H0 hi (ha x _ hd)
theorem GCall.sure {P:Program}{q p:Prop}{g:FuncId}{az:List A}{H:Heap}{K:A->Heap->Prop}(h:p∧CallS P g az H K) (hq:q):GCall P q p g az H K:=.inr ⟨fun _=>h,fun hn=>absurd hq hn⟩
theorem GCall.never {P:Program}{q p:Prop}{g:FuncId}{az:List A}{H:Heap}{K:A->Heap->Prop}(hq:¬q) (r:A) (h:K r H):GCall P q p g az H K:=.inr ⟨fun h=>absurd h hq,fun _=>⟨r,h⟩⟩
abbrev rN (n:Nat):List A:=[.dat (.int .i64 (n:Int))]
abbrev encN (n:Nat):List L:=[.int .i64 (n:Int)]
theorem rowsD_n (xs:List Nat):rowsD (xs.map rN)=xs.map encN:=by unfold rowsD;rw[List.map_map];rfl
theorem allD_n (xs:List Nat):allD (xs.map rN)=true:=by simp[allD,isD]
attribute [simp] rowsD_n allD_n
theorem port_of {ps:List Prt}{i:Nat}{t:List UInt8}(hi:i<ps.length) (ht:t∈portsK (kindOf ps i)):((i:Int),t)∈allP ps:=by
 unfold allP
 rw[mem_allN]
 refine⟨i,ps[i],hi,List.getElem?_eq_getElem hi,rfl,?_⟩
 unfold kindOf at ht
 rw[List.getElem?_eq_getElem hi]at ht
 exact ht
theorem kindOf_lt {ps:List Prt}{i:Nat}(h:kindOf ps i≠0):i<ps.length:=by
 rcases Nat.lt_or_ge i ps.length with hi | hi
 ·exact hi
 ·unfold kindOf at h
  rw[List.getElem?_eq_none hi]at h
  exact absurd rfl h
theorem indices_fn (n:Nat) (hn:n<=1000):CallFn Tryz.prog 189 [aI n] (aNs (List.range n)):=by
 refine callFz_of Tryz.func189 rfl Tryz.ntmps189 (rs:=[.tmp 2]) rfl (by kernel_rfl) (by simp) (by kernel_rfl) ?_
 simp
 refine V.forI (σ:=Value) n [2,5] (by simp;exact rfl) (fun i g=>[(3,.own 50 g),(6,aI i)]) (fun i g=>[(50,.seq g 3 1 ((List.range i).map rN))]) (fun _ _=>True) (.slice none 0 0) trivial (by simp) ⟨by simp;exact rfl,by simp⟩ ?_ ?_
 ·rintro i g hi -
  simp[hi,List.range_succ]
  omega
 ·rintro g -
  simp
theorem valve1_s {s:PlS}(h:s.OK) {i v b2:Nat}(hi:kindOf s.ps i=1) (hv:v<s.ps.length) :
  CallS Tryz.prog 190 [aI v,.ptr 2 b2 0,.rptr [.int .i64 (i:Int)]] ((2,.box b2 [.ptr 170 s.b 0])::s.hp) fun r H'=>r=aB (drvB s.ps s.ns i v)∧H'=(2,.box b2 [.ptr 170 s.b 0])::s.hp:=by
 have hk:=kind_s h hv
 have hil:=kindOf_lt (ps:=s.ps) (i:=i) (by omega)
 have h2:=pair_s h (a:=i) (b:=v) (t:=[50]) (port_of hil (by rw[hi];decide)) (by have:=h.few;omega)
 have h4:=pair_s h (a:=i) (b:=v) (t:=[52]) (port_of hil (by rw[hi];decide)) (by have:=h.few;omega)
 unfold drvB
 generalize kindOf s.ps v=k at *
 refine callS_of Tryz.func190 rfl Tryz.ntmps190 (rs:=[.tmp 4]) rfl (by kernel_rfl) (by simp) (by kernel_rfl) ?_
 simp
 refine hk.c1.mono ?_
 rintro r H' ⟨_,⟨rfl,rfl⟩,rfl⟩
 simp
 by_cases hk2:(k:Int)=2∨(k:Int)=3
 ·have e:(k==2||k==3)=true:=by simp;omega
  rw[e]
  refine GCall.sure ⟨hk2,h2.c1.mono ?_⟩ hk2
  rintro r H' ⟨_,⟨rfl,rfl⟩,rfl⟩
  simp[hk2]
  cases e2:pairZ s.ns i v [50]
  ·refine GCall.never (by simp) (aB false) ?_
   simp[hk2]
  ·refine GCall.sure ⟨by simp[hk2],h4.c1.mono ?_⟩ (by simp[hk2])
   rintro r H' ⟨_,⟨rfl,rfl⟩,rfl⟩
   simp[hk2]
 ·have e:(k==2||k==3)=false:=by simp;omega
  rw[e]
  refine GCall.never hk2 (aB false) ?_
  simp[hk2]
  refine GCall.never (by simp[hk2]) (aB false) ?_
  simp[hk2]
theorem valve_s {s:PlS}(h:s.OK) {i:Nat}(hi:kindOf s.ps i=1):CallS Tryz.prog 129 [.ptr 170 s.b 0,aI i] s.hp fun r H'=>r=aI (idxI (valveZ s.ps s.ns i))∧H'=s.hp:=by
 have hf:=h.few
 have hin:=indices_fn s.ps.length (by omega)
 refine CallS.dropP (callS_of Tryz.func129 rfl Tryz.ntmps129 (rs:=[.tmp 4]) rfl (by kernel_rfl) (by simp) (by kernel_rfl) (K:=fun r H'=>r=aI (idxI (valveZ s.ps s.ns i))∧subP s.hp H') ?_) (fun _ _ ⟨h1,h2⟩=>⟨_,h2,h1,rfl⟩)
 simp
 intro b2
 refine hin.s ?_
 simp
 have hx:=idxM_s ((List.range s.ps.length).map fun n:Nat=>(n:Int)) (fun n=>drvB s.ps s.ns i n.toNat) 190 [] [.ptr 2 b2 0,.rptr [.int .i64 (i:Int)]] ((2,.box b2 [.ptr 170 s.b 0])::s.hp) (by unfold Sh;simp;omega) (fun n hn=>by
  obtain⟨v,hv,rfl⟩:=List.mem_map.1 hn
  exact valve1_s h hi (List.mem_range.1 hv))
 rw[List.findIdx?_map]at hx
 have e:((fun n:Int=>drvB s.ps s.ns i n.toNat)∘fun n:Nat=>(n:Int))=drvB s.ps s.ns i:=by funext n;simp
 rw[e]at hx
 have e2:aIs ((List.range s.ps.length).map fun n:Nat=>(n:Int))=aNs (List.range s.ps.length):=by
  unfold aIs aNs
  rw[List.map_map]
  rfl
 rw[e2]at hx
 refine hx.mono ?_
 rintro r H' ⟨rfl,rfl⟩
 simp
 exact⟨rfl,(subP.refl _).c _⟩
theorem counts_s {s:PlS}(h:s.OK) {i:Nat}(hi:i<s.ns.length):CallS Tryz.prog 202 [.ptr 170 s.b 0,aI i] s.hp fun r H'=>r=aB (countsI s.ps s.ns i)∧H'=s.hp:=by
 obtain⟨l,hl⟩:∃l,s.ns[i]=l:=⟨_,rfl⟩
 have hlo:s.ns[i]?=some l:=by rw[List.getElem?_eq_getElem hi,hl]
 obtain⟨h1,h2,h3⟩:=h.net l (List.mem_of_getElem? hlo)
 obtain⟨q,l2,rfl⟩:=List.exists_cons_of_ne_nil h2
 obtain⟨q1,q2⟩:=q
 obtain⟨j,p,hj,hp,hq1,hq2⟩:=mem_allN.1 (h3 (q1,q2) (by simp))
 simp only at hq1
 subst hq1
 have hk:=kind_s h hj
 have hkl:kindOf s.ps j<14:=by
  unfold kindOf
  rw[hp]
  have:=h.kinds p (List.mem_of_getElem? hp)
  simp only
  omega
 have hr:=Role_k (kindOf s.ps j) hkl q2
 have hc:countsI s.ps s.ns i=(decide (1<((↑j,q2)::l2:List PortZ).length)||roleK (kindOf s.ps j) q2==some 3):=by
  unfold countsI countsZ
  rw[List.getD_eq_getElem?_getD,hlo]
  simp
 rw[hc]
 generalize kindOf s.ps j=k at *
 refine callS_of Tryz.func202 rfl Tryz.ntmps202 (rs:=[.tmp 4]) rfl (by kernel_rfl) (by simp) (by kernel_rfl) ?_
 simp[hi,hl,hlo]
 refine V.drawX (fun t=>if t=21 then some (.ro (aI k)) else if t=26 then some (.fn (.tuple [aI ((roleK k q2).getD 0:Nat),aI (if (roleK k q2).isSome=true then 0 else 6)])) else none) (by kernel_rfl) (by kernel_rfl) (by simp) ?_
 simp[hi,hl,hlo]
 refine⟨hk,hr,?_,?_⟩
 ·intro h1
  exact⟨h1,fun h2=>⟨h1,h2⟩⟩
 ·rw[show decide (1<(l2.length:Int)+1)=decide (0<l2.length) from by rw[decide_eq_decide];omega]
  congr 1
  cases roleK k q2 with
  | none=>rfl
  | some n=>
   simp
   rw[Bool.eq_iff_iff]
   simp
   omega
abbrev encGf (g:Gift):List L:=[.int .i64 (g.part:Int),.int .i64 (g.pos:Int),.str g.pass.to,.sl (g.pass.src.map encT),.bool g.pass.all]
theorem kindOf_at {ps:List Prt}{j:Nat}{p:Prt}(hp:ps[j]?=some p):kindOf ps j=p.kind.toNat:=by unfold kindOf;rw[hp]
theorem PlS.OK.klt {s:PlS}(h:s.OK) (i:Nat):kindOf s.ps i<14:=by
 unfold kindOf
 cases hp:s.ps[i]? with
 | none=>simp
 | some p=>
  have:=h.kinds p (List.mem_of_getElem? hp)
  simp only
  omega
abbrev rGf (g:Gift):List A:=(encGf g).map A.dat
theorem rowsD_Gf (xs:List Gift):rowsD (xs.map rGf)=xs.map encGf:=by unfold rowsD;rw[List.map_map];rfl
theorem allD_Gf (xs:List Gift):allD (xs.map rGf)=true:=by simp[allD,isD]
attribute [simp] rowsD_Gf allD_Gf
theorem passK_len (k n:Nat):(passK k n).length<=1:=by
 unfold passK
 repeat' split
 all_goals simp
theorem gvN_len (k j:Nat) (t:List UInt8) (i:Nat):((List.range i).flatMap fun pos=>((passK k pos).filter fun y=>y.to==t).map fun y=>(⟨j,pos,y⟩:Gift)).length<=i:=by
 induction i with
 | zero=>simp
 | succ i ih=>
  rw[List.range_succ,List.flatMap_append,List.length_append]
  have h1:=List.length_filter_le (fun y:PassP=>y.to==t) (passK k i)
  have h2:=passK_len k i
  simp only[List.flatMap_cons,List.flatMap_nil,List.append_nil,List.length_map]
  omega
theorem given_s {s:PlS}(h:s.OK) {j:Nat}{t:List UInt8}(hj:j<s.ps.length):CallS Tryz.prog 258 [.ptr 170 s.b 0,.record (encPo ((j:Int),t))] s.hp fun r H'=>r=.dat (.sl ((givenZ s.ps ((j:Int),t)).map encGf))∧H'=s.hp:=by
 have hk:=kind_s h hj
 have hkl:=h.klt j
 have hpo:=Positions_k (kindOf s.ps j) hkl
 have hpa:=fun n hn=>Passes_k (kindOf s.ps j) hkl n hn
 unfold givenZ
 simp only[Int.toNat_natCast]
 generalize kindOf s.ps j=k at *
 refine CallS.frzTop (τ:=50) (e:=275) (sz:=5) (rows:=((List.range (manyK k)).flatMap fun pos=>((passK k pos).filter fun y=>y.to==t).map fun y=>(⟨j,pos,y⟩:Gift)).map rGf) (allD_Gf _) (rowsD_Gf _) (callS_of Tryz.func258 rfl Tryz.ntmps258 (rs:=[.tmp 4]) rfl (by kernel_rfl) (by simp) (by kernel_rfl) ?_)
 ·simp
  refine hk.mono ?_
  rintro r H' ⟨rfl,rfl⟩
  simp
  refine hpo.s ?_
  simp
  refine V.forI (σ:=Value) (manyK k) [0,3,4,21] (by simp;exact rfl) (fun i g=>[(5,.own 50 g),(22,aI i)]) (fun i g=>(50,.seq g 275 5 (((List.range i).flatMap fun pos=>((passK k pos).filter fun y=>y.to==t).map fun y=>(⟨j,pos,y⟩:Gift)).map rGf))::s.hp) (fun _ _=>True) (.slice none 0 0) trivial (by simp) ⟨by simp;exact rfl,by simp⟩ ?_ ?_
  ·rintro i g hi -
   have hp2:=hpa i hi
   have hm2:manyK k<=2:=by unfold manyK;split<;>omega
   simp[hi]
   refine hk.c1.mono ?_
   rintro r H' ⟨_,⟨rfl,rfl⟩,rfl⟩
   simp
   refine hp2.s ?_
   simp
   have hW:=gvN_len k j t i
   have hF:=passK_len k i
   rw[List.range_succ,List.flatMap_append]
   generalize ((List.range i).flatMap fun pos=>((passK k pos).filter fun y=>y.to==t).map fun y=>(⟨j,pos,y⟩:Gift))=W at hW ⊢
   generalize hFe:passK k i=F at hp2 hF ⊢
   refine V.forI (σ:=Value) F.length [0,3,4,8,21,22,34,35] (by simp;exact rfl) (fun n g=>[(5,.own 50 g),(36,aI n)]) (fun n g=>(50,.seq g 275 5 ((W++((F.take n).filter fun y=>y.to==t).map fun y=>(⟨j,i,y⟩:Gift)).map rGf))::s.hp) (fun _ _=>True) g trivial (by simp) ⟨by simp;exact rfl,by simp⟩ ?_ ?_
   ·rintro n g2 hn -
    obtain⟨x,hx⟩:∃x,F[n]=x:=⟨_,rfl⟩
    have hxo:F[n]?=some x:=by rw[List.getElem?_eq_getElem hn,hx]
    rw[List.take_add_one,hxo]
    have hle:=List.length_filter_le (fun y:PassP=>y.to==t) (F.take n)
    rw[List.length_take]at hle
    simp[hn,hx,hxo]
    refine⟨fun e=>⟨by omega,by omega,?_⟩,fun e=>⟨by omega,e⟩⟩
    simp[e]
   ·rintro g2 -
    simp
    refine⟨by omega,?_⟩
    rw[hFe]
  ·rintro g -
   simp
   exact subP.refl _
theorem gifts_s {s:PlS}(i:Nat):CallS Tryz.prog 207 [.ptr 170 s.b 0,aI i] s.hp fun r H'=>∃bg,r=.fn 257 [] [.ptr 175 bg 0,.rptr [.int .i64 (i:Int)]]∧H'=(175,.box bg [.ptr 170 s.b 0])::s.hp:=by
 refine CallS.res (K:=fun r H'=>∃bg,r=.fn 257 [] [.ptr 2 bg 0,.rptr [.int .i64 (i:Int)]]∧H'=(2,.box bg [.ptr 170 s.b 0])::s.hp) (callS_of Tryz.func207 rfl Tryz.ntmps207 (rs:=[.tmp 4]) rfl (by kernel_rfl) (by simp) (by kernel_rfl) ?_) ?_
 ·simp
 ·rintro r H' ⟨bg,rfl,rfl⟩
  refine⟨_,_,fun x H0 h=>?_,fun x v hv=>?_,bg,rfl,rfl⟩
  ·exact Inv.ents (by simp) h
  ·exact D_fn Ds_i (Ds_c D_tag Ds_i) _ hv
abbrev gfB (s:PlS) (bg:Nat):Heap:=(175,.box bg [.ptr 170 s.b 0])::s.hp
abbrev encGs (ps:List Prt) (d:List Drv) (x:PortZ):List A:=[.record (encPo x),.dat (.sl ((giftsZ ps d x).map encGf))]
theorem gifts_iter {s:PlS}(h:s.OK) {d:List Drv}(hd:s.dr=.dat (.sl (d.map encDr))) (hdl:d.length<=1000) {i:Nat}{l:List PortZ}(hl:s.ns[i]?=some l) (bg:Nat) :
  IterB Tryz.prog (gfB s bg) 257 [] [.ptr 175 bg 0,.rptr [.int .i64 (i:Int)]] l (encGs s.ps d):=by
 refine IterB.rt 1000 ?_
 intro σ δ lp Hc Hd I R st0 hI0 hy
 obtain⟨hil,hi1⟩:=List.getElem?_eq_some_iff.1 hl
 obtain⟨n1,n2,n3⟩:=h.net l (List.mem_of_getElem? hl)
 refine callS_of Tryz.func257 rfl Tryz.ntmps257 (rs:=[]) rfl (by kernel_rfl) (by simp) (by kernel_rfl) ?_
 simp
 refine V.frame (H1:=gfB s bg) ?_
 refine V.drawX (fun _=>none) (by kernel_rfl) (by kernel_rfl) (by simp) ?_
 simp[hil,hi1,hl]
 refine V.for' [0,1,13,14] (fun p:Nat×σ=>[(15,aI p.1)]) (fun p=>gfB s bg++rt 1000 (Hc p.2))
  (fun p=>p.1<=l.length∧I (l.drop p.1) p.2∧∀o,FoldR R (l.drop p.1) p.2 o->FoldR R l st0 o) (fun p=>l.length-p.1) (0,st0) ⟨⟨by simp,hI0,fun o ho=>ho⟩,by simp,subP.refl _⟩ ?_
 rintro⟨n,st⟩ ⟨hn,hIst,hinv⟩
 simp only at hn hIst hinv
 by_cases hlt:n<l.length
 ·obtain⟨y,hy1⟩:∃y,l[n]=y:=⟨_,rfl⟩
  have hyo:l[n]?=some y:=by rw[List.getElem?_eq_getElem hlt,hy1]
  have hym:=List.mem_of_getElem? hyo
  rw[List.drop_eq_getElem_cons hlt,hy1]at hinv hIst
  obtain⟨y1,y2⟩:=y
  obtain⟨j,p,hj,hp,hq1,hq2⟩:=mem_allN.1 (n3 _ hym)
  simp only at hq1
  subst hq1
  simp[hlt,hy1,hyo]
  intro b5
  have hdv:=driven_s h hd hdl j
  have hgv:=given_s h (t:=y2) hj
  have hyy:=hy st ((j:Int),y2) _ hIst hym
  have hgi:giftsZ s.ps d ((j:Int),y2)=if (drivenZ d j).isSome=true then [] else givenZ s.ps ((j:Int),y2):=rfl
  have hy2:=hyy.c1 (e:=(5,.box b5 [aI j,aT y2]))
  simp[encGs,hgi]at hy2
  refine (hdv.mid [(5,_),(175,_)] (rt 1000 (Hc st))).mono ?_
  rintro r H' ⟨rfl,rfl⟩
  have hfin:∀r H',(∃H2,(∃o,(R st ((j:Int),y2) o∧∀s',o=.ok s'->I (l.drop (n+1)) s')∧yK (fun s'=>gfB s bg++rt 1000 (Hc s')) (fun e=>gfB s bg++rt 1000 (Hd e)) o r H2)∧H'=(5,.box b5 [aI j,aT y2])::H2) ->
    (∃st',I (l.drop (n+1)) st'∧r=aB true∧H'=(5,.box b5 [aI j,aT y2])::(gfB s bg++rt 1000 (Hc st'))∧∀o,FoldR R (l.drop (n+1)) st' o->FoldR R l st0 o) ∨
    ∃e,FoldR R l st0 (.error e)∧r=aB false∧H'=(5,.box b5 [aI j,aT y2])::(gfB s bg++rt 1000 (Hd e)):=by
   rintro r H' ⟨H2,⟨o,⟨h1,h2⟩,hk⟩,rfl⟩
   cases o with
   | ok st'=>
    obtain⟨rfl,rfl⟩:=hk
    exact .inl ⟨st',h2 _ rfl,rfl,rfl,fun o ho=>hinv o ⟨_,h1,ho⟩⟩
   | error e=>
    obtain⟨rfl,rfl⟩:=hk
    exact .inr ⟨e,hinv _ ⟨_,h1,rfl⟩,rfl,rfl⟩
  simp
  cases hv:drivenZ d j with
  | some v=>
   rw[hv]at hy2
   simp at hy2 ⊢
   refine⟨fun h=>absurd h (by omega),?_⟩
   refine CallY.args (az':=[A.record (encPo ((j:Int),y2)),A.dat (L.sl [])]) (fun x vs=>Ds_c D_i (Ds_c D_nild Ds_i) vs) ?_
   refine hy2.mono fun r H' hk=>?_
   rcases hfin r H' hk with⟨st',e1,rfl,rfl,e2⟩|⟨e,e1,rfl,rfl⟩
   ·simp
    refine⟨by omega,n+1,st',⟨by omega,e1,e2⟩,by omega,by simp,?_⟩
    exact (subP.refl _).c _
   ·simp
    exact⟨.error e,e1,(subP.refl _).c _⟩
  | none=>
   rw[hv]at hy2
   simp[idxI]at hy2 ⊢
   refine (hgv.mid [(5,_),(175,_)] (rt 1000 (Hc st))).mono ?_
   rintro r H' ⟨rfl,rfl⟩
   simp
   refine hy2.mono fun r H' hk=>?_
   rcases hfin r H' hk with⟨st',e1,rfl,rfl,e2⟩|⟨e,e1,rfl,rfl⟩
   ·simp
    refine⟨by omega,n+1,st',⟨by omega,e1,e2⟩,by omega,by simp,?_⟩
    exact (subP.refl _).c _
   ·simp
    exact⟨.error e,e1,(subP.refl _).c _⟩
 ·obtain rfl:n=l.length:=by omega
  rw[List.drop_length]at hinv
  simp
  exact⟨.ok st,hinv _ rfl,subP.refl _⟩
theorem idxI_fn (xs:List Int) (v:Int) (hx:Sh xs):CallFn Tryz.prog 70 [aIs xs,aI v] (aI (idxI (xs.findIdx? (v==·)))):=by
 refine callFz_of Tryz.func70 rfl Tryz.ntmps70 (rs:=[.tmp 4]) rfl (by kernel_rfl) (by simp) (by kernel_rfl) ?_
 simp
 refine V.forI (σ:=Unit) xs.length [0,1,7] (by simp;exact rfl) (fun i _=>[(8,aI i)]) (fun _ _=>[]) (fun i _=>NoF (v==·) (xs.take i)) () (by simp) (by simp) ⟨by simp;exact rfl,by simp⟩ ?_ ?_
 ·rintro i-hi hI
  have h1:=List.getElem?_eq_getElem hi
  have hs:=findIdx_step (p:=(v==·)) hI h1
  simp[hi,h1]
  cases e:(v==xs[i])
  ·simp at e
   simp[e]
   exact⟨by omega,hs.1 (by simp[e])⟩
  ·have e2:=hs.2 e
   simp at e
   rw[e2]
   simp[e]
 ·rintro-hI
  rw[findIdx_none hI]
  simp
theorem containsI_fn (xs:List Int) (v:Int) (hx:Sh xs):CallFn Tryz.prog 37 [aIs xs,aI v] (aB (decide (v∈xs))):=by
 refine callFz_of Tryz.func37 rfl Tryz.ntmps37 (rs:=[.tmp 4]) rfl (by kernel_rfl) (by simp) (by kernel_rfl) ?_
 simp
 refine (idxI_fn xs v hx).s ?_
 simp
 rw[<- decide_eq_true_iff (p:=0<=_),idxI_ge,List.findIdx?_isSome]
 simp
theorem passK_src {k:Nat}(hk:k<14) {n:Nat}(hn:n<2) {y:PassP}(hy:y∈passK k n) {t:List UInt8}(ht:t∈y.src):t∈portsK k:=by
 have key:((List.range 14).all fun k=>(List.range 2).all fun n=>(passK k n).all fun y=>y.src.all fun t=>(portsK k).any (t==·))=true:=by decide
 have h1:=List.all_eq_true.1 (List.all_eq_true.1 (List.all_eq_true.1 (List.all_eq_true.1 key k (List.mem_range.2 hk)) n (List.mem_range.2 hn)) y hy) t ht
 obtain⟨u,hu,e⟩:=List.any_eq_true.1 h1
 rw[eq_of_beq e]
 exact hu
theorem passK_srcl (k n:Nat):∀y∈passK k n,y.src.length<=2:=by
 intro y hy
 unfold passK at hy
 repeat' split at hy
 all_goals (simp at hy;try (subst hy;simp))
theorem manyK_le (k:Nat):manyK k<=2:=by unfold manyK;split<;>omega
theorem given_mem {ps:List Prt}{x:PortZ}{g:Gift}(h:g∈givenZ ps x):g.part=x.1.toNat∧g.pos<manyK (kindOf ps x.1.toNat)∧g.pass∈passK (kindOf ps x.1.toNat) g.pos:=by
 unfold givenZ at h
 obtain⟨n,hn,h2⟩:=List.mem_flatMap.1 h
 obtain⟨y,hy,rfl⟩:=List.mem_map.1 h2
 exact⟨rfl,List.mem_range.1 hn,(List.mem_filter.1 hy).1⟩
theorem gifts_mem {ps:List Prt}{d:List Drv}{x:PortZ}{g:Gift}(h:g∈giftsZ ps d x):g∈givenZ ps x:=by
 unfold giftsZ at h
 split at h
 ·simp at h
 ·exact h
theorem gift_port {s:PlS}(h:s.OK) {d:List Drv}{x:PortZ}(hx:x∈allP s.ps) {g:Gift}(hg:g∈giftsZ s.ps d x) {t:List UInt8}(ht:t∈g.pass.src):((g.part:Int),t)∈allP s.ps:=by
 obtain⟨h1,h2,h3⟩:=given_mem (gifts_mem hg)
 obtain⟨i,p,hi,hp,hx1,_⟩:=mem_allN.1 hx
 have e:x.1.toNat=i:=by omega
 rw[e]at h1 h2 h3
 rw[h1]
 exact port_of hi (passK_src (h.klt i) (Nat.lt_of_lt_of_le h2 (manyK_le _)) h3 ht)
abbrev ordE (go:Value) (order:List Nat):Nat×Ent:=(173,.seq go 3 1 (order.map rN))
theorem any_nat (l:List Nat) (n:Nat):decide ((n:Int)∈l.map fun k:Nat=>(k:Int))=l.any (n==·):=by
 rw[Bool.eq_iff_iff]
 simp only[decide_eq_true_eq,List.mem_map,List.any_eq_true,beq_iff_eq]
 constructor
 ·rintro⟨a,h1,h2⟩;exact⟨a,h1,by omega⟩
 ·rintro⟨a,h1,h2⟩;exact⟨a,h1,by omega⟩
theorem containsN_fn (xs:List Nat) (n:Nat) (hx:Sh xs):CallFn Tryz.prog 37 [aNs xs,aI n] (aB (xs.any (n==·))):=by
 have h:=containsI_fn (xs.map fun k:Nat=>(k:Int)) n (by unfold Sh at hx ⊢;simpa using hx)
 rw[any_nat]at h
 have e2:aIs (xs.map fun k:Nat=>(k:Int))=aNs xs:=by
  unfold aIs aNs
  rw[List.map_map]
  rfl
 rw[e2]at h
 exact h
def okT (s:PlS) (d:List Drv) (order:List Nat) (G:Gift):Bool:=G.pass.src.all fun t=>!takesZ s.ps s.ns order G t
theorem fold_all {α:Type}(p:α->Bool):∀l:List α,(l.foldlM (fun (_:Unit) x=>if p x=true then (Except.ok ():Except Unit Unit) else .error ()) ())=if l.all p=true then .ok () else .error ()
 | []=>rfl
 | x::l=>by
  rw[List.foldlM_cons,List.all_cons]
  cases h:p x
  ·rfl
  ·simp only[Bool.true_and]
   exact fold_all p l
theorem ready_s {s:PlS}(h:s.OK) {d:List Drv}(hd:s.dr=.dat (.sl (d.map encDr))) (hdl:d.length<=1000) {order:List Nat}{go:Value}(ho:s.od=.own 173 go) (hol:order.length<=1000) {i:Nat}(hi:i<s.ns.length) :
  CallS Tryz.prog 203 [.ptr 170 s.b 0,aI i] (s.hp++[ordE go order]) fun r H'=>r=aB (readyZ s.ps d s.ns order i)∧H'=s.hp++[ordE go order]:=by
 have hl:s.ns[i]?=some s.ns[i]:=List.getElem?_eq_getElem hi
 have hr:readyZ s.ps d s.ns order i=s.ns[i].all fun x=>(giftsZ s.ps d x).all (okT s d order):=by
  unfold readyZ okT
  rw[List.getD_eq_getElem?_getD,hl]
  rfl
 have hnet:=h.net _ (List.mem_of_getElem? hl)
 rw[hr]
 generalize s.ns[i]=l at hl hnet ⊢
 refine CallS.dropP (callS_of Tryz.func203 rfl Tryz.ntmps203 (rs:=[.cell 4 4]) rfl (by kernel_rfl) (by simp) (by kernel_rfl) (K:=fun r H'=>r=aB (l.all fun x=>(giftsZ s.ps d x).all (okT s d order))∧subP (s.hp++[ordE go order]) H') ?_) (fun _ _ ⟨h1,h2⟩=>⟨_,h2,h1,rfl⟩)
 simp
 intro b2 b4
 have hg:=(gifts_s (s:=s) i).frame (H1:=[ordE go order]) |>.frameL (H1:=[(4,.box b4 [aB false]),(2,.box b2 [.ptr 170 s.b 0])])
 refine hg.mono ?_
 rintro r H' ⟨_,⟨_,⟨bg,rfl,rfl⟩,rfl⟩,rfl⟩
 simp
 refine V.rangeFoldB (σ:=Unit) (δ:=Unit) (items:=l) (enc:=encGs s.ps d) (B:=gfB s bg) 100 (by simp) trivial (gifts_iter h hd hdl hl bg)
  (fun _=>[(4,.box b4 [aB false]),(2,.box b2 [.ptr 170 s.b 0]),ordE go order]) (fun _=>[(4,.box b4 [aB false]),(2,.box b2 [.ptr 170 s.b 0]),ordE go order])
  (fun _=>none) (fun _ _=>True) (fun _ x o=>o=if (giftsZ s.ps d x).all (okT s d order)=true then .ok () else .error ()) () trivial (by
   refine⟨_,List.Sublist.refl _,?_⟩
   exact List.Perm.append_right [ordE go order] (List.perm_append_comm (l₁:=[(4,.box b4 [aB false]),(2,.box b2 [.ptr 170 s.b 0])]) (l₂:=gfB s bg))) (by simp[encGs]) ?_ ?_
 ·rintro lp ⟨⟩ x _-hx
  have hxa:=hnet.2.2 x hx
  have hgp:=fun G hG t ht=>gift_port h (d:=d) hxa (g:=G) hG (t:=t) ht
  have hgs:=fun G hG=>passK_srcl _ _ _ (given_mem (gifts_mem (ps:=s.ps) (d:=d) (g:=G) (x:=x) hG)).2.2
  have hgl:(giftsZ s.ps d x).length<=2:=by
   unfold giftsZ
   split
   ·simp
   ·exact Nat.le_trans (gvN_len _ _ _ _) (manyK_le _)
  simp[encGs]
  generalize giftsZ s.ps d x=GS at *
  refine V.forI (σ:=Unit) GS.length [2,4,17,18] (by simp;exact rfl) (fun n _=>[(19,aI n)]) (fun _ _=>gfB s bg++[(4,.box b4 [aB false]),(2,.box b2 [.ptr 170 s.b 0]),ordE go order]) (fun n _=>(GS.take n).all (okT s d order)=true) () (by simp) (by simp) ⟨by simp;exact rfl,by simp⟩ ?_ ?_
  ·rintro n ⟨⟩ hn hI
   obtain⟨G,hG⟩:∃G,GS[n]=G:=⟨_,rfl⟩
   have hGo:GS[n]?=some G:=by rw[List.getElem?_eq_getElem hn,hG]
   have hGm:=List.mem_of_getElem? hGo
   have hp:=hgp G hGm
   have hsl:=hgs G hGm
   rw[List.take_add_one,hGo]
   simp[hn,hG,hGo]
   intro b8
   refine V.forI (σ:=Unit) G.pass.src.length [2,4,8,17,18,19,25,26] (by simp;exact rfl) (fun m _=>[(27,aI m)]) (fun _ _=>(8,.box b8 ((encGf G).map A.dat))::(gfB s bg++[(4,.box b4 [aB false]),(2,.box b2 [.ptr 170 s.b 0]),ordE go order])) (fun m _=>((G.pass.src.take m).all fun t=>!takesZ s.ps s.ns order G t)=true) () (by simp) (by simp) ⟨by simp;exact rfl,by simp⟩ ?_ ?_
   ·rintro m ⟨⟩ hm hJ
    obtain⟨t,ht⟩:∃t,G.pass.src[m]=t:=⟨_,rfl⟩
    have hto:G.pass.src[m]?=some t:=by rw[List.getElem?_eq_getElem hm,ht]
    have htm:=List.mem_of_getElem? hto
    have hpa:=hp t htm
    obtain⟨w1,w2⟩:=h.of _ hpa
    have hok:=okK_port (ps:=s.ps) (by have:=h.few;omega) hpa
    have hcs:=counts_s h w2
    have hcn:=containsN_fn order (netW s.ns ((G.part:Int),t)) (by unfold Sh;omega)
    have htk:takesZ s.ps s.ns order G t=(countsI s.ps s.ns (netW s.ns ((G.part:Int),t)) && !(order.any (netW s.ns ((G.part:Int),t)==·))):=rfl
    rw[List.take_add_one,hto]
    simp[hm,ht,hto]
    refine V.drawXR (fun _=>none) (by kernel_rfl) (by kernel_rfl) (by kernel_rfl) (by simp) ?_
    simp[hm,ht,hto,w1]
    refine⟨hok,(hcs.mid [(8,_),(175,_)] [(4,_),(2,_),ordE go order]).mono ?_⟩
    rintro r H' ⟨rfl,rfl⟩
    simp[ho]
    generalize netW s.ns ((G.part:Int),t)=k at *
    cases hc:countsI s.ps s.ns k
    ·refine GCall.never (by simp) (aB false) ?_
     rw[hc]at htk
     simp[htk]
     simp at hJ
     exact⟨by omega,hJ⟩
    ·refine GCall.sure ⟨by simp,hcn.lend (by simp[frzs,frz,ordE]) rfl ?_⟩ (by simp)
     rw[hc]at htk
     simp[htk]
     refine⟨fun hno=>?_,fun hkx=>⟨by omega,by simpa using hJ,hkx⟩⟩
     have hbad:takesZ s.ps s.ns order G t=true:=by
      rw[htk]
      simp
      exact hno
     rw[if_neg (fun hall=>by
      have:=hall G hGm
      unfold okT at this
      have:=List.all_eq_true.1 this t htm
      rw[hbad]at this
      cases this)]
     refine⟨rfl,?_⟩
     exact (subP.refl _).c _
   ·rintro⟨⟩ hJ
    simp at hJ hI
    simp
    refine⟨by omega,hI,?_⟩
    unfold okT
    simpa using hJ
  ·rintro⟨⟩ hI
   simp at hI ⊢
   rw[if_pos hI]
   simp
   exact subP.refl _
 ·intro o hof
  have hof:=FoldR.fn (fun (_:Unit) x=>if (giftsZ s.ps d x).all (okT s d order)=true then (Except.ok ():Except Unit Unit) else .error ()) _ _ _ hof
  rw[fold_all]at hof
  cases hall:l.all fun x=>(giftsZ s.ps d x).all (okT s d order)
  ·rw[hall]at hof
   subst hof
   simp[jX]
   exact ((((((subP.refl _).c _).c _).cc _).cc _).cc _).c _
  ·rw[hall]at hof
   subst hof
   simp
   exact ((((((subP.refl _).c _).c _).cc _).cc _).cc _).c _
def deRen:Go.Shelf.Ren:=⟨fun | 23=>204 | n=>n,fun | 0=>0 | 3=>3 | 4=>4 | 22=>26 | n=>n,fun n=>n⟩
theorem deLays:Go.Proofs.Lays2.n23 Tryz.prog deRen:={ 
 mixed:=by kernel_rfl,
 f23:=by kernel_rfl,
 t0:=Tryz.underlying0,
 a0:=Tryz.isAgg0,
 z0:=Tryz.sizeOf0,
 v0:=Tryz.zeroValue0,
 t3:=Tryz.underlying3,
 a3:=Tryz.isAgg3,
 z3:=Tryz.sizeOf3,
 v3:=Tryz.zeroValue3,
 t4:=Tryz.underlying4,
 a4:=Tryz.isAgg4,
 z4:=Tryz.sizeOf4,
 v4:=Tryz.zeroValue4,
 t22:=Tryz.underlying26,
 a22:=Tryz.isAgg26,
 z22:=Tryz.sizeOf26,
 v22:=Tryz.zeroValue26,
 i3:=by kernel_rfl }
end Go.Proofs.YtpadinblmjlggaaGreatDoor
