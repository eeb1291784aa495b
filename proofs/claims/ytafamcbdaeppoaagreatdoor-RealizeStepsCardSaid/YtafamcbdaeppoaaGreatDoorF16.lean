/- Texts joined by a program: Jl,Ou,Soa,Sk,Fwy,Fwx,Fwz,Fxa. -/
import Derived.Sort.Grow
import Derived.Shelf.Strconv.Itoa3
import Derived.Shelf.Small.Strs
import Derived.Test.YtafamcbdaeppoaaGreatDoorProg
import Derived.KernelRfl
import Derived.Test.YtafamcbdaeppoaaGreatDoorF15
import Derived.Test.YtafamcbdaeppoaaGreatDoorF10
set_option linter.unusedSimpArgs false
set_option linter.unusedVariables false
set_option maxHeartbeats 4000000
set_option maxRecDepth 100000
namespace Go.Proofs.YtafamcbdaeppoaaGreatDoor
section
abbrev KN:=Int×List UInt8
abbrev knOf (p:Made):KN:=(p.kind,p.name)
def outsK (k:Int):List (List UInt8):=if k=0 then [[49]] else if k=2 then [[50],[52]] else if k=1 then [] else [[50]]
def insK (k:Int):List (List UInt8):=if k=1 then [[50],[52]] else if k=2 then [[49],[49,52],[49,50]] else if k=5 then [[49],[49,48]] else if k=6 then [[49]] else if k=7 then [[49]] else if k=8 then [[49],[49,49]] else if k=9 then [[49],[49,49]] else if k=12 then [[49],[49,50]] else []
def OutP (F:List KN) (p:Pin):Prop:=∃k,(k,p.part)∈F∧p.port∈outsK k
def InP (F:List KN) (p:Pin):Prop:=∃k,(k,p.part)∈F∧p.port∈insK k
def KnownQ (F:List KN) (p:Pin):Prop:=p=noPin∨OutP F p
def JoinsT (F:List KN) (js:List (Pin×Pin)):Prop:=∀q∈js,OutP F q.1∧InP F q.2
theorem JoinsT.nil (F:List KN):JoinsT F []:=fun _ h=>nomatch h
theorem JoinsT.app {F:List KN}{a b:List (Pin×Pin)}(h:JoinsT F a) (h2:JoinsT F b):JoinsT F (a++b):=fun q hq=>(List.mem_append.1 hq).elim (h q) (h2 q)
theorem joinT {F:List KN}{a b:Pin}(ha:KnownQ F a) (hb:InP F b):JoinsT F (joinD a b):=by
 unfold joinD
 split
 ·exact .nil F
 ·rename_i h
  rw[not_or]at h
  intro q hq
  rw[List.mem_singleton.1 hq]
  exact⟨ha.resolve_left h.1,hb⟩
theorem supT {F:List KN}(hS:(0,[83])∈F):KnownQ F supPin:=.inr ⟨0,hS,by simp[outsK,insK,twinD,notD]⟩
theorem airT {F:List KN}{p:Pin}(hS:(0,[83])∈F) (hp:InP F p):JoinsT F (airD false p):=by
 unfold airD
 rw[if_neg (by decide)]
 exact joinT (supT hS) hp
def PartsT (F:List KN) (ps:List Made):Prop:=∀p∈ps,knOf p∈F
theorem twin_t {F:List KN}{sg kind:Int}(hk:kind=8∨kind=9) {letter:UInt8}:∀(ps:List Pin) {d:Dl},(∀p∈ps,KnownQ F p)->JoinsT F d.joins->KnownQ F d.pin->PartsT F (ps.foldl (twinD sg kind letter) d).parts ->
  JoinsT F (ps.foldl (twinD sg kind letter) d).joins∧KnownQ F (ps.foldl (twinD sg kind letter) d).pin
 | [],d,_,h1,h2,_=>⟨h1,h2⟩
 | p::ps,d,hp,h1,h2,h3=>by
  rw[List.foldl_cons]at h3 ⊢
  obtain⟨l,e⟩:=twin_mono (sg:=sg) (kind:=kind) (letter:=letter) ps (twinD sg kind letter d p)
  have hn:(kind,letter::numT d.num)∈F:=h3 ⟨kind,letter::numT d.num,0,sg,none,-1,-1⟩ (by rw[e];simp[twinD])
  have hi:∀s,s∈([[49],[49,49]]:List (List UInt8))->InP F ⟨letter::numT d.num,s⟩:=fun s hs=>⟨kind,hn,by rcases hk with rfl | rfl<;>exact hs⟩
  refine twin_t hk ps (fun q hq=>hp q (by simp[hq])) ?_ (.inr ⟨kind,hn,by rcases hk with rfl | rfl<;>simp[outsK,twinD]⟩) h3
  exact (h1.app (joinT h2 (hi _ (by simp)))).app (joinT (hp p (by simp)) (hi _ (by simp)))
mutual
theorem expr_t {F:List KN}(hS:(0,[83])∈F) (pf:Int->Pin) (sg:Int):∀(x:Expr) (k:Nat),(∀v∈varsE x,KnownQ F (pf v))->PartsT F (exprD false pf sg x k).parts->JoinsT F (exprD false pf sg x k).joins∧KnownQ F (exprD false pf sg x k).pin
 | ⟨op,ix,args⟩,k=>by
  have h:=args_t hS pf sg args k
  intro hv
  rw[varsE]at hv
  rw[exprD_eq]
  dsimp only
  have hva:∀v∈varsL args,KnownQ F (pf v):=fun v hm=>hv v (List.mem_append.2 (.inr hm))
  by_cases h0:op=0
  ·rw[if_pos h0]
   intro _
   refine⟨.nil F,?_⟩
   dsimp only
   split
   ·exact supT hS
   ·exact .inl rfl
  ·rw[if_neg h0]
   by_cases h1:op=1
   ·rw[if_pos h1]
    exact fun _=>⟨.nil F,hv ix (by rw[if_pos h1];simp)⟩
   ·rw[if_neg h1]
    have h2:=h hva
    generalize argsD false pf sg args k=r at *
    obtain⟨r1,r2,r3,r4⟩:=r
    dsimp only at h2 ⊢
    by_cases hop:op=2
    ·rw[if_pos hop]
     unfold notsD
     cases args.head? with
     | none=>exact fun hp=>⟨(h2 hp).1,.inl rfl⟩
     | some y=>
      intro hp
      have hn:((5:Int),78::numT r3)∈F:=hp ⟨5,78::numT r3,0,sg,some y,-1,-1⟩ (by simp[notD])
      obtain⟨a1,a2⟩:=h2 fun q hq=>hp q (by simp[notD,hq])
      refine⟨(a1.app (airT hS ⟨5,hn,by simp[outsK,insK,twinD,notD]⟩)).app (joinT ?_ ⟨5,hn,by simp[outsK,insK,twinD,notD]⟩),.inr ⟨5,hn,by simp[outsK,insK,twinD,notD]⟩⟩
      cases r4 with
      | nil=>exact .inl rfl
      | cons p ps=>exact a2 p (by simp)
    ·rw[if_neg hop]
     unfold foldD
     dsimp only
     cases r4 with
     | nil=>exact fun hp=>⟨(h2 hp).1,.inl rfl⟩
     | cons p ps=>
      intro hp
      obtain⟨l,e⟩:=twin_mono (sg:=sg) (kind:=if op=3 then 9 else 8) (letter:=if op=3 then 80 else 81) ps ⟨r1,r2,r3,p⟩
      dsimp only at hp e
      obtain⟨a1,a2⟩:=h2 fun q hq=>hp q (by rw[e];simp[hq])
      exact twin_t (by split<;>simp) ps (fun q hq=>a2 q (by simp[hq])) a1 (a2 p (by simp)) hp
theorem args_t {F:List KN}(hS:(0,[83])∈F) (pf:Int->Pin) (sg:Int):∀(xs:List Expr) (k:Nat),(∀v∈varsL xs,KnownQ F (pf v))->PartsT F (argsD false pf sg xs k).parts->JoinsT F (argsD false pf sg xs k).joins∧∀p∈(argsD false pf sg xs k).pins,KnownQ F p
 | [],k=>fun _ _=>⟨.nil F,fun _ h=>nomatch h⟩
 | x::xs,k=>by
  intro hv hp
  rw[varsL]at hv
  rw[argsD]at hp ⊢
  dsimp only at hp ⊢
  obtain⟨a1,a2⟩:=expr_t hS pf sg x k (fun v h=>hv v (by simp[h])) fun q hq=>hp q (by simp[hq])
  obtain⟨b1,b2⟩:=args_t hS pf sg xs (exprD false pf sg x k).num (fun v h=>hv v (by simp[h])) fun q hq=>hp q (by simp[hq])
  refine⟨a1.app b1,fun p h=>?_⟩
  rcases List.mem_cons.1 h with rfl | h
  ·exact a2
  ·exact b2 p h
end
structure FullT (F:List KN) (c:Control):Prop where
 sup:(0,[83])∈F
 act:∀a:Nat,(a:Int)<c.actuators->(1,letterT a)∈F∧(6,letterT a++[48])∈F∧(6,letterT a++[49])∈F∧(2,86::letterT a)∈F
 inp:∀i:Nat,i<c.inputs.length->(7,c.inputs.getD i [])∈F
 mem:∀i:Nat,i<c.signals.length->kindAt c i=1->(2,ownT c i)∈F
 tim:∀i:Nat,i<c.signals.length->kindAt c i=2->(12,ownT c i)∈F
structure InT (F:List KN) (m:Mk):Prop where
 joins:JoinsT F m.joins
 gates:∀q∈m.gates,KnownQ F q.2
theorem get_t {F:List KN}(k:Int):∀ {g:List (Int×Pin)},(∀q∈g,KnownQ F q.2)->KnownQ F ((getG g k).getD noPin)
 | [],_=>.inl rfl
 | q::g,h=>by
  rw[getG]
  split
  ·exact h q (by simp)
  ·exact get_t k fun p hp=>h p (by simp[hp])
theorem put_t {F:List KN}{k:Int}{p:Pin}(hp:KnownQ F p):∀ {g:List (Int×Pin)},(∀q∈g,KnownQ F q.2)->∀q∈putG g k p,KnownQ F q.2
 | [],_=>fun q hq=>by
  rw[putG,List.mem_singleton]at hq
  rw[hq]
  exact hp
 | r::g,h=>fun q hq=>by
  rw[putG]at hq
  split at hq
  ·rcases List.mem_cons.1 hq with rfl | hq
   ·exact hp
   ·exact h q (by simp[hq])
  ·rcases List.mem_cons.1 hq with rfl | hq
   ·exact h q (by simp)
   ·exact put_t hp (fun p hp=>h p (by simp[hp])) q hq
theorem port_t {F:List KN}{c:Control}(hF:FullT F c) (h0:0<=c.actuators) {g:List (Int×Pin)}(hg:∀q∈g,KnownQ F q.2) {l:Int}(hl:0<=l∧l<countC c):KnownQ F (portM c g l):=by
 have hcn:countC c=2*c.actuators+c.inputs.length+c.signals.length:=rfl
 have hfc:firstC c=2*c.actuators+c.inputs.length:=rfl
 unfold portM
 split
 ·rename_i h1
  obtain⟨_,a1,a2,_⟩:=hF.act (l.toNat / 2) (by omega)
  rcases Nat.mod_two_eq_zero_or_one l.toNat with e | e
  ·rw[e,num0]
   exact .inr ⟨6,a1,by simp[outsK,insK,twinD,notD]⟩
  ·rw[e,num1]
   exact .inr ⟨6,a2,by simp[outsK,insK,twinD,notD]⟩
 ·split
  ·exact .inr ⟨7,hF.inp _ (by omega),by simp[outsK,insK,twinD,notD]⟩
  ·rename_i h1 h2
   have e:((l-firstC c).toNat:Int)=l-firstC c:=by omega
   split
   ·rename_i h3
    exact .inr ⟨2,hF.mem _ (by omega) (by rw[e];exact h3),by simp[outsK]⟩
   ·split
    ·rename_i h3
     exact .inr ⟨12,hF.tim _ (by omega) (by rw[e];exact h3),by simp[outsK]⟩
    ·exact get_t l hg
section steps
variable {F:List KN}{c:Control}(hF:FullT F c) (h0:0<=c.actuators)
include hF h0
theorem mexpr_t {m:Mk}(h:InT F m) {x:Expr}(hx:∀v∈varsE x,0<=v∧v<countC c) (hp:PartsT F (m.expr c x).parts):JoinsT F (m.expr c x).joins∧KnownQ F (m.expr c x).pin:=
 expr_t hF.sup (portM c m.gates) m.signal x m.number (fun v hv=>port_t hF h0 h.gates (hx v hv)) hp
theorem to_t {m:Mk}(h:InT F m) {x:Expr}(hx:∀v∈varsE x,0<=v∧v<countC c) {p:Pin}(hk:InP F p) (hp:PartsT F (m.to c x p).parts):InT F (m.to c x p):=by
 obtain⟨a1,a2⟩:=mexpr_t hF h0 h hx fun q hq=>hp q (by simp[Mk.to,Mk.app,Mk.join,hq])
 exact⟨(h.joins.app a1).app (joinT a2 hk),h.gates⟩
theorem gateM_t {m:Mk}(h:InT F m) (i:Nat) (hx:∀x,c.signals[i]?=some x->∀v∈varsE x.on,0<=v∧v<countC c) (hp:PartsT F (gateM c m i).parts):InT F (gateM c m i):=by
 unfold gateM at hp ⊢
 split at hp
 ·rename_i hk
  rw[if_pos hk]
  have hs:InT F (m.sig i):=⟨h.joins,h.gates⟩
  obtain⟨a1,a2⟩:=mexpr_t hF h0 hs (x:=((c.signals[i]?).map (·.on)).getD ⟨0,0,[]⟩) (fun v hv=>by
   cases e:c.signals[i]? with
   | none=>rw[e]at hv;simp[varsE,varsL]at hv
   | some x=>rw[e]at hv;exact hx x e v hv) fun q hq=>hp q (by simp[Mk.app,hq])
  exact⟨h.joins.app a1,put_t a2 h.gates⟩
 ·rename_i hk
  rw[if_neg hk]
  exact⟨h.joins,h.gates⟩
theorem sigM_t {m:Mk}(h:InT F m) (i:Nat) (hx:∀x,c.signals[i]?=some x->(∀v∈varsE x.on,0<=v∧v<countC c)∧∀v∈varsE x.off,0<=v∧v<countC c) (hp:PartsT F (sigM c m i).parts):InT F (sigM c m i):=by
 unfold sigM at hp ⊢
 cases e:c.signals[i]? with
 | none=>exact h
 | some x=>
  rw[e]at hp
  dsimp only at hp ⊢
  obtain⟨x1,x2⟩:=hx x e
  have hi:i<c.signals.length:=(List.getElem?_eq_some_iff.1 e).1
  have hk:kindAt c i=x.kind:=by simp[kindAt,e]
  have hs:∀k d l,InT F ((((m.sig i).add k (ownT c i) d l).feed (ownT c i)))↔JoinsT F (m.joins++joinD supPin ⟨ownT c i,[49]⟩):=fun k d l=>⟨fun h=>h.joins,fun h2=>⟨h2,h.gates⟩⟩
  split
  ·rename_i h1
   rw[if_pos h1]at hp
   have ho:=hF.mem i hi (hk.trans h1)
   refine to_t hF h0 (to_t hF h0 ((hs _ _ _).2 (h.joins.app (joinT (supT hF.sup) ⟨2,ho,by simp[insK]⟩))) x1 ⟨2,ho,by simp[insK]⟩ ?_) x2 ⟨2,ho,by simp[insK]⟩ hp
   exact fun q hq=>hp q (List.mem_append.2 (.inl hq))
  ·rename_i h1
   rw[if_neg h1]at hp
   split
   ·rename_i h2
    rw[if_pos h2]at hp
    have ho:=hF.tim i hi (hk.trans h2)
    exact to_t hF h0 ((hs _ _ _).2 (h.joins.app (joinT (supT hF.sup) ⟨12,ho,by simp[insK]⟩))) x1 ⟨12,ho,by simp[insK]⟩ hp
   ·exact⟨h.joins,h.gates⟩
theorem pilM_t {m:Mk}(h:InT F m) (a:Nat) (ha:(a:Int)<c.actuators) (hp:(0<=c.plus.getD a 0∧c.plus.getD a 0<countC c)∧0<=c.minus.getD a 0∧c.minus.getD a 0<countC c):InT F (pilM c m a):=by
 obtain⟨_,_,_,hv⟩:=hF.act a ha
 exact⟨(h.joins.app (joinT (port_t hF h0 h.gates hp.1) ⟨2,hv,by simp[insK]⟩)).app (joinT (port_t hF h0 h.gates hp.2) ⟨2,hv,by simp[insK]⟩),h.gates⟩
omit h0
theorem actM_t {m:Mk}(h:InT F m) (a:Nat) (ha:(a:Int)<c.actuators):InT F (actM m a):=by
 obtain⟨h1,h2,h3,h4⟩:=hF.act a ha
 have hs:=supT hF.sup
 have i6:∀s,(6,s)∈F->InP F ⟨s,[49]⟩:=fun s hs=>⟨6,hs,by simp[insK]⟩
 exact⟨((((h.joins.app (joinT hs (i6 _ h2))).app (joinT hs (i6 _ h3))).app (joinT hs ⟨2,h4,by simp[insK]⟩)).app (joinT (.inr ⟨2,h4,by simp[outsK]⟩) ⟨1,h1,by simp[insK]⟩)).app (joinT (.inr ⟨2,h4,by simp[outsK]⟩) ⟨1,h1,by simp[insK]⟩),h.gates⟩
theorem inM_t {m:Mk}(h:InT F m) (i:Nat) (hi:i<c.inputs.length):InT F (inM c m i):=
 ⟨h.joins.app (joinT (supT hF.sup) ⟨7,hF.inp i hi,by simp[insK]⟩),h.gates⟩
theorem machine_t (h0:0<=c.actuators):InT F (machineM c):=by
 have h1:∀n:Nat,(n:Int)<=c.actuators->InT F ((List.range n).foldl actM ((⟨[],[],0,-1,[]⟩:Mk).add 0 [83] 0 (-1))):=by
  intro n
  induction n with
  | zero=>exact fun _=>⟨.nil F,fun _ h=>nomatch h⟩
  | succ n ih=>
   intro hn
   rw[List.range_succ,List.foldl_append]
   exact actM_t hF (ih (by omega)) n (by omega)
 have h2:∀n:Nat,n<=c.inputs.length->∀ {m:Mk},InT F m->InT F ((List.range n).foldl (inM c) m):=by
  intro n
  induction n with
  | zero=>exact fun _ _ h=>h
  | succ n ih=>
   intro hn m h
   rw[List.range_succ,List.foldl_append]
   exact inM_t hF (ih (by omega) h) n (by omega)
 exact h2 _ (Nat.le_refl _) (h1 _ (by omega))
end steps
theorem PartsT.left {F:List KN}{a b:List Made}(h:PartsT F (a++b)):PartsT F a:=fun q hq=>h q (by simp[hq])
theorem fold_t {F:List KN}{f:Mk->Nat->Mk}{n:Nat}(hm:∀m i,∃l,(f m i).parts=m.parts++l) (hs:∀m i,i<n->PartsT F (f m i).parts->InT F m->InT F (f m i)) (m:Mk) (h:InT F m):∀k:Nat,k<=n->PartsT F ((List.range k).foldl f m).parts->InT F ((List.range k).foldl f m)
 | 0,_,_=>h
 | k+1,hk,hp=>by
  rw[List.range_succ,List.foldl_append]at hp ⊢
  refine hs _ k (by omega) hp (fold_t hm hs m h k (by omega) ?_)
  obtain⟨l,e⟩:=hm ((List.range k).foldl f m) k
  have hp':PartsT F (f ((List.range k).foldl f m) k).parts:=hp
  rw[e]at hp'
  exact hp'.left
theorem valve_kn (m:Mk) (a:Int):(m.valve a).parts.map knOf=m.parts.map knOf:=by
 unfold Mk.valve
 dsimp only
 cases hp:m.parts[m.parts.length-1]? with
 | none=>
  have h0:m.parts=[]:=by
   cases hl:m.parts with
   | nil=>rfl
   | cons a l=>
    rw[List.getElem?_eq_none_iff,hl]at hp
    simp at hp
    omega
  rw[h0]
  rfl
 | some p=>
  obtain⟨hlt,he⟩:=List.getElem?_eq_some_iff.1 hp
  rw[List.map_set]
  dsimp only
  rw[<- he]
  apply List.ext_getElem?
  intro n
  rw[List.getElem?_set]
  split
  ·rename_i e
   subst e
   simp[hlt,knOf]
  ·rfl
def actKN (n:Nat):List KN:=(List.range n).flatMap fun a=>[(1,letterT a),(6,letterT a++[48]),(6,letterT a++[49]),(2,86::letterT a)]
theorem act_kn (m:Mk) (a:Nat):(actM m a).parts.map knOf=m.parts.map knOf++[(1,letterT a),(6,letterT a++[48]),(6,letterT a++[49]),(2,86::letterT a)]:=by
 unfold actM
 simp only[Mk.feed,Mk.join,valve_kn]
 simp[Mk.add,knOf]
theorem acts_kn (m:Mk):∀n,((List.range n).foldl actM m).parts.map knOf=m.parts.map knOf++actKN n
 | 0=>by simp[actKN]
 | n+1=>by
  rw[List.range_succ,List.foldl_append,List.foldl_cons,List.foldl_nil,act_kn,acts_kn m n,actKN,actKN,List.range_succ,List.flatMap_append]
  simp
theorem ins_kn (c:Control) (m:Mk):∀n,n<=c.inputs.length->((List.range n).foldl (inM c) m).parts.map knOf=m.parts.map knOf++(c.inputs.take n).map fun s=>(7,s)
 | 0,_=>by simp
 | n+1,hn=>by
  rw[List.range_succ,List.foldl_append,List.foldl_cons,List.foldl_nil,List.take_add_one,List.map_append,<- List.append_assoc,<- ins_kn c m n (by omega)]
  simp[inM,Mk.add,Mk.feed,Mk.join,knOf,List.getD_eq_getElem?_getD,List.getElem?_eq_getElem (show n<c.inputs.length by omega)]
theorem machine_kn (c:Control):(machineM c).parts.map knOf=(0,[83])::(actKN c.actuators.toNat++c.inputs.map fun s=>(7,s)):=by
 unfold machineM
 rw[ins_kn c _ _ (Nat.le_refl _),acts_kn,List.take_length]
 simp[Mk.add,knOf]
theorem own_kn (c:Control) (m:Mk) {i:Nat}(hk:kindAt c i=1∨kindAt c i=2) (hi:i<c.signals.length):∀k:Nat,i<k->(if kindAt c i=1 then (2,ownT c i) else (12,ownT c i):KN)∈((List.range k).foldl (sigM c) m).parts.map knOf
 | 0,h=>absurd h (by omega)
 | k+1,h=>by
  rw[List.range_succ,List.foldl_append]
  rcases Nat.lt_or_ge i k with hl | hl
  ·have ih:=own_kn c m hk hi k hl
   obtain⟨l,e⟩:=sigM_mono c ((List.range k).foldl (sigM c) m) k
   show _∈(sigM c _ k).parts.map knOf
   rw[e,List.map_append]
   exact List.mem_append.2 (.inl ih)
  ·obtain rfl:i=k:=by omega
   show _∈(sigM c _ i).parts.map knOf
   generalize (List.range i).foldl (sigM c) m=m'
   have hx:=List.getElem?_eq_getElem hi
   generalize c.signals[i]=x at hx
   have hkx:kindAt c i=x.kind:=by simp[kindAt,hx]
   rw[hkx]at hk ⊢
   unfold sigM
   rw[hx]
   dsimp only
   rcases hk with hk | hk
   ·rw[if_pos hk,if_pos hk]
    simp[Mk.to,Mk.app,Mk.join,Mk.feed,Mk.add,Mk.sig,knOf]
   ·have h1:¬x.kind=1:=by omega
    rw[if_neg h1,if_neg h1,if_pos hk]
    simp[Mk.to,Mk.app,Mk.join,Mk.feed,Mk.add,Mk.sig,knOf]
theorem whole_fullT {c:Control}(h0:0<=c.actuators):FullT ((wholeM c).parts.map knOf) c:=by
 obtain⟨l1,e1⟩:=fold_mono (gateM_mono c) (machineM c) c.signals.length
 obtain⟨l2,e2⟩:=fold_mono (sigM_mono c) ((List.range c.signals.length).foldl (gateM c) (machineM c)) c.signals.length
 obtain⟨l3,e3⟩:=fold_mono (pilM_mono c) ((List.range c.signals.length).foldl (sigM c) ((List.range c.signals.length).foldl (gateM c) (machineM c))) c.actuators.toNat
 have hm:∀s,s∈(machineM c).parts.map knOf->s∈(wholeM c).parts.map knOf:=fun s hs=>by
  unfold wholeM
  rw[e3,e2,e1]
  simp only[List.map_append,List.mem_append]
  exact .inl (.inl (.inl hs))
 have hn:=machine_kn c
 have ho:∀i:Nat,i<c.signals.length->kindAt c i=1∨kindAt c i=2->(if kindAt c i=1 then (2,ownT c i) else (12,ownT c i):KN)∈(wholeM c).parts.map knOf:=fun i hi hk=>by
  have:=own_kn c ((List.range c.signals.length).foldl (gateM c) (machineM c)) hk hi c.signals.length hi
  unfold wholeM
  rw[e3,List.map_append]
  exact List.mem_append.2 (.inl this)
 refine⟨hm _ (by rw[hn];simp),fun a ha=>?_,fun i hi=>hm _ ?_,fun i hi hk=>?_,fun i hi hk=>?_⟩
 ·have hmem:∀s,s∈([(1,letterT a),(6,letterT a++[48]),(6,letterT a++[49]),(2,86::letterT a)]:List KN)->s∈(wholeM c).parts.map knOf:=fun s hs=>hm s (by
   rw[hn]
   refine List.mem_cons_of_mem _ (List.mem_append.2 (.inl ?_))
   unfold actKN
   exact List.mem_flatMap.2 ⟨a,List.mem_range.2 (by omega),hs⟩)
  exact⟨hmem _ (by simp),hmem _ (by simp),hmem _ (by simp),hmem _ (by simp)⟩
 ·rw[hn]
  refine List.mem_cons_of_mem _ (List.mem_append.2 (.inr ?_))
  rw[List.getD_eq_getElem?_getD,List.getElem?_eq_getElem hi]
  exact List.mem_map.2 ⟨_,List.getElem_mem hi,rfl⟩
 ·have:=ho i hi (.inl hk)
  rwa [if_pos hk]at this
 ·have:=ho i hi (.inr hk)
  rwa [if_neg (by omega)]at this
theorem whole_t {c:Control}(hc:InC c):JoinsT ((wholeM c).parts.map knOf) (wholeM c).joins∧∀l:Int,0<=l∧l<countC c->KnownQ ((wholeM c).parts.map knOf) (portM c (wholeM c).gates l):=by
 have hF:=whole_fullT hc.act
 have hp:PartsT ((wholeM c).parts.map knOf) (wholeM c).parts:=fun q hq=>List.mem_map.2 ⟨q,hq,rfl⟩
 have h1:=machine_t hF hc.act
 have key:InT ((wholeM c).parts.map knOf) (wholeM c):=by
  generalize (wholeM c).parts.map knOf=F at *
  unfold wholeM at hp ⊢
  obtain⟨l2,e2⟩:=fold_mono (sigM_mono c) ((List.range c.signals.length).foldl (gateM c) (machineM c)) c.signals.length
  obtain⟨l3,e3⟩:=fold_mono (pilM_mono c) ((List.range c.signals.length).foldl (sigM c) ((List.range c.signals.length).foldl (gateM c) (machineM c))) c.actuators.toNat
  have hp3:=hp
  rw[e3]at hp3
  have hp2:=hp3.left
  have hp1:=hp2
  rw[e2]at hp1
  have h2:=fold_t (gateM_mono c) (n:=c.signals.length) (fun m i _ hp h=>gateM_t hF hc.act h i (fun x hx=>(hc.sig i x hx).2.1) hp) _ h1 _ (Nat.le_refl _) hp1.left
  have h3:=fold_t (sigM_mono c) (n:=c.signals.length) (fun m i _ hp h=>sigM_t hF hc.act h i (fun x hx=>(hc.sig i x hx).2) hp) _ h2 _ (Nat.le_refl _) hp2
  exact fold_t (pilM_mono c) (n:=c.actuators.toNat) (fun m a ha _ h=>pilM_t hF hc.act h a (by omega) (hc.pil a (by omega))) _ h3 _ (Nat.le_refl _) hp
 exact⟨key.joins,fun l hl=>port_t hF hc.act key.gates hl⟩
end
def Fed (J:List (Pin×Pin)) (q t:Pin):Prop:=(q≠noPin->(q,t)∈J)∧(q=noPin->∀z∈J,z.2≠t)
inductive Tel (J:List (Pin×Pin)) (Ps:List Made) (on:Made->Bool):Pin->Bool->Prop
 | no:Tel J Ps on noPin false
 | sup:Tel J Ps on supPin true
 | plain (p:Made) (hp:p∈Ps) (hk:p.kind=6∨p.kind=7∨p.kind=12) (hj:(supPin,(⟨p.name,[49]⟩:Pin))∈J):Tel J Ps on ⟨p.name,[50]⟩ (on p)
 | mem (p:Made) (hp:p∈Ps) (hk:p.kind=2) (hv:p.valve = -1) (hj:(supPin,(⟨p.name,[49]⟩:Pin))∈J):Tel J Ps on ⟨p.name,[52]⟩ (on p)
 | neg (p:Made) (hp:p∈Ps) (hk:p.kind=5) (hj:(supPin,(⟨p.name,[49]⟩:Pin))∈J):Tel J Ps on ⟨p.name,[50]⟩ (!on p)
 | two (p:Made) (hp:p∈Ps) (hk:p.kind=8∨p.kind=9) (q r:Pin) (a b:Bool) (hq:Tel J Ps on q a) (hr:Tel J Ps on r b) (j1:Fed J q ⟨p.name,[49]⟩) (j2:Fed J r ⟨p.name,[49,49]⟩):Tel J Ps on ⟨p.name,[50]⟩ (if p.kind=9 then a&&b else a||b)
structure InW (J:List (Pin×Pin)) (Ps:List Made) (ps:List Made) (js:List (Pin×Pin)):Prop where
 parts:∀p∈ps,p∈Ps
 joins:∀z∈js,z∈J
 only:∀z∈J,z.2.part∈nms ps->z∈js
theorem joinD_mem {a b:Pin}(h:a≠noPin) (hb:b≠noPin):(a,b)∈joinD a b:=by
 unfold joinD
 rw[if_neg (by simp[h,hb])]
 simp
theorem joinD_take {a b:Pin}{z:Pin×Pin}(h:z∈joinD a b):z.2=b∧a≠noPin:=by
 unfold joinD at h
 split at h
 ·cases h
 ·rename_i hn
  rw[not_or]at hn
  rw[List.mem_singleton.1 h]
  exact⟨rfl,hn.1⟩
theorem pin_ne {s t:List UInt8}(h:t≠[]):(⟨s,t⟩:Pin)≠noPin:=fun e=>by
 simp only[Pin.mk.injEq]at e
 exact h e.2
theorem twin_later {sg kind:Int}{letter:UInt8}:∀(ps:List Pin) (d:Dl),∃l js,(ps.foldl (twinD sg kind letter) d).parts=d.parts++l∧(ps.foldl (twinD sg kind letter) d).joins=d.joins++js∧∀z∈js,z.2.part∈nms l
 | [],d=>⟨[],[],by simp,by simp,by simp⟩
 | p::ps,d=>by
  obtain⟨l,js,h1,h2,h3⟩:=twin_later ps (twinD sg kind letter d p)
  rw[List.foldl_cons,h1,h2]
  refine⟨⟨kind,letter::numT d.num,0,sg,none,-1,-1⟩::l,joinD d.pin ⟨letter::numT d.num,[49]⟩++joinD p ⟨letter::numT d.num,[49,49]⟩++js,by simp[twinD],by simp[twinD],fun z hz=>?_⟩
  rcases List.mem_append.1 hz with hz | hz
  ·rcases List.mem_append.1 hz with hz | hz
   ·rw[(joinD_take hz).1];simp[nms]
   ·rw[(joinD_take hz).1];simp[nms]
  ·have:=h3 z hz
   simp only[nms,List.map_cons,List.mem_cons]
   exact .inr this
theorem twin_fed {J:List (Pin×Pin)}{Ps:List Made}{sg kind:Int}{letter:UInt8}{d:Dl}{p:Pin}{l:List Made}{js:List (Pin×Pin)}(hl:∀z∈js,z.2.part∈nms l)
  (hW:InW J Ps ((twinD sg kind letter d p).parts++l) ((twinD sg kind letter d p).joins++js)) (hc:ConsOK (nms d.parts) d.joins) (hnd:(nms ((twinD sg kind letter d p).parts++l)).Nodup) :
  Fed J d.pin ⟨letter::numT d.num,[49]⟩∧Fed J p ⟨letter::numT d.num,[49,49]⟩:=by
 have e1:nms ((twinD sg kind letter d p).parts++l)=nms d.parts++(letter::numT d.num)::nms l:=by simp[twinD,nms]
 rw[e1]at hnd
 obtain⟨_,n2,n3⟩:=List.nodup_append.1 hnd
 have hn1:letter::numT d.num∉nms d.parts:=fun h=>n3 _ h _ (by simp) rfl
 have hn2:letter::numT d.num∉nms l:=(List.nodup_cons.1 n2).1
 have hin:∀z∈J,z.2.part=letter::numT d.num->z∈joinD d.pin ⟨letter::numT d.num,[49]⟩∨z∈joinD p ⟨letter::numT d.num,[49,49]⟩:=fun z hz he=>by
  have:=hW.only z hz (by rw[e1,he];simp)
  simp only[twinD,List.mem_append]at this
  rcases this with ((h | h) | h) | h
  ·exact absurd (hc.mem z.2 (List.mem_map.2 ⟨z,h,rfl⟩)) (by rw[he];exact hn1)
  ·exact .inl h
  ·exact .inr h
  ·exact absurd (hl z h) (by rw[he];exact hn2)
 refine⟨⟨fun h=>?_,fun h z hz e=>?_⟩,⟨fun h=>?_,fun h z hz e=>?_⟩⟩
 ·exact hW.joins _ (by simp only[twinD,List.mem_append];exact .inl (.inl (.inr (joinD_mem h (pin_ne (by simp))))))
 ·rcases hin z hz (by rw[e]) with h2 | h2
  ·exact (joinD_take h2).2 h
  ·rw[(joinD_take h2).1]at e
   simp at e
 ·exact hW.joins _ (by simp only[twinD,List.mem_append];exact .inl (.inr (joinD_mem h (pin_ne (by simp)))))
 ·rcases hin z hz (by rw[e]) with h2 | h2
  ·rw[(joinD_take h2).1]at e
   simp at e
  ·exact (joinD_take h2).2 h
theorem twin_tel {J:List (Pin×Pin)}{Ps:List Made}{on:Made->Bool}{sg kind:Int}(hk:kind=8∨kind=9) {letter:UInt8}:∀(l:List (Pin×Bool)) (d:Dl) (a:Bool),(∀z∈l,Tel J Ps on z.1 z.2)->Tel J Ps on d.pin a ->
  InW J Ps ((l.map (·.1)).foldl (twinD sg kind letter) d).parts ((l.map (·.1)).foldl (twinD sg kind letter) d).joins->ConsOK (nms d.parts) d.joins->(nms ((l.map (·.1)).foldl (twinD sg kind letter) d).parts).Nodup ->
  Tel J Ps on ((l.map (·.1)).foldl (twinD sg kind letter) d).pin (l.foldl (fun a z=>if kind=9 then a&&z.2 else a||z.2) a)
 | [],d,a,_,h,_,_,_=>h
 | (p,b)::l,d,a,hl,h,hW,hc,hn=>by
  rw[List.map_cons,List.foldl_cons]at hW hn ⊢
  rw[List.foldl_cons]
  obtain⟨l2,js,e1,e2,e3⟩:=twin_later (sg:=sg) (kind:=kind) (letter:=letter) (l.map (·.1)) (twinD sg kind letter d p)
  have hW2:=hW
  have hn2:=hn
  rw[e1,e2]at hW2
  rw[e1]at hn2
  obtain⟨f1,f2⟩:=twin_fed e3 hW2 hc hn2
  have hx:(⟨kind,letter::numT d.num,0,sg,none,-1,-1⟩:Made)∈Ps:=hW2.parts _ (by simp[twinD])
  have ht:=Tel.two (J:=J) (Ps:=Ps) (on:=on) _ hx hk d.pin p a b h (hl (p,b) (by simp)) f1 f2
  have hnd:(nms (twinD sg kind letter d p).parts).Nodup:=by
   rw[nms,List.map_append]at hn2
   exact (List.nodup_append.1 hn2).1
  exact twin_tel hk l (twinD sg kind letter d p) _ (fun z hz=>hl z (by simp[hz])) ht hW (twin_c (sg:=sg) (kind:=kind) (letter:=letter) [p] hc hnd) hn
theorem InW.left {J:List (Pin×Pin)}{Ps a b:List Made}{ja jb:List (Pin×Pin)}(h:InW J Ps (a++b) (ja++jb)) (hb:∀z∈jb,z.2.part∈nms b) (hn:(nms (a++b)).Nodup):InW J Ps a ja:=by
 rw[nms,List.map_append]at hn
 refine⟨fun p hp=>h.parts p (by simp[hp]),fun z hz=>h.joins z (by simp[hz]),fun z hz hp=>?_⟩
 rcases List.mem_append.1 (h.only z hz (by rw[nms,List.map_append];exact List.mem_append_left _ hp)) with h1 | h1
 ·exact h1
 ·exact absurd rfl ((List.nodup_append.1 hn).2.2 _ hp _ (hb z h1))
theorem InW.right {J:List (Pin×Pin)}{Ps a b:List Made}{ja jb:List (Pin×Pin)}(h:InW J Ps (a++b) (ja++jb)) (ha:∀z∈ja,z.2.part∈nms a) (hn:(nms (a++b)).Nodup):InW J Ps b jb:=by
 rw[nms,List.map_append]at hn
 refine⟨fun p hp=>h.parts p (by simp[hp]),fun z hz=>h.joins z (by simp[hz]),fun z hz hp=>?_⟩
 rcases List.mem_append.1 (h.only z hz (by rw[nms,List.map_append];exact List.mem_append_right _ hp)) with h1 | h1
 ·exact absurd rfl ((List.nodup_append.1 hn).2.2 _ (ha z h1) _ hp)
 ·exact h1
theorem ConsOK.take {ns:List (List UInt8)}{js:List (Pin×Pin)}(h:ConsOK ns js):∀z∈js,z.2.part∈ns:=fun z hz=>h.mem z.2 (List.mem_map.2 ⟨z,hz,rfl⟩)
theorem fold_and:∀(l:List (Pin×Bool)) (a:Bool),l.foldl (fun a z=>a&&z.2) a=(a&&l.all (·.2))
 | [],a=>by simp
 | z::l,a=>by rw[List.foldl_cons,fold_and l];simp[Bool.and_assoc]
theorem fold_or:∀(l:List (Pin×Bool)) (a:Bool),l.foldl (fun a z=>if (8:Int)=9 then a&&z.2 else a||z.2) a=(a||l.any (·.2))
 | [],a=>by simp
 | z::l,a=>by rw[List.foldl_cons,fold_or l];simp[Bool.or_assoc]
theorem zip_snd {α β:Type}{a:List α}{b:List β}(h:a.length=b.length):(a.zip b).map (·.1)=a∧(a.zip b).map (·.2)=b:=
 ⟨List.map_fst_zip (Nat.le_of_eq h),List.map_snd_zip (Nat.le_of_eq h.symm)⟩
theorem not_all_false:∀l:List Bool,(!l.all fun x=>x==false)=l.any id
 | []=>rfl
 | a::l=>by
  rw[List.all_cons,List.any_cons,Bool.not_and,not_all_false l]
  cases a<;>rfl
theorem all_true:∀l:List Bool,(l.all fun x=>x==true)=l.all id
 | []=>rfl
 | a::l=>by
  rw[List.all_cons,List.all_cons,all_true l]
  cases a<;>rfl
theorem evalL_len (vs:List Bool):∀xs:List Expr,(evalL xs vs).length=xs.length
 | []=>rfl
 | x::xs=>by simp[evalL,evalL_len vs xs]
mutual
theorem expr_tel {J:List (Pin×Pin)}{Ps:List Made}{on:Made->Bool}{vs:List Bool}{n:Int}(hon:∀p∈Ps,∀y,p.arg=some y->on p=evalE y vs) (pf:Int->Pin) (sg:Int):∀(x:Expr) (k:Nat),RightE n x->(∀v∈varsE x,Tel J Ps on (pf v) (vs.getD v.toNat false)) ->
  InW J Ps (exprD false pf sg x k).parts (exprD false pf sg x k).joins->(nms (exprD false pf sg x k).parts).Nodup->Tel J Ps on (exprD false pf sg x k).pin (evalE x vs)
 | ⟨op,ix,args⟩,k,hr,hv,hW,hn=>by
  have h:=args_tel (J:=J) hon pf sg args k hr.args
  have hca:=args_c pf sg args k
  have hlen:=argsD_len false pf sg args k
  have hnode:=hr.node
  unfold nodeR at hnode
  rw[varsE]at hv
  rw[evalE_eq]
  rw[exprD_eq]at hW hn ⊢
  dsimp only at hW hn hnode ⊢
  have hva:∀v∈varsL args,Tel J Ps on (pf v) (vs.getD v.toNat false):=fun v hm=>hv v (List.mem_append.2 (.inr hm))
  split at hnode
  ·cases hnode
  ·rename_i hop
   by_cases h0:op=0
   ·rw[if_pos h0,if_pos h0]
    dsimp only
    by_cases h1:ix=1
    ·rw[if_pos h1,h1]
     exact .sup
    ·rw[if_neg h1,show (ix==1)=false by simpa using h1]
     exact .no
   ·rw[if_neg h0,if_neg h0]
    rw[if_neg h0]at hW hn
    by_cases h1:op=1
    ·rw[if_pos h1,if_pos h1]
     exact hv ix (by rw[if_pos h1];simp)
    ·rw[if_neg h1,if_neg h1]
     rw[if_neg h1]at hW hn
     have h2:=h hva
     by_cases h2':op=2
     ·rw[if_pos h2',if_pos h2']
      rw[if_pos h2']at hW hn
      have hl1:args.length=1:=by
       simp only[h2',show ¬(2:Int)<=1 by decide,if_true,if_false]at hnode
       split at hnode
       ·cases hnode
       ·rename_i hk;omega
      obtain⟨y,rfl⟩:∃y,args=[y]:=by
       rcases args with _ | ⟨y,_ | ⟨z,l⟩⟩<;>simp only[List.length_nil,List.length_cons]at hl1<;>try omega
       exact⟨y,rfl⟩
      generalize argsD false pf sg [y] k=r at *
      obtain⟨r1,r2,r3,r4⟩:=r
      simp only[List.head?_cons,notsD,notD]at hW hn ⊢
      have hx:(⟨5,78::numT r3,0,sg,some y,-1,-1⟩:Made)∈Ps:=hW.parts _ (by simp)
      have hj:(supPin,(⟨78::numT r3,[49]⟩:Pin))∈J:=hW.joins _ (by
       refine List.mem_append_left _ (List.mem_append_right _ ?_)
       unfold airD
       rw[if_neg (by decide)]
       exact joinD_mem (by decide) (pin_ne (by simp)))
      have:=Tel.neg (J:=J) (Ps:=Ps) (on:=on) _ hx rfl hj
      rw[hon _ hx y rfl]at this
      have e:(evalL [y] vs).all (·==false) = !evalE y vs:=by
       simp only[evalL,List.all_cons,List.all_nil,Bool.and_true]
       cases evalE y vs<;>rfl
      rw[e]
      exact this
     ·rw[if_neg h2',if_neg h2']
      rw[if_neg h2']at hW hn
      have hl2:2<=args.length:=by
       simp only[h2',show ¬op<=1 by omega,if_false]at hnode
       split at hnode
       ·cases hnode
       ·rename_i hk;omega
      have hel:=evalL_len vs args
      generalize hbs:evalL args vs=bs at *
      generalize argsD false pf sg args k=r at *
      obtain⟨r1,r2,r3,r4⟩:=r
      dsimp only at hca h2 hlen
      rcases r4 with _ | ⟨p,ps⟩
      ·simp only[List.length_nil]at hlen;omega
      ·rcases bs with _ | ⟨b,bs⟩
       ·simp only[List.length_nil]at hel;omega
       ·have hzl:ps.length=bs.length:=by simp only[List.length_cons]at hlen hel;omega
        obtain⟨z1,z2⟩:=zip_snd hzl
        simp only[foldD]at hW hn ⊢
        rw[<- z1]at hW hn ⊢
        obtain⟨l,js,e1,e2,e3⟩:=twin_later (sg:=sg) (kind:=if op=3 then 9 else 8) (letter:=if op=3 then 80 else 81) ((ps.zip bs).map (·.1)) ⟨r1,r2,r3,p⟩
        have hW1:=hW
        have hn1:=hn
        rw[e1,e2]at hW1
        rw[e1]at hn1
        have hWa:=hW1.left e3 hn1
        have hna:(nms r1).Nodup:=by
         rw[nms,List.map_append]at hn1
         exact (List.nodup_append.1 hn1).1
        have h3:=h2 hWa hna
        simp only[List.zip_cons_cons,List.mem_cons]at h3
        have ht:=twin_tel (J:=J) (Ps:=Ps) (on:=on) (sg:=sg) (kind:=if op=3 then 9 else 8) (by split<;>simp) (letter:=if op=3 then 80 else 81) (ps.zip bs) ⟨r1,r2,r3,p⟩ b (fun z hz=>h3 z (.inr hz)) (h3 (p,b) (.inl rfl)) hW (hca hna) hn
        by_cases h3':op=3
        ·simp only[h3',if_true]at ht ⊢
         rw[fold_and]at ht
         have e:((b::bs).all (·==true))=(b&&(ps.zip bs).all (·.2)):=by
          have e2:((ps.zip bs).all fun z=>z.2)=bs.all id:=by
           conv=>rhs;rw[<- z2]
           rw[List.all_map]
           rfl
          rw[e2,List.all_cons,all_true]
          cases b<;>rfl
         rw[e]
         exact ht
        ·simp only[h3',if_false]at ht ⊢
         rw[fold_or]at ht
         have e:(!(b::bs).all (·==false))=(b||(ps.zip bs).any (·.2)):=by
          have e2:((ps.zip bs).any fun z=>z.2)=bs.any id:=by
           conv=>rhs;rw[<- z2]
           rw[List.any_map]
           rfl
          rw[e2,List.all_cons,Bool.not_and,not_all_false]
          cases b<;>rfl
         rw[e]
         exact ht
theorem args_tel {J:List (Pin×Pin)}{Ps:List Made}{on:Made->Bool}{vs:List Bool}{n:Int}(hon:∀p∈Ps,∀y,p.arg=some y->on p=evalE y vs) (pf:Int->Pin) (sg:Int):∀(xs:List Expr) (k:Nat),(∀x∈xs,RightE n x)->(∀v∈varsL xs,Tel J Ps on (pf v) (vs.getD v.toNat false)) ->
  InW J Ps (argsD false pf sg xs k).parts (argsD false pf sg xs k).joins->(nms (argsD false pf sg xs k).parts).Nodup->∀z∈(argsD false pf sg xs k).pins.zip (evalL xs vs),Tel J Ps on z.1 z.2
 | [],k,_,_,_,_=>by simp[argsD]
 | x::xs,k,hr,hv,hW,hn=>by
  rw[varsL]at hv
  rw[argsD]at hW hn ⊢
  rw[evalL]
  dsimp only at hW hn ⊢
  have hnn:=hn
  rw[nms,List.map_append]at hnn
  obtain⟨n1,n2,_⟩:=List.nodup_append.1 hnn
  have t1:=(expr_c pf sg x k n1).take
  have t2:=(args_c pf sg xs (exprD false pf sg x k).num n2).take
  have a:=expr_tel hon pf sg x k (hr x (by simp)) (fun v h=>hv v (by simp[h])) (hW.left t2 hn) n1
  have b:=args_tel hon pf sg xs (exprD false pf sg x k).num (fun y hy=>hr y (by simp[hy])) (fun v h=>hv v (by simp[h])) (hW.right t1 hn) n2
  intro z hz
  rw[List.zip_cons_cons]at hz
  rcases List.mem_cons.1 hz with rfl | hz
  ·exact a
  ·exact b z hz
end
section
open Go.Sort
variable {P:Program}
theorem Ds_one {x:X}{t:Nat}{h:Value}{args:Array Value}(hd:Ds x [.own t h] args.toList):args=#[h]:=by
 rcases args with⟨l⟩
 rcases l with _ | ⟨a,_ | ⟨b,l⟩⟩<;>simp[Ds,D]at hd
 rw[hd.1]
theorem unit_D (y:X):D y (.tuple []) (.tuple #[]):=by simp[D,Ds]
end
def itRen:Go.Shelf.Ren:=⟨fun | 129=>224 | 171=>133 | 243=>193 | 246=>272 | 283=>341 | 284=>342 | 285=>343 | 286=>344 | 317=>381 | 318=>382 | 319=>383 | 320=>384 | 337=>402 | 338=>403 | n=>n,fun | 0=>0 | 2=>2 | 3=>3 | 4=>4 | 5=>5 | 9=>9 | 20=>20 | 37=>399 | 46=>220 | 51=>295 | 53=>297 | 171=>397 | 173=>400 | 212=>432 | 213=>433 | 232=>455 | 233=>456 | n=>n,fun | 17=>2 | 18=>3 | 19=>4 | n=>n⟩
theorem itLays0:Go.Proofs.Lays.n171 Tryz.prog itRen:={ 
 mixed:=by kernel_rfl,
 f129:=by kernel_rfl,
 f171:=by kernel_rfl,
 f243:=by kernel_rfl,
 f246:=by kernel_rfl,
 f283:=by kernel_rfl,
 f284:=by kernel_rfl,
 f285:=by kernel_rfl,
 f286:=by kernel_rfl,
 f317:=by kernel_rfl,
 f318:=by kernel_rfl,
 f319:=by kernel_rfl,
 f320:=by kernel_rfl,
 f337:=by kernel_rfl,
 f338:=by kernel_rfl,
 t0:=Tryz.underlying0,
 a0:=Tryz.isAgg0,
 z0:=Tryz.sizeOf0,
 v0:=Tryz.zeroValue0,
 t2:=Tryz.underlying2,
 a2:=Tryz.isAgg2,
 z2:=Tryz.sizeOf2,
 v2:=Tryz.zeroValue2,
 t3:=Tryz.underlying3,
 a3:=Tryz.isAgg3,
 z3:=Tryz.sizeOf3,
 v3:=Tryz.zeroValue3,
 t4:=Tryz.underlying4,
 a4:=Tryz.isAgg4,
 z4:=Tryz.sizeOf4,
 v4:=Tryz.zeroValue4,
 t5:=Tryz.underlying5,
 a5:=Tryz.isAgg5,
 z5:=Tryz.sizeOf5,
 v5:=Tryz.zeroValue5,
 t9:=Tryz.underlying9,
 a9:=Tryz.isAgg9,
 z9:=Tryz.sizeOf9,
 v9:=Tryz.zeroValue9,
 t20:=Tryz.underlying20,
 a20:=Tryz.isAgg20,
 z20:=Tryz.sizeOf20,
 v20:=Tryz.zeroValue20,
 t37:=Tryz.underlying399,
 a37:=Tryz.isAgg399,
 z37:=Tryz.sizeOf399,
 v37:=Tryz.zeroValue399,
 t46:=Tryz.underlying220,
 a46:=Tryz.isAgg220,
 z46:=Tryz.sizeOf220,
 v46:=Tryz.zeroValue220,
 t51:=Tryz.underlying295,
 a51:=Tryz.isAgg295,
 z51:=Tryz.sizeOf295,
 v51:=Tryz.zeroValue295,
 t53:=Tryz.underlying297,
 a53:=Tryz.isAgg297,
 z53:=Tryz.sizeOf297,
 v53:=Tryz.zeroValue297,
 t171:=Tryz.underlying397,
 a171:=Tryz.isAgg397,
 z171:=Tryz.sizeOf397,
 v171:=Tryz.zeroValue397,
 t173:=Tryz.underlying400,
 a173:=Tryz.isAgg400,
 z173:=Tryz.sizeOf400,
 v173:=Tryz.zeroValue400,
 t212:=Tryz.underlying432,
 a212:=Tryz.isAgg432,
 z212:=Tryz.sizeOf432,
 v212:=Tryz.zeroValue432,
 t213:=Tryz.underlying433,
 a213:=Tryz.isAgg433,
 z213:=Tryz.sizeOf433,
 t232:=Tryz.underlying455,
 a232:=Tryz.isAgg455,
 z232:=Tryz.sizeOf455,
 v232:=Tryz.zeroValue455,
 t233:=Tryz.underlying456,
 a233:=Tryz.isAgg456,
 z233:=Tryz.sizeOf456,
 v233:=Tryz.zeroValue456,
 g17:=by kernel_rfl,
 g18:=by kernel_rfl,
 g19:=by kernel_rfl }
theorem itLays:Go.Proofs.LaysM.n171 Tryz.prog itRen:={ itLays0 with 
 i0:=by kernel_rfl,
 i2:=by kernel_rfl,
 i3:=by kernel_rfl,
 i4:=by kernel_rfl,
 i5:=by kernel_rfl,
 i9:=by kernel_rfl,
 i20:=by kernel_rfl,
 i37:=by kernel_rfl,
 i46:=by kernel_rfl,
 i51:=by kernel_rfl,
 i53:=by kernel_rfl,
 i171:=by kernel_rfl,
 i173:=by kernel_rfl,
 i212:=by kernel_rfl,
 i232:=by kernel_rfl,
 i233:=by kernel_rfl,
 m17:=by kernel_rfl,
 m18:=by kernel_rfl,
 m19:=by kernel_rfl }
def scRen:Go.Shelf.Ren:=⟨fun | 106=>111 | 213=>175 | 265=>254 | n=>n,fun | 3=>3 | 9=>9 | n=>n,fun n=>n⟩
theorem scLays:Go.Proofs.Lays.n106 Tryz.prog scRen:={ 
 mixed:=by kernel_rfl,
 f106:=by kernel_rfl,
 f213:=by kernel_rfl,
 f265:=by kernel_rfl,
 t3:=Tryz.underlying3,
 a3:=Tryz.isAgg3,
 z3:=Tryz.sizeOf3,
 v3:=Tryz.zeroValue3,
 t9:=Tryz.underlying9,
 a9:=Tryz.isAgg9,
 z9:=Tryz.sizeOf9,
 v9:=Tryz.zeroValue9 }
section
variable {P:Program}
theorem rdLs_Ds' {x:X}:∀ {ls:List L}{vs:List Value},RdLs x ls vs->Ds x (ls.map A.dat) vs
 | [],[],_=>by simp[Ds]
 | l::ls,v::vs,h=>by
  simp only[RdLs]at h
  simp only[List.map_cons,Ds,D]
  exact⟨h.1,rdLs_Ds' h.2⟩
 | [],_::_,h=>by simp[RdLs]at h
 | _::_,[],h=>by simp[RdLs]at h
def frzC (H:Heap):A->Option L
 | .dat l=>some l
 | .nils=>some (.sl [])
 | .own t h=>match hget t H with
  | some (.seq h' _ _ rows)=>if allD rows=true then some (.sl (rowsD rows)) else none
  | _=>none
 | _=>none
def hdrOk (H:Heap):A->Prop
 | .own t h=>match hget t H with
  | some (.seq h' _ _ _)=>h'=h
  | _=>True
 | _=>True
def frzCs (H:Heap):List A->Option (List L)
 | []=>some []
 | a::r=>match frzC H a,frzCs H r with
  | some l,some ls=>some (l::ls)
  | _,_=>none
theorem V.frz1 {C:Cfg}{c:Code}{E:Env}{H:Heap}{Q:PostQ}(t:Nat) {τ:Nat}{h:Value}{e sz:Nat}{rows:List (List A)}(hE:E t=.own τ h) (hH:hget τ H=some (.seq h e sz rows)) (hd:allD rows=true)
  (hv:V C c (upd E t (.dat (.sl (rowsD rows)))) (hdel τ H) Q):V C c E H Q:=by
 intro hf x act H0 ms hi he
 have hp:=hdel_perm hH
 have hi1:Inv x ([(τ,.seq h e sz rows)]++(hdel τ H++(marks ms++H0))):=by
  have:=hi.perm (hp.symm.append_right (marks ms++H0))
  simpa using this
 obtain⟨y,hw,hle,hi2,hok,_⟩:=hi1.freeze
 have he2:EnvOK C.n (ms.map mk) y act (upd E t (.dat (.sl (rowsD rows)))):=by
  have hm:=he.mono hle
  refine⟨hm.defers,hm.size,fun s=>?_⟩
  simp only[upd]
  split
  ·rename_i hs
   subst hs
   have hv:=hm.slot s
   rw[hE]at hv
   simp only[D]at hv ⊢
   rw[hv.1]
   exact seq_data (Ent.sat_step hle (fun b _=>by rw[hw]) (hi1.sat (τ,.seq h e sz rows) (by simp))) (fun b hb=>hok b ⟨_,List.mem_singleton.2 rfl,hb⟩) hd
  ·exact hm.slot s
 have:=hv hf y act H0 ms hi2 he2
 rw[hw]at this
 exact wpIn_mono this fun _ _ _=>Post.le hle fun _ _ _ h=>h
theorem CallS.agg {g:FuncId}{ls:List L}{az bz:List A}{H:Heap}{K:A->Heap->Prop}(h:CallS P g (az++.agg (ls.map A.dat)::bz) H K):CallS P g (az++.record ls::bz) H K:=by
 refine⟨h.1,fun x args H0 hi hd=>h.2 x args H0 hi ?_⟩
 have e:=List.take_append_drop az.length args.toList
 have ht:=hd.take az.length
 have hdr:=hd.drop az.length
 simp only[List.take_left,List.drop_left]at ht hdr
 rw[<- e]
 refine ht.append ?_
 generalize args.toList.drop az.length=l at hdr
 cases l with
 | nil=>simp[Ds]at hdr
 | cons v l=>
  simp only[Ds,D]at hdr ⊢
  obtain⟨⟨vs,rfl,hr⟩,h2⟩:=hdr
  refine⟨⟨vs,rfl,?_⟩,h2⟩
  exact rdLs_Ds' hr
attribute [simp] frzC frzCs hdrOk
end
section
variable {P:Program}
def bslO (P:Program) (t:TypeId) (len:Nat) (ps:List (Nat×A)):Option (Prop×TypeId×List (List L)):=
 match slT P t with
 | some e=>if len=ps.length∧0<len then (match rowsA (szT P e) 0 ps with
   | some rows=>some (tk P e≠0∧0<szT P e∧len*szT P e<=16777216∧((P.info? e).bind (·.zero)).isSome=true,e,rows)
   | none=>none) else none
 | none=>none
def tightV (u:Value):Prop:=∃a n,u=.slice a n n
def vcOpsT (P:Program) (T:List Nat):List Oper->Env->Heap->(Env->Heap->Prop)->Prop
 | [],E,H,K=>K E H
 | o::rest,E,H,K=>o.guard=none∧match o.op,T.contains (o.dst.getD 0) with
  | .buildSlice t n ps,true=>match bslO P t n (evs E ps.toList) with
   | some (p,e,rows)=>(evp E ps.toList∧p)∧∀u,tightV u->vcOpsT P T rest (put E o.dst (.own (o.dst.getD 0) u)) ((o.dst.getD 0,.seq u e (szT P e) (rows.map (·.map A.dat)))::H) K
   | none=>False
  | op,_=>vcOp P op o.dst E H fun E' H'=>vcOpsT P T rest E' H' K
def vcCT (C:Cfg) (T:List Nat):Code->Env->Heap->PostQ->Prop
 | .seq a b,E,H,Q=>vcCT C T a E H fun e E' H'=>match e with
  | .normal=>vcCT C T b E' H' Q
  | .exit i=>Q (.exit i) E' H'
  | .ret=>Q .ret E' H'
  | _=>False
 | .ret,E,H,Q=>Q .ret E H
 | .region id ops d,E,H,Q=>match d with
  | false=>vcOpsT C.P T ops.toList E H fun E' H'=>Q .normal E' H'
  | true=>V C (.region id ops true) E H Q
 | _,_,_,_=>False
attribute [simp] spreadL hdrsL ownsL stB
attribute [simp] vcCT vcOpsT bslO
end
section
variable {P:Program}
def loopsC:Code->List Code
 | .loop c=>c::loopsC c
 | .seq a b=>loopsC a++loopsC b
 | .cond _ a b=>loopsC a++loopsC b
 | .block _ c=>loopsC c
 | .scope c=>loopsC c
 | _=>[]
def loopO (f:Func) (k:Nat):Option Code:=match f.body with
 | some c=>(loopsC c)[k]?
 | none=>none
def loopC (f:Func) (k:Nat):Code:=(loopO f k).getD .skip
theorem vc_part {f:Func}{k:Nat}{c:Code}{C:Cfg}{E:Env}{H:Heap}{Q:PostQ}(h:loopO f k=some c) (hv:vcC C c E H Q):vcC C (loopC f k) E H Q:=by
 unfold loopC
 rw[h]
 exact hv
theorem vc_of_part {f:Func}{k:Nat}{c:Code}{C:Cfg}{E:Env}{H:Heap}{Q:PostQ}(h:loopO f k=some c) (hv:vcC C (loopC f k) E H Q):vcC C c E H Q:=by
 unfold loopC at hv
 rw[h]at hv
 exact hv
def accC (i:Nat) (r:List Nat) (c:Option Nat) (acc:List (Nat×List Nat×Option Nat)):List (Nat×List Nat×Option Nat):=match r,c with
 | [],none=>acc
 | _,_=>(i,r,c)::acc
def prsC (i:Nat) (q:List Nat×Option Nat):List (Nat×List Nat×Option Nat)->List (Nat×Nat)->List (Nat×Nat)
 | [],prs=>prs
 | z::acc,prs=>prsC i q acc (if tagC z.2 q=true then (i,z.1)::prs else prs)
def chkD (ops:List Oper) (prs:List (Nat×Nat)):Bool:=prs.all fun p=>dirB ops p.1 p.2||relB ops p.1 p.2
@[congr] theorem chkD_congr {ops:List Oper}{prs prs':List (Nat×Nat)}{z:Prop}(_:(True∧True)=z) (h:prs=prs'):chkD ops prs=chkD ops prs':=by rw[h]
@[simp] theorem chkD_nil (ops:List Oper):chkD ops []=true:=id rfl
@[simp] theorem accC_n (i:Nat) (acc:List (Nat×List Nat×Option Nat)):accC i [] none acc=acc:=id rfl
@[simp] theorem accC_c (i t:Nat) (r:List Nat) (c:Option Nat) (acc:List (Nat×List Nat×Option Nat)):accC i (t::r) c acc=(i,t::r,c)::acc:=id rfl
@[simp] theorem accC_s (i t:Nat) (r:List Nat) (acc:List (Nat×List Nat×Option Nat)):accC i r (some t) acc=(i,r,some t)::acc:=by cases r<;>rfl
@[simp] theorem prsC_n (i:Nat) (q:List Nat×Option Nat) (prs:List (Nat×Nat)):prsC i q [] prs=prs:=id rfl
@[simp] theorem prsC_c (i:Nat) (q:List Nat×Option Nat) (z:Nat×List Nat×Option Nat) (acc:List (Nat×List Nat×Option Nat)) (prs:List (Nat×Nat)):prsC i q (z::acc) prs=prsC i q acc (if tagC z.2 q=true then (i,z.1)::prs else prs):=id rfl
theorem prsC_chk {ops:List Oper}{i:Nat}{q:List Nat×Option Nat}:∀(acc:List (Nat×List Nat×Option Nat)) (prs:List (Nat×Nat)),chkD ops (prsC i q acc prs)=true->chkD ops prs=true∧∀z∈acc,dOr (tagC z.2 q) (dOr (!dirB ops i z.1) (relB ops i z.1))=true
 | [],prs,h=>⟨h,by simp⟩
 | z::acc,prs,h=>by
  rw[prsC_c]at h
  obtain⟨h1,h2⟩:=prsC_chk acc _ h
  cases ht:tagC z.2 q with
  | false=>
   rw[ht]at h1
   simp only[Bool.false_eq_true,if_false]at h1
   refine⟨h1,?_⟩
   intro z' hz
   rcases List.mem_cons.1 hz with rfl | hz
   ·rw[ht,dOr_f]
   ·exact h2 z' hz
  | true=>
   rw[ht]at h1
   simp only[if_true,chkD,List.all_cons,Bool.and_eq_true]at h1
   refine⟨h1.2,?_⟩
   intro z' hz
   rcases List.mem_cons.1 hz with rfl | hz
   ·rw[ht,dOr_t]
    have h3:=h1.1
    cases hd:dirB ops i z'.1 with
    | true=>rfl
    | false=>rw[hd]at h3;simpa using h3
   ·exact h2 z' hz
def vcX (P:Program) (ρ:Nat->Option CR) (ops:List Oper):Nat->List (Nat×List Nat×Option Nat)->List (Nat×Nat)->List Oper->Env->Heap->(Env->Heap->Prop)->Prop
 | _,_,prs,[],E,H,K=>chkD ops prs=true∧K E H
 | i,acc,prs,o::rest,E,H,K=>∀u b,match fStep P ρ u b ops o E (fun t=>hget t H) with
  | some (p,a,ch)=>p∧vcX P ρ ops (i+1) (accC i (rdT E o) (chT ch) acc) (prsC i (rdT E o,chT ch) acc prs) rest (put E o.dst a) (happ ch H) K
  | none=>False
theorem vcX_D {ρ:Nat->Option CR}{ops:List Oper}{K:Env->Heap->Prop}:∀(l:List Oper) (i:Nat) (acc:List (Nat×List Nat×Option Nat)) (prs:List (Nat×Nat)) (E:Env) (H:Heap),vcX P ρ ops i acc prs l E H K ->
  chkD ops prs=true∧∀accD:List (Nat×List Nat×Option Nat),(∀z∈accD,z∈acc∨z.2=([],none))->vcD P ρ ops i accD l E H K
 | [],i,acc,prs,E,H,h=>⟨h.1,fun _ _=>h.2⟩
 | o::l,i,acc,prs,E,H,h=>by
  simp only[vcX]at h
  constructor
  ·have h0:=h .nilIface 0
   split at h0
   ·exact (prsC_chk acc prs (vcX_D l _ _ _ _ _ h0.2).1).1
   ·exact h0.elim
  ·intro accD hacc
   simp only[vcD]
   intro u b
   have h0:=h u b
   split at h0
   ·rename_i p a ch hs
    rw[hs]
    obtain⟨k1,k2⟩:=vcX_D l _ _ _ _ _ h0.2
    obtain⟨-,k3⟩:=prsC_chk acc prs k1
    refine⟨h0.1,List.all_eq_true.2 fun z hz=>?_,k2 _ fun z hz=>?_⟩
    ·rcases hacc z hz with h1 | h1
     ·exact k3 z h1
     ·rw[h1]
      have:tagC ([],none) (rdT E o,chT ch)=false:=by
       cases hc:chT ch<;>simp[tagC]
      rw[this,dOr_f]
    ·rcases List.mem_cons.1 hz with rfl | hz
     ·generalize rdT E o=r
      generalize chT ch=c
      cases r with
      | nil=>cases c with
       | none=>exact .inr rfl
       | some t=>exact .inl (by simp)
      | cons t r=>exact .inl (by simp)
     ·rcases hacc z hz with h1 | h1
      ·left
       generalize rdT E o=r
       generalize chT ch=c
       cases r with
       | nil=>cases c with
        | none=>exact h1
        | some t=>simp[h1]
       | cons t r=>simp[h1]
      ·exact .inr h1
   ·exact h0.elim
theorem V.drawX {n:Nat}{id:Nat}{ops:Array Oper}{E:Env}{H:Heap}{Q:PostQ}(ρ:Nat->Option CR) (hm:P.follows .mixedOrders=true) (hd:depB ops.toList=true) (hn:(H.map (·.1)).Nodup)
  (h:vcX P ρ ops.toList 0 [] [] ops.toList E H fun E' H'=>Q .normal E' H'):V ⟨P,none,n⟩ (.region id ops true) E H Q:=
 V.draw ρ hm hd hn ((vcX_D _ _ _ _ _ _ h).2 [] (by simp))
attribute [simp] vcX
end
section
variable {P:Program}
def restO:Nat->Code->Option Code
 | 0,c=>some c
 | k+1,.seq _ b=>restO k b
 | _,_=>none
def restF (f:Func) (k:Nat):Option Code:=match f.body with
 | some c=>restO k c
 | none=>none
def restC (f:Func) (k:Nat):Code:=(restF f k).getD .skip
theorem vc_rest {f:Func}{k:Nat}{c:Code}{C:Cfg}{E:Env}{H:Heap}{Q:PostQ}(h:restF f k=some c) (hv:vcC C c E H Q):vcC C (restC f k) E H Q:=by
 unfold restC
 rw[h]
 exact hv
theorem vc_of_rest {f:Func}{k:Nat}{c:Code}{C:Cfg}{E:Env}{H:Heap}{Q:PostQ}(h:restF f k=some c) (hv:vcC C (restC f k) E H Q):vcC C c E H Q:=by
 unfold restC at hv
 rw[h]at hv
 exact hv
def vcN (C:Cfg):Nat->Code->Env->Heap->PostQ->Prop
 | 0,c,E,H,Q=>V C c E H Q
 | k+1,.seq a b,E,H,Q=>vcC C a E H fun e E' H'=>match e with
  | .normal=>vcN C k b E' H' Q
  | .exit i=>Q (.exit i) E' H'
  | .ret=>Q .ret E' H'
  | _=>False
 | _+1,c,E,H,Q=>vcC C c E H Q
theorem vcN_ok {C:Cfg}:∀(k:Nat) (c:Code) (E:Env) (H:Heap) (Q:PostQ),fitsC C.n c=true->vcN C k c E H Q->W C c E H Q
 | 0,c,E,H,Q,hf,h=>h hf
 | k+1,c,E,H,Q,hf,h=>by
  cases c with
  | seq a b=>
   simp only[fitsC,Bool.and_eq_true]at hf
   refine W.seq ((vcC_ok a E H _ hf.1 h).mono ?_)
   intro e E' H' hq
   cases e with
   | normal=>exact vcN_ok k b E' H' Q hf.2 hq
   | exit i=>exact hq
   | ret=>exact hq
   | goto l=>exact hq
   | panic c=>exact hq
   | outgrown=>exact hq
  | _=>exact vcC_ok _ E H Q hf h
theorem V.cut {C:Cfg}{c:Code}{E:Env}{H Hs:Heap}{Q:PostQ}(kv:List (Nat×A)) (hE:∀p∈kv,wk (E p.1) p.2) (hH:subN Hs H) (h:vcC C c (hdE kv []) Hs Q):V C c E H Q:=by
 intro hf x act H0 ms hi he
 refine vcC_ok c _ _ _ hf h x act H0 ms (subN_inv hH hi) ⟨he.defers,he.size,?_⟩
 exact sets_wk he.slot [] _ (by simp) (sets_wk he.slot kv _ hE fun t=>by simp[anyE,D])
theorem V.cutN {C:Cfg}(k:Nat) {c:Code}{E:Env}{H Hs:Heap}{Q:PostQ}(kv:List (Nat×A)) (hE:∀p∈kv,wk (E p.1) p.2) (hH:subN Hs H) (h:vcN C k c (hdE kv []) Hs Q):V C c E H Q:=by
 intro hf x act H0 ms hi he
 refine vcN_ok k c _ _ _ hf h x act H0 ms (subN_inv hH hi) ⟨he.defers,he.size,?_⟩
 exact sets_wk he.slot [] _ (by simp) (sets_wk he.slot kv _ hE fun t=>by simp[anyE,D])
theorem vcN_rest {f:Func}{j k:Nat}{c:Code}{C:Cfg}{E:Env}{H:Heap}{Q:PostQ}(h:restF f j=some c) (hv:vcN C k c E H Q):vcN C k (restC f j) E H Q:=by
 unfold restC
 rw[h]
 exact hv
theorem vcN_of_rest {f:Func}{j k:Nat}{c:Code}{C:Cfg}{E:Env}{H:Heap}{Q:PostQ}(h:restF f j=some c) (hv:vcN C k (restC f j) E H Q):vcN C k c E H Q:=by
 unfold restC at hv
 rw[h]at hv
 exact hv
theorem callS_cut (k:Nat) {g:FuncId}{fn:Func}{c:Code}{n:Nat}{rs:List ResultVar}{az:List A}{H:Heap}{K:A->Heap->Prop}(hf:P.funcs[g]?=some fn) (hb:fn.body=some c) (hn:fn.ntmps=n)
  (hr:fn.results=rs.toArray) (hnm:(fn.name == "runtime.NumGoroutine")=false) (hl:az.length<=n) (hfit:fitsC n c=true)
  (h:vcN ⟨P,none,n⟩ k c (envOf az) H (RetV P rs K)):CallS P g az H K:=callS_ofW hf hb hn hr hnm hl hfit (vcN_ok k c _ H _ hfit h)
theorem callFz_cut (k:Nat) {g:FuncId}{fn:Func}{c:Code}{n:Nat}{rs:List ResultVar}{az:List A}{r:A}(hf:P.funcs[g]?=some fn) (hb:fn.body=some c) (hn:fn.ntmps=n)
  (hr:fn.results=rs.toArray) (hnm:(fn.name == "runtime.NumGoroutine")=false) (hl:az.length<=n) (hfit:fitsC n c=true)
  (h:vcN ⟨P,none,n⟩ k c (envOf az) [] (RetV P rs fun r' H'=>(frz H' r').1∧(frz H' r').2=r)):CallFn P g az r:=
 (callS_ofW hf hb hn hr hnm hl hfit (vcN_ok k c _ [] _ hfit h)).frz fun _ _ h=>h
attribute [simp] vcN
end
end Go.Proofs.YtafamcbdaeppoaaGreatDoor
