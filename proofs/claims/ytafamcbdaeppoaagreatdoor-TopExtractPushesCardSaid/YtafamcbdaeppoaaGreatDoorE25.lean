/- Texts joined by a program: Eb,Ec,Ed,Ee,Qr,Ef,Cg,Eg,Eh,Qs,Qt,Wf. -/
import Derived.Test.YtafamcbdaeppoaaGreatDoorE24
import Derived.Test.YtafamcbdaeppoaaGreatDoorE23
import Derived.Test.YtafamcbdaeppoaaGreatDoorE17
import Derived.Test.YtafamcbdaeppoaaGreatDoorE15
set_option linter.unusedSimpArgs false
set_option linter.unusedVariables false
set_option maxHeartbeats 8000000
set_option maxRecDepth 10000
namespace Go.Proofs.YtafamcbdaeppoaaGreatDoor
def badP (c:Control) (n:Int):Bool:=decide (n<0)||decide (countC c<=n)
theorem NoF.any {α:Type}{p:α->Bool}{xs:List α}(h:NoF p xs):xs.any p=false:=by
 rw[List.any_eq_false]
 intro x hx
 simp[h x hx]
theorem pilotsR_fn (c:Control) (h:Sm c) (hp:c.plus.length<=1000000) (hm:c.minus.length<=1000000):CallFn Tryz.prog 131 [aC c] (aI (pilotE c)):=by
 refine callFz_of Tryz.func131 rfl Tryz.ntmps131 (rs:=[.tmp 2]) rfl (by kernel_rfl) (by simp) (by kernel_rfl) ?_
 by_cases hpl:(c.plus.length:Int)≠c.actuators∨(c.minus.length:Int)≠c.actuators
 ·simp[pilotE,hpl]
  intro h1 h2
  omega
 ·have h1:(c.plus.length:Int)=c.actuators:=by omega
  have h2:(c.minus.length:Int)=c.actuators:=by omega
  have e':pilotE c=if (c.plus++c.minus).any (badP c) then 6 else 0:=by rw[pilotE,if_neg hpl];rfl
  rw[List.any_append]at e'
  simp[h1,h2]
  refine V.forI (σ:=Unit) 2 [1,24,25] (by simp;exact rfl) (fun i _=>[(26,aI i)]) (fun _ _=>[]) (fun i _=>(1<=i->NoF (badP c) c.plus)∧(2<=i->NoF (badP c) c.minus)) () (by simp) (by simp) ⟨by simp;exact rfl,by simp⟩ ?_ ?_
  ·rintro i-hi hI
   obtain⟨ys,hys,hly,hbad,hgood⟩:∃ys:List Int,([[L.sl (c.plus.map encI)],[L.sl (c.minus.map encI)]]:List (List L))[i]?=some [L.sl (ys.map encI)]∧ys.length<=1000000∧(ys.any (badP c)=true->pilotE c=6) ∧
     (NoF (badP c) ys->(1<=i+1->NoF (badP c) c.plus)∧(2<=i+1->NoF (badP c) c.minus)):=by
    obtain rfl | rfl:i=0∨i=1:=by omega
    ·exact⟨c.plus,rfl,hp,fun h=>by rw[e',h];rfl,fun h=>⟨fun _=>h,fun h=>by omega⟩⟩
    ·exact⟨c.minus,rfl,hm,fun h=>by rw[e',h];simp,fun h=>⟨fun _=>hI.1 (by omega),fun _=>h⟩⟩
   have hi':(i:Int)<2:=by omega
   simp[hi',hys]
   refine V.forI (σ:=Unit) ys.length [1,4,24,25,26,27,28,29] (by simp;exact rfl) (fun j _=>[(5,aI j)]) (fun _ _=>[]) (fun j _=>NoF (badP c) (ys.take j)) () (by simp) (by simp) ⟨by simp;exact rfl,by simp⟩ ?_ ?_
   ·rintro j-hj hJ
    obtain⟨y,hy⟩:∃y,ys[j]=y:=⟨_,rfl⟩
    have hs:=findIdx_step hJ (List.getElem?_eq_getElem hj)
    rw[hy]at hs
    have c3:=lines_fn c h
    simp[hj]
    refine V.draw (fun t=>if t=47 then some (.fn (aI (countC c))) else none) (by kernel_rfl) (by kernel_rfl) (by simp) ?_
    try simp at c3
    simp[hj,hy,c3]
    refine⟨fun hb=>?_,fun hb1 hb2=>⟨by omega,hs.1 (by simp[badP];omega)⟩⟩
    rw[hbad]
    rw[<- List.findIdx?_isSome,hs.2 (by simp[badP];omega)]
    rfl
   ·rintro-hJ
    rw[List.take_length]at hJ
    obtain⟨g1,g2⟩:=hgood hJ
    simp
    refine⟨by omega,g1 (by omega),?_⟩
    intro h
    exact g2 (by omega)
  ·rintro-⟨g1,g2⟩
   rw[e',(g1 (by omega)).any,(g2 (by omega)).any]
   simp
theorem CheckR_fn (c:Control) (hc:OkC c) (hp:c.plus.length<=1000000) (hm:c.minus.length<=1000000):CallFn Tryz.prog 59 [aC c] (aI (checkC c)):=by
 refine callFz_of Tryz.func59 rfl Tryz.ntmps59 (rs:=[.tmp 2]) rfl (by kernel_rfl) (by simp) (by kernel_rfl) ?_
 by_cases ha:c.actuators<1∨c.actuators>6
 ·have e:checkC c=2:=by simp[checkC,ha]
  rw[e]
  simp
  intro h1 h2
  omega
 ·have ha':1<=c.actuators∧c.actuators<=6∧¬c.actuators<1∧¬ 6<c.actuators:=by omega
  by_cases hmx:c.inputs.length>16∨c.signals.length>64
  ·have e:checkC c=5:=by simp only[checkC];rw[if_neg ha,if_pos hmx]
   rw[e]
   simp[ha'.1,ha'.2]
   intro h1 h2
   omega
  ·have hsm:Sm c:=⟨by omega,by omega,by omega⟩
   obtain⟨N,hN⟩:∃N:Nat,c.actuators=N:=⟨c.actuators.toNat,by omega⟩
   have hNN:c.actuators.toNat=N:=by omega
   have hm':(c.inputs.length:Int)<=16∧(c.signals.length:Int)<=64∧¬ 16<(c.inputs.length:Int)∧¬ 64<(c.signals.length:Int):=by omega
   have hcn:countC c=2*c.actuators+c.inputs.length+c.signals.length:=rfl
   have e:checkC c=if firstErr (inpE c) (List.range c.inputs.length)≠0 then firstErr (inpE c) (List.range c.inputs.length)
     else if firstErr (sigE c) (List.range c.signals.length)≠0 then firstErr (sigE c) (List.range c.signals.length) else pilotE c:=by
    simp only[checkC];rw[if_neg ha,if_neg hmx]
   simp[ha'.1,ha'.2,hm'.1,hm'.2]
   refine V.forI (σ:=Unit) c.inputs.length [1] (by simp;exact rfl) (fun i _=>[(3,aI i)]) (fun _ _=>[]) (fun i _=>NoE (inpE c) i) () (NoE.zero _) (by simp) ⟨by simp;exact rfl,by simp⟩ ?_ ?_
   ·rintro i-hi hI
    have c1:=nameR_fn c hsm hc ⟨by omega,by omega⟩ (2*N+i) (by omega)
    have hin:inpE c i=nameE (namedC c (2*N+i:Nat)) (namesB c (2*N+i)):=by rw[inpE,hNN]
    rw[<- hin,show ((2*N+i:Nat):Int)=2*c.actuators+i by omega]at c1
    simp[hi]
    refine⟨by omega,by omega,c1.s ?_⟩
    by_cases hz:inpE c i=0
    ·simp[hz]
     exact⟨by omega,hI.succ hz⟩
    ·have hf:=firstErr_at hI hi hz
     have e':checkC c=inpE c i:=by rw[e,hf,if_pos hz]
     simp[hz,e']
   ·rintro-hI
    have hf:=firstErr_all hI
    rw[hf]at e
    simp at e
    simp
    refine V.forI (σ:=Unit) c.signals.length [1] (by simp;exact rfl) (fun i _=>[(5,aI i)]) (fun _ _=>[]) (fun i _=>NoE (sigE c) i) () (NoE.zero _) (by simp) ⟨by simp;exact rfl,by simp⟩ ?_ ?_
    ·rintro i-hi hI2
     have c1:=signalR_fn c hsm hc ⟨by omega,by omega⟩ i _ (List.getElem?_eq_getElem hi)
     simp[hi]
     refine c1.s ?_
     by_cases hz:sigE c i=0
     ·simp[hz]
      exact⟨by omega,hI2.succ hz⟩
     ·have hf:=firstErr_at hI2 hi hz
      have e':checkC c=sigE c i:=by rw[e,hf,if_neg hz]
      simp[hz,e']
    ·rintro-hI2
     have hf:=firstErr_all hI2
     rw[hf]at e
     simp at e
     rw[e]
     simp
     refine (pilotsR_fn c hsm hp hm).s ?_
     simp
theorem comp_B:((fun x=>List.map A.dat x)∘encB)=rB:=rfl
theorem comp_I:((fun x=>List.map A.dat x)∘encI)=rI:=rfl
attribute [simp] comp_B comp_I
def endsV (l:List Int):List Bool:=l.flatMap fun x=>[x==0,x==2]
def valuesOf (s:State):List Bool:=endsV s.ends++s.inputs++s.values
theorem endsV_take {l:List Int}{i:Nat}{x:Int}(h:l[i]?=some x):endsV (l.take (i+1))=endsV (l.take i)++[x==0,x==2]:=by
 rw[List.take_add_one,h]
 simp[endsV]
theorem endsV_length (l:List Int):(endsV l).length=2*l.length:=by
 induction l with
 | nil=>rfl
 | cons x l ih=>simp only[endsV,List.flatMap_cons,List.length_append]at ih ⊢;rw[ih];simp;omega
structure SmS (s:State):Prop where
 ends:s.ends.length<=1000000
 valves:s.valves.length<=1000000
 inputs:s.inputs.length<=1000000
 values:s.values.length<=1000000
 timers:s.timers.length<=1000000
theorem values_o (s:State) (h:SmS s):CallOwn Tryz.prog 84 [aSt s] 4 1 ((valuesOf s).map rB):=by
 obtain⟨h1,h2,h3,h4,h5⟩:=h
 refine callO_of Tryz.func84 rfl Tryz.ntmps84 (rs:=[.tmp 2]) rfl (by kernel_rfl) (by simp) (by kernel_rfl) ?_
 simp
 refine V.forI (σ:=Value) s.ends.length [1,2,7,8] (by simp;exact rfl) (fun i g=>[(9,aI i),(3,.own 50 g)]) (fun i g=>[(50,.seq g 4 1 ((endsV (s.ends.take i)).map rB))]) (fun _ _=>True) (.slice none 0 0) trivial (by simp) ⟨by simp;exact rfl,by simp[endsV]⟩ ?_ ?_
 ·rintro i g hi -
  obtain⟨x,hx⟩:∃x,s.ends[i]=x:=⟨_,rfl⟩
  have hs:=endsV_take (show s.ends[i]?=some x by rw[List.getElem?_eq_getElem hi,hx])
  have hl:=endsV_length (s.ends.take i)
  rw[List.length_take]at hl
  rw[hs]
  generalize endsV (s.ends.take i)=zs at hl ⊢
  simp[hi,hx]
  omega
 ·rintro g -
  have hl:=endsV_length s.ends
  rw[List.take_length]
  have hv:valuesOf s=endsV s.ends++s.inputs++s.values:=rfl
  rw[hv]
  generalize endsV s.ends=zs at hl ⊢
  simp
  refine V.draw (fun _=>none) (by kernel_rfl) (by kernel_rfl) (by simp) ?_
  simp
  omega
def outR (m n:Int):Bool:=decide (n<0)||decide (m<=n)
theorem unknown_fn (m:Int):CallFn Tryz.prog 179 [aI m] (.fn 180 [] [.rptr [.int .i64 m]]):=by
 refine callFz_of Tryz.func179 rfl Tryz.ntmps179 (rs:=[.tmp 2]) rfl (by kernel_rfl) (by simp) (by kernel_rfl) ?_
 simp
theorem unknown1_fn (m n:Int):CallFn Tryz.prog 180 [aI n,.rptr [.int .i64 m]] (aB (outR m n)):=by
 refine callFz_of Tryz.func180 rfl Tryz.ntmps180 (rs:=[.tmp 3]) rfl (by kernel_rfl) (by simp) (by kernel_rfl) ?_
 simp[outR]
def tstE (x:Signal) (v:Bool) (t:Int):Int:=if (x.kind≠2∧t≠0)∨(x.kind=2∧v≠(t==2)) then 14 else 0
def tsE (c:Control) (s:State) (i:Nat):Int:=match c.signals[i]?,s.values[i]?,s.timers[i]? with
 | some x,some v,some t=>tstE x v t
 | _,_,_=>0
def shapeS (c:Control) (s:State):Prop:=(s.ends.length:Int)=c.actuators∧(s.valves.length:Int)=c.actuators∧s.inputs.length=c.inputs.length∧s.values.length=c.signals.length∧s.timers.length=c.signals.length
instance (c:Control) (s:State):Decidable (shapeS c s):=by unfold shapeS;exact inferInstance
def fitsSt (c:Control) (s:State):Int:=
 if ¬shapeS c s then 8
 else if s.ends.any (outR 4)||s.timers.any (outR 3) then 1
 else firstErr (tsE c s) (List.range s.timers.length)
theorem fits_fn (c:Control) (s:State) (hs:SmS s):CallFn Tryz.prog 117 [aC c,aSt s] (aI (fitsSt c s)):=by
 refine callFz_of Tryz.func117 rfl Tryz.ntmps117 (rs:=[.tmp 4]) rfl (by kernel_rfl) (by simp) (by kernel_rfl) ?_
 have hsm:=hs
 obtain⟨g1,g2,g3,g4,g5⟩:=hs
 by_cases hsh:shapeS c s
 ·have e:fitsSt c s=if s.ends.any (outR 4)||s.timers.any (outR 3) then 1 else firstErr (tsE c s) (List.range s.timers.length):=by rw[fitsSt,if_neg (by simpa using hsh)]
  obtain⟨h1,h2,h3,h4,h5⟩:=hsh
  simp[h1,h2,h3,h4,h5]
  have c1:=unknown_fn 4
  have c2:=unknown_fn 3
  have c3:=containsF_fn s.ends (outR 4) 180 [] [.rptr [.int .i64 4]] (by omega) (fun n _=>by simpa using unknown1_fn 4 n)
  have c4:=containsF_fn s.timers (outR 3) 180 [] [.rptr [.int .i64 3]] (by omega) (fun n _=>by simpa using unknown1_fn 3 n)
  obtain⟨be,hbe⟩:∃b,s.ends.any (outR 4)=b:=⟨_,rfl⟩
  obtain⟨bt,hbt⟩:∃b,s.timers.any (outR 3)=b:=⟨_,rfl⟩
  rw[hbe]at c3 e
  rw[hbt]at c4 e
  refine V.draw (fun t=>if t=53 then some (.fn (.fn 180 [] [.rptr [.int .i64 4]])) else if t=54 then some (.fn (aB be)) else if t=59 then some (.fn (.fn 180 [] [.rptr [.int .i64 3]])) else if t=60 then some (.fn (aB bt)) else none) (by kernel_rfl) (by kernel_rfl) (by simp) ?_
  simp[c1,c2,c3,c4]
  refine⟨fun h=>by rcases h with rfl | rfl<;>simp[e],?_⟩
  rintro rfl rfl
  simp at e
  refine V.forI (σ:=Unit) s.timers.length [2,3,63,64] (by simp;exact rfl) (fun i _=>[(65,aI i)]) (fun _ _=>[]) (fun i _=>NoE (tsE c s) i) () (NoE.zero _) (by simp[h5]) ⟨by simp;exact rfl,by simp⟩ ?_ ?_
  ·rintro i-hi hI
   obtain⟨x,hx⟩:∃x,c.signals[i]'(by omega)=x:=⟨_,rfl⟩
   obtain⟨v,hv⟩:∃v,s.values[i]'(by omega)=v:=⟨_,rfl⟩
   obtain⟨t,ht⟩:∃t,s.timers[i]=t:=⟨_,rfl⟩
   have hxo:c.signals[i]?=some x:=by rw[List.getElem?_eq_getElem (by omega),hx]
   have hvo:s.values[i]?=some v:=by rw[List.getElem?_eq_getElem (by omega),hv]
   have hto:s.timers[i]?=some t:=by rw[List.getElem?_eq_getElem (by omega),ht]
   have hE:tsE c s i=tstE x v t:=by simp only[tsE,hxo,hvo,hto]
   have hic:i<c.signals.length:=by omega
   have hiv:i<s.values.length:=by omega
   by_cases hbad:(x.kind≠2∧t≠0)∨(x.kind=2∧v≠(t==2))
   ·have hz:tsE c s i=14:=by rw[hE,tstE,if_pos hbad]
    have hf:=firstErr_at hI hi (by rw[hz];decide)
    have e':fitsSt c s=14:=by rw[e,hf,hz]
    simp[<- h5,hi,hx,hv,ht,hic,hiv,e',h4]
    exact⟨fun h=>⟨h,fun h2=>⟨h,h2⟩⟩,fun a b=>by
     rcases hbad with⟨p,q⟩|⟨p,q⟩
     ·exact absurd (a p) q
     ·exact absurd (b p) q⟩
   ·have hz:tsE c s i=0:=by rw[hE,tstE,if_neg hbad]
    simp[<- h5,hi,hx,hv,ht,hic,hiv,h4]
    have hn:=hI.succ hz
    exact⟨fun h=>⟨h,fun h2=>⟨h,h2⟩⟩,fun hb=>absurd hb hbad,fun _ _=>⟨by omega,hn⟩⟩
  ·rintro-hI
   have hf:=firstErr_all hI
   rw[hf]at e
   simp[e,h5]
 ·have e:fitsSt c s=8:=by rw[fitsSt,if_pos hsh]
  rw[e]
  simp
  unfold shapeS at hsh
  intros
  omega
theorem NoF.snoc' {α:Type}{p:α->Bool}{xs:List α}{i:Nat}{x:α}(h:NoF p (xs.take i)) (hx:xs[i]?=some x) (hp:p x=false):NoF p (xs.take (i+1)):=by
 rw[List.take_add_one,hx]
 intro y hy
 simp only[Option.toList_some,List.mem_append,List.mem_singleton]at hy
 rcases hy with hy | rfl
 ·exact h y hy
 ·exact hp
theorem any_at {α:Type}{p:α->Bool}{xs:List α}{i:Nat}{x:α}(hx:xs[i]?=some x) (hp:p x=true):xs.any p=true:=by
 rw[List.any_eq_true]
 exact⟨x,List.mem_of_getElem? hx,hp⟩
theorem fitsR_fn (c:Control) (s:State) (hs:SmS s):CallFn Tryz.prog 60 [aC c,aSt s] (aI (fitsSt c s)):=by
 refine callFz_of Tryz.func60 rfl Tryz.ntmps60 (rs:=[.tmp 4]) rfl (by kernel_rfl) (by simp) (by kernel_rfl) ?_
 have hsm:=hs
 obtain⟨g1,g2,g3,g4,g5⟩:=hs
 by_cases hsh:shapeS c s
 ·have e:fitsSt c s=if s.ends.any (outR 4)||s.timers.any (outR 3) then 1 else firstErr (tsE c s) (List.range s.timers.length):=by rw[fitsSt,if_neg (by simpa using hsh)]
  obtain⟨h1,h2,h3,h4,h5⟩:=hsh
  simp[h1,h2,h3,h4,h5]
  refine V.forI (σ:=Unit) s.ends.length [2,3] (by simp;exact rfl) (fun i _=>[(5,aI i)]) (fun _ _=>[]) (fun i _=>NoF (outR 4) (s.ends.take i)) () (by simp[NoF]) (by simp) ⟨by simp;exact rfl,by simp⟩ ?_ ?_
  ·rintro i-hi hI
   obtain⟨x,hx⟩:∃x,s.ends[i]=x:=⟨_,rfl⟩
   have hxo:s.ends[i]?=some x:=by rw[List.getElem?_eq_getElem (by omega),hx]
   by_cases hb:outR 4 x=true
   ·have e':fitsSt c s=1:=by rw[e,any_at hxo hb];rfl
    simp[outR]at hb
    simp[hi,hx,e']
    intro a b
    omega
   ·have hn:=hI.snoc' hxo (by simpa using hb)
    simp[outR]at hb
    obtain⟨b1,b2⟩:=hb
    simp[hi,hx,hn,b1,b2,Int.not_lt.2 b1]
    omega
  ·rintro-hI
   rw[List.take_length]at hI
   have ha:=hI.any
   rw[ha]at e
   simp at e
   simp
   refine V.forI (σ:=Unit) s.timers.length [2,3] (by simp;exact rfl) (fun i _=>[(6,aI i)]) (fun _ _=>[]) (fun i _=>NoF (outR 3) (s.timers.take i)) () (by simp[NoF]) (by simp) ⟨by simp;exact rfl,by simp⟩ ?_ ?_
   ·rintro i-hi hI
    obtain⟨x,hx⟩:∃x,s.timers[i]=x:=⟨_,rfl⟩
    have hxo:s.timers[i]?=some x:=by rw[List.getElem?_eq_getElem (by omega),hx]
    by_cases hb:outR 3 x=true
    ·have e':fitsSt c s=1:=by rw[e,if_pos];obtain⟨y,hy,hp⟩:=List.any_eq_true.1 (any_at hxo hb);exact⟨y,hy,hp⟩
     simp[outR]at hb
     simp[hi,hx,e',<- h5]
     intro a b
     omega
    ·have hn:=hI.snoc' hxo (by simpa using hb)
     simp[outR]at hb
     obtain⟨b1,b2⟩:=hb
     simp[hi,hx,hn,b1,b2,Int.not_lt.2 b1,<- h5]
     omega
   ·rintro-hI
    rw[List.take_length]at hI
    have hb:¬ ∃x,x∈s.timers∧outR 3 x=true:=by
     rintro⟨y,hy,hp⟩
     rw[hI y hy]at hp
     cases hp
    rw[if_neg hb]at e
    simp[h5]
    refine V.forI (σ:=Unit) s.timers.length [2,3] (by simp;exact rfl) (fun i _=>[(7,aI i)]) (fun _ _=>[]) (fun i _=>NoE (tsE c s) i) () (NoE.zero _) (by simp) ⟨by simp;exact rfl,by simp⟩ ?_ ?_
    ·rintro i-hi hI
     obtain⟨x,hx⟩:∃x,c.signals[i]'(by omega)=x:=⟨_,rfl⟩
     obtain⟨v,hv⟩:∃v,s.values[i]'(by omega)=v:=⟨_,rfl⟩
     obtain⟨t,ht⟩:∃t,s.timers[i]=t:=⟨_,rfl⟩
     have hxo:c.signals[i]?=some x:=by rw[List.getElem?_eq_getElem (by omega),hx]
     have hvo:s.values[i]?=some v:=by rw[List.getElem?_eq_getElem (by omega),hv]
     have hto:s.timers[i]?=some t:=by rw[List.getElem?_eq_getElem (by omega),ht]
     have hE:tsE c s i=tstE x v t:=by simp only[tsE,hxo,hvo,hto]
     have hic:i<c.signals.length:=by omega
     have hiv:i<s.values.length:=by omega
     by_cases hbad:(x.kind≠2∧t≠0)∨(x.kind=2∧v≠(t==2))
     ·have hz:tsE c s i=14:=by rw[hE,tstE,if_pos hbad]
      have hf:=firstErr_at hI hi (by rw[hz];decide)
      have e':fitsSt c s=14:=by rw[e,hf,hz]
      simp[<- h5,hi,hx,hv,ht,hic,hiv,h4]
      refine V.draw (fun _=>none) (by kernel_rfl) (by kernel_rfl) (by simp) ?_
      simp[<- h5,hi,hx,hv,ht,hic,hiv,e',h4]
      exact⟨fun h=>⟨h,fun h2=>⟨h,h2⟩⟩,fun a b=>by
       rcases hbad with⟨p,q⟩|⟨p,q⟩
       ·exact absurd (a p) q
       ·exact absurd (b p) q⟩
     ·have hz:tsE c s i=0:=by rw[hE,tstE,if_neg hbad]
      have hn:=hI.succ hz
      simp[<- h5,hi,hx,hv,ht,hic,hiv,h4]
      refine V.draw (fun _=>none) (by kernel_rfl) (by kernel_rfl) (by simp) ?_
      simp[<- h5,hi,hx,hv,ht,hic,hiv,h4]
      exact⟨fun h=>⟨h,fun h2=>⟨h,h2⟩⟩,fun hb=>absurd hb hbad,fun _ _=>⟨by omega,hn⟩⟩
    ·rintro-hI
     have hf:=firstErr_all hI
     rw[hf]at e
     simp[e,h5]
 ·have e:fitsSt c s=8:=by rw[fitsSt,if_pos hsh]
  rw[e]
  simp
  unfold shapeS at hsh
  intros
  omega
structure Fine (c:Control):Prop where
 act:1<=c.actuators∧c.actuators<=6
 inp:c.inputs.length<=16
 sig:c.signals.length<=64
 sigs:∀(i:Nat) (s:Signal),c.signals[i]?=some s->signalE c i s (namesB c (2*c.actuators.toNat+c.inputs.length+i))=0
theorem fine_of {c:Control}(h:checkC c=0):Fine c:=by
 unfold checkC at h
 split at h
 ·cases h
 ·split at h
  ·cases h
  ·split at h
   ·rename_i h1;exact absurd h h1
   ·split at h
    ·rename_i h1;exact absurd h h1
    ·rename_i h1 h2 h3 h4
     have hz:=firstErr_zero (Classical.not_not.1 h4)
     refine⟨by omega,by omega,by omega,fun i s hi=>?_⟩
     obtain⟨hlt,_⟩:=List.getElem?_eq_some_iff.1 hi
     have:=hz i hlt
     simp only[sigE,hi]at this
     exact this
theorem Fine.sm {c:Control}(h:Fine c):Sm c:=by
 obtain⟨h1,h2,h3,_⟩:=h
 exact⟨by omega,by omega,by omega⟩
theorem Fine.on {c:Control}(h:Fine c) {i:Nat}{s:Signal}(hi:c.signals[i]?=some s):checkE s.on (countC c)=0∧0<=s.kind∧s.kind<=2:=by
 have:=h.sigs i s hi
 unfold signalE at this
 split at this
 ·rename_i h1;exact absurd this h1
 ·split at this
  ·cases this
  ·split at this
   ·rename_i h1;exact absurd this h1
   ·rename_i h1 h2 h3
    exact⟨Classical.not_not.1 h3,by omega⟩
def rightC (c:Control) (s:State):Int:=if checkC c≠0 then checkC c else fitsSt c s
theorem Right_fn (c:Control) (s:State) (hc:OkC c) (hs:SmS s):CallFn Tryz.prog 54 [aC c,aSt s] (aI (rightC c s)):=by
 refine callFz_of Tryz.func54 rfl Tryz.ntmps54 (rs:=[.tmp 4]) rfl (by kernel_rfl) (by simp) (by kernel_rfl) ?_
 simp
 refine (Check_fn c hc).s ?_
 simp
 by_cases hz:checkC c=0
 ·simp[hz]
  refine (fits_fn c s hs).s ?_
  simp[rightC,hz]
 ·simp[hz,rightC]
theorem RightR_fn (c:Control) (s:State) (hc:OkC c) (hp:c.plus.length<=1000000) (hm:c.minus.length<=1000000) (hs:SmS s):CallFn Tryz.prog 15 [aC c,aSt s] (aI (rightC c s)):=by
 refine callFz_of Tryz.func15 rfl Tryz.ntmps15 (rs:=[.tmp 4]) rfl (by kernel_rfl) (by simp) (by kernel_rfl) ?_
 simp
 refine (CheckR_fn c hc hp hm).s ?_
 simp
 by_cases hz:checkC c=0
 ·simp[hz]
  refine (fitsR_fn c s hs).s ?_
  simp[rightC,hz]
 ·simp[hz,rightC]
theorem right_zero {c:Control}{s:State}(h:rightC c s=0):checkC c=0∧shapeS c s∧fitsSt c s=0:=by
 unfold rightC at h
 split at h
 ·rename_i h1;exact absurd h h1
 ·rename_i h1
  refine⟨Classical.not_not.1 h1,?_,h⟩
  unfold fitsSt at h
  split at h
  ·cases h
  ·rename_i h2;exact Classical.not_not.1 h2
theorem valuesOf_length {c:Control}{s:State}(h:shapeS c s):((valuesOf s).length:Int)=countC c:=by
 obtain⟨h1,h2,h3,h4,h5⟩:=h
 have:=endsV_length s.ends
 simp[valuesOf,countC,this]
 omega
theorem values_fn (s:State) (h:SmS s):CallFn Tryz.prog 84 [aSt s] (aBs (valuesOf s)):=by
 have:=(values_o s h).fn (by simp)
 rwa [rowsD_B]at this
def valueP (c:Control) (s:State) (k:Int):Bool×Int:=
 if rightC c s≠0 then (false,rightC c s) else if k<0∨countC c<=k then (false,6) else ((valuesOf s)[k.toNat]?.getD false,0)
theorem Value_fn (c:Control) (s:State) (k:Int) (hc:OkC c) (hs:SmS s):CallFn Tryz.prog 36 [aC c,aSt s,aI k] (.tuple [aB (valueP c s k).1,aI (valueP c s k).2]):=by
 refine callFz_of Tryz.func36 rfl Tryz.ntmps36 (rs:=[.tmp 6,.tmp 7]) rfl (by kernel_rfl) (by simp) (by kernel_rfl) ?_
 simp
 refine (Right_fn c s hc hs).s ?_
 simp
 by_cases hz:rightC c s=0
 ·obtain⟨z1,z2,z3⟩:=right_zero hz
  have hf:=fine_of z1
  have hl:=valuesOf_length z2
  simp[hz]
  refine GCall.fn (aI (countC c)) (fun h0=>⟨h0,count_c c hf.sm⟩) ?_
  by_cases h0:0<=k
  ·by_cases h1:k<countC c
   ·simp[hz,h0,h1,Int.not_le.2 h1,Int.not_lt.2 h0]
    refine (values_fn s hs).s ?_
    have hk:k.toNat<(valuesOf s).length:=by omega
    simp[h0,hk,hl,h1,valueP,hz,Int.not_le.2 h1,Int.not_lt.2 h0]
   ·have h1':countC c<=k:=by omega
    simp[hz,h0,h1,h1',valueP]
  ·have h0':k<0:=by omega
   simp[hz,h0,h0',valueP]
 ·simp[hz,valueP]
def Pln.posB (p:Pln) (s:State) (i:Nat):Bool:=match drivenZ p.drives i with
 | some k=>s.valves.getD k false
 | none=>match p.line i with
  | some n=>(valuesOf s)[n]?.getD false
  | none=>false
def numB (b:Bool):Int:=if b=true then 1 else 0
def Pln.pos (p:Pln) (s:State):List Int:=(List.range p.ps.length).map fun i=>numB (p.posB s i)
def positionsQ (c:Cir) (s:State):List Int×Int:=
 if buildE c≠0 then ([],buildE c) else if rightC (planZ c).ctl s≠0 then ([],rightC (planZ c).ctl s) else ((planZ c).pos s,0)
def Pln.posO (p:Pln) (s:State) (i:Nat):List Int:=(List.range p.ps.length).map fun j=>if j<i then numB (p.posB s j) else 0
theorem posO_zero (p:Pln) (s:State):p.posO s 0=List.replicate p.ps.length 0:=by
 unfold Pln.posO
 refine List.ext_getElem (by simp) fun j h1 h2=>?_
 simp
theorem posO_all (p:Pln) (s:State):p.posO s p.ps.length=p.pos s:=by
 unfold Pln.posO Pln.pos
 refine List.map_congr_left fun j hj=>?_
 rw[if_pos (List.mem_range.1 hj)]
theorem posO_len (p:Pln) (s:State) (i:Nat):(p.posO s i).length=p.ps.length:=by simp[Pln.posO]
theorem posO_get (p:Pln) (s:State) (i j:Nat):(p.posO s i)[j]?=if j<p.ps.length then some (if j<i then numB (p.posB s j) else 0) else none:=by
 unfold Pln.posO
 rw[List.getElem?_map]
 by_cases h:j<p.ps.length
 ·rw[if_pos h,List.getElem?_range h]
  rfl
 ·rw[if_neg h,List.getElem?_eq_none (by simpa using h)]
  rfl
theorem posO_set (p:Pln) (s:State) {i:Nat}:p.posO s (i+1)=(p.posO s i).set i (numB (p.posB s i)):=by
 refine List.ext_getElem? fun j=>?_
 rw[List.getElem?_set,posO_get,posO_get,posO_len]
 by_cases e:i=j
 ·subst e
  simp
 ·rw[if_neg e]
  by_cases h2:j<p.ps.length
  ·rw[if_pos h2,if_pos h2]
   by_cases h:j<i
   ·rw[if_pos h,if_pos (by omega)]
   ·rw[if_neg h,if_neg (by omega)]
  ·rw[if_neg h2,if_neg h2]
theorem posO_keep (p:Pln) (s:State) {i:Nat}(h:p.posB s i=false):p.posO s (i+1)=p.posO s i:=by
 unfold Pln.posO
 refine List.map_congr_left fun j hj=>?_
 by_cases e:j=i
 ·subst e
  simp[h,numB]
 ·by_cases h2:j<i
  ·rw[if_pos h2,if_pos (by omega)]
  ·rw[if_neg h2,if_neg (by omega)]
theorem drivenZ_lt {d:List Drv}{i k:Nat}(h:drivenZ d i=some k):k<d.length:=(List.findIdx?_eq_some_iff_getElem.1 h).1
theorem pil_sig {p:Pln}(hB:p.B) (hD:p.D):p.ctl.signals.length=(p.pil p.drives.length).2.2.length∧p.order.length+p.valv.length<=p.ctl.signals.length:=by
 obtain⟨_,_,a3,_⟩:=hB.pil (fun d hd=>kindOf_lt (by have:=hD.val d hd;omega)) p.drives.length (Nat.le_refl _)
 refine⟨rfl,?_⟩
 show _<=(p.pil p.drives.length).2.2.length
 unfold Pln.sig0 at a3
 simp only[List.length_append,List.length_map]at a3
 exact a3
theorem line_lt {c:Cir}(hr:CirR c) (hd:drvE c.parts (netsZ c)=0) {i n:Nat}(h:(planZ c).line i=some n):(n:Int)<countC (planZ c).ctl:=by
 obtain⟨_,hs⟩:=pil_sig (planZ_B hr) (planZ_D hd)
 have hlim:=planZ_lim hr
 have hc:countC (planZ c).ctl=2*((planZ c).drives.length:Int)+(planZ c).butt.length+(planZ c).ctl.signals.length:=by
  unfold countC
  show 2*((planZ c).drives.length:Int)+(((planZ c).butt.map _).length:Nat)+_=_
  rw[List.length_map]
 rw[hc]
 rw[(planZ c).line_eq]at h
 cases hb:(planZ c).lineB i with
 | some m=>
  rw[hb]at h
  simp only[Option.some.injEq]at h
  subst h
  unfold Pln.lineB at hb
  cases hx:(planZ c).ps[i]? with
  | none=>rw[hx]at hb;simp at hb
  | some x=>
   rw[hx]at hb
   simp only at hb
   obtain⟨hi,hxe⟩:=List.getElem?_eq_some_iff.1 hx
   split at hb
   ·rename_i h7
    simp only[Option.some.injEq]at hb
    have hm:i∈(planZ c).butt:=mem_buttN.2 ⟨hi,by rw[kindOf_at hx,h7];rfl⟩
    have:=List.idxOf_lt_length_of_mem hm
    omega
   ·split at hb
    ·rename_i h6
     simp only[Option.some.injEq]at hb
     obtain⟨q,b,hq,_,k,hk⟩:=hlim x (List.mem_of_getElem? hx) h6
     rw[hq]at hb
     simp only[List.dropLast_concat]at hb
     have hkl:=(List.findIdx?_eq_some_iff_getElem.1 hk).1
     rw[List.findIdx?_eq_some_iff_findIdx_eq]at hk
     have hk2:(planZ c).drives.findIdx (fun d=>(((planZ c).ps.getD d.1 x).name==q))=k:=hk.2
     rw[hk2]at hb
     split at hb<;>omega
    ·simp at hb
 | none=>
  rw[hb]at h
  simp only at h
  split at h
  ·rename_i hm
   simp only[Option.some.injEq]at h
   have:=List.idxOf_lt_length_of_mem hm
   unfold Pln.first at h
   omega
  ·simp at h
theorem build_zero {c:Cir}(h:buildE c=0):CirR c∧drvE c.parts (netsZ c)=0∧checkC (planZ c).ctl=0∧planE c=0∧cirE c=0:=by
 unfold buildE at h
 by_cases h1:planE c=0
 ·rw[if_neg (by simp[h1])]at h
  have h2:=h1
  rw[planE_eq]at h2
  by_cases h3:pairE c=0
  ·have h4:=h3
   unfold pairE at h4
   by_cases h5:cirE c=0
   ·rw[if_neg (by simp[h5])]at h4
    exact⟨cirR_of h5,h4,h,h1,h5⟩
   ·rw[if_pos h5]at h4
    exact absurd h4 h5
  ·rw[if_pos h3]at h2
   exact absurd h2 h3
 ·rw[if_pos h1]at h
  exact absurd h h1
theorem build_okC {c:Cir}(h:buildE c=0):OkC (planZ c).ctl:=by
 obtain⟨hr,hd,_⟩:=build_zero h
 exact (planZ_B hr).okC fun d hd2=>(mem_drvN hd hd2).2.2.2.1
theorem Positions_fn (c:Cir) (hc:OkCir c) (s:State) (hs:SmS s):CallFn Tryz.prog 28 [aCi c,aSt s] (.tuple [aIs (positionsQ c s).1,aI (positionsQ c s).2]):=by
 have hp:=build_s c hc.names hc.parts hc.pipes
 unfold positionsQ
 by_cases h0:buildE c=0
 ·simp only[h0,if_true]at hp
  simp only[h0,ne_eq,not_true,if_false]
  obtain⟨hr,hd,hch,_,_⟩:=build_zero h0
  have hok:=build_okC h0
  have hrt:=Right_fn (planZ c).ctl s hok hs
  have hval:=fun n:Nat=>Value_fn (planZ c).ctl s n hok hs
  have hln:=fun i n=>line_lt hr hd (i:=i) (n:=n)
  have hps:(planZ c).ps=c.parts:=rfl
  have hpl:c.parts.length<=64:=hr.few
  have hact:(planZ c).ctl.actuators=(planZ c).drives.length:=rfl
  generalize (planZ c).ctl=ct at *
  refine callFz_of Tryz.func28 rfl Tryz.ntmps28 (rs:=[.tmp 4,.tmp 5]) rfl (by kernel_rfl) (by simp) (by kernel_rfl) ?_
  simp
  refine hp.mono ?_
  rintro r H' ⟨ss,rfl,rfl,hA⟩
  simp
  intro b7
  refine hrt.s ?_
  simp
  by_cases hz:rightC ct s=0
  ·have hcnt:∀n:Nat,(n:Int)<countC ct->valueP ct s n=((valuesOf s)[n]?.getD false,0):=fun n hn=>by
    unfold valueP
    rw[if_neg (by simp[hz]),if_neg (by omega),Int.toNat_natCast]
   have hvl:(planZ c).drives.length<=s.valves.length:=by
    have:=(right_zero hz).2.1.2.1
    omega
   simp[hz]
   intro g
   refine⟨by omega,?_⟩
   refine V.forI (σ:=Value) c.parts.length [3,4,5,6,7,39] (by simp;exact rfl) (fun i g=>[(10,.own 36 g),(40,aI i)]) (fun i g=>(36,.seq g 3 1 (((planZ c).posO s i).map rI))::(7,.box b7 ((encC ct).map A.dat))::ss.hp) (fun _ _=>True) g trivial (by simp) ⟨by simp;exact rfl,by rw[posO_zero];simp[hps]⟩ ?_ ?_
   ·rintro i g hi -
    have hdr:=driven_s hA.ok hA.dr (by have:=hA.dl;omega) i
    have hol:((planZ c).posO s i).length=c.parts.length:=posO_len _ _ _
    have hst:=posO_set (planZ c) s (i:=i)
    have hkp:=posO_keep (planZ c) s (i:=i)
    have hpb:(planZ c).posB s i=match drivenZ (planZ c).drives i with
     | some k=>s.valves.getD k false
     | none=>match (planZ c).line i with
      | some n=>(valuesOf s)[n]?.getD false
      | none=>false:=rfl
    generalize (planZ c).posO s i=O at *
    have hOi:i<O.length:=by omega
    obtain⟨z,hz4⟩:∃z,O[i]=z:=⟨_,rfl⟩
    have hOz:O[i]?=some z:=by rw[List.getElem?_eq_getElem hOi,hz4]
    simp[hi]
    refine (hdr.mid [(36,_),(7,_)] []).mono ?_
    rintro r H' ⟨rfl,rfl⟩
    cases hz2:drivenZ (planZ c).drives i with
    | some k=>
     rw[hz2]at hpb
     have hkl:=drivenZ_lt hz2
     obtain⟨v,hv⟩:∃v,s.valves[k]=v:=⟨_,rfl⟩
     have hvo:s.valves[k]?=some v:=by rw[List.getElem?_eq_getElem (by omega),hv]
     have hvk:k<s.valves.length:=by omega
     have hpb:(planZ c).posB s i=v:=by rw[hpb];simp only[List.getD_eq_getElem?_getD,hvo,Option.getD_some]
     rw[hpb]at hst hkp
     cases v
     ·rw[hkp rfl]
      simp[idxI,hv,hvo,hvk]
      exact⟨by omega,by omega⟩
     ·rw[hst]
      simp[idxI,hv,hvo,hvk,numB,hOi,hOz]
      exact⟨by omega,by omega⟩
    | none=>
     rw[hz2]at hpb
     have hl:=hA.line i
     cases hn:(planZ c).line i with
     | none=>
      rw[hn]at hl hpb
      simp[idxI,hl]
      exact⟨⟨by omega,by omega⟩,by rw[hkp hpb]⟩
     | some n=>
      rw[hn]at hl hpb
      have hvn:=hval n
      rw[hcnt n (hln i n hn)]at hvn
      simp only at hpb
      generalize (valuesOf s)[n]?.getD false=v at *
      rw[hpb]at hst hkp
      cases v
      ·rw[hkp rfl]
       simp[idxI,hl]
       refine hvn.s ?_
       simp
       exact⟨by omega,by omega⟩
      ·rw[hst]
       simp[idxI,hl]
       refine hvn.s ?_
       simp[hOi,hOz,numB]
       exact⟨by omega,by omega⟩
   ·rintro g -
    rw[<- hps,posO_all,if_neg (by simp[hz])]
    simp[rowsD,allD,isD]
  ·simp[hz]
 ·simp only[h0,if_false]at hp
  simp only[h0,ne_eq,not_false_iff,if_true]
  refine callFz_of Tryz.func28 rfl Tryz.ntmps28 (rs:=[.tmp 4,.tmp 5]) rfl (by kernel_rfl) (by simp) (by kernel_rfl) ?_
  simp
  refine hp.mono ?_
  rintro r H' ⟨rfl,rfl⟩
  simp[h0]
def stA (τ:Nat) (g:Nat->Value):A:=.agg [.own τ (g 0),.own (τ+1) (g 1),.own (τ+2) (g 2),.own (τ+3) (g 3),.own (τ+4) (g 4)]
def stH (τ:Nat) (g:Nat->Value) (s:State):Heap:=[(τ,.seq (g 0) 3 1 (s.ends.map rI)),(τ+1,.seq (g 1) 4 1 (s.valves.map rB)),(τ+2,.seq (g 2) 4 1 (s.inputs.map rB)),(τ+3,.seq (g 3) 4 1 (s.values.map rB)),(τ+4,.seq (g 4) 3 1 (s.timers.map rI))]
def CallSt (g:FuncId) (az:List A) (s:State):Prop:=CallS Tryz.prog g az [] fun r H'=>∃h,r=stA 0 h∧H'=stH 0 h s
theorem Ds5 {x:X}{l:List Value}{t0 t1 t2 t3 t4 u0 u1 u2 u3 u4:Nat}{h0 h1 h2 h3 h4:Value}(h:Ds x [.own t0 h0,.own t1 h1,.own t2 h2,.own t3 h3,.own t4 h4] l):Ds x [.own u0 h0,.own u1 h1,.own u2 h2,.own u3 h3,.own u4 h4] l:=by
 rcases l with _ | ⟨a,_ | ⟨b,_ | ⟨c,_ | ⟨d,_ | ⟨e,l⟩⟩⟩⟩⟩<;>simp only[Ds,D]at h ⊢<;>try exact h
theorem CallSt.s {g:FuncId}{az:List A}{s:State}(h:CallSt g az s) {H:Heap}{K:A->Heap->Prop}(τ:Nat) (hk:∀hd,K (stA τ hd) (stH τ hd s++H)):CallS Tryz.prog g az H K:=by
 refine⟨h.1,fun x args H0 hi hd=>((CallS.frame (H1:=H) h).2 x args H0 hi hd).mono ?_⟩
 rintro _ _ ⟨y,v,r,H',rfl,rfl,hle,hi',hv,H2,⟨hh,rfl,rfl⟩,rfl⟩
 refine⟨y,v,stA τ hh,_,rfl,rfl,hle,hi'.ents (H':=(stH τ hh s++H)++H0) (by simp[stH]),?_,hk hh⟩
 simp only[stA,D]at hv ⊢
 obtain⟨vs,e,hds⟩:=hv
 exact⟨vs,e,Ds5 hds⟩
def stAt (H:Heap) (s:State):A->Prop
 | .agg [.own t0 h0,.own t1 h1,.own t2 h2,.own t3 h3,.own t4 h4]=>hget t0 H=some (.seq h0 3 1 (s.ends.map rI))∧hget t1 (hdel t0 H)=some (.seq h1 4 1 (s.valves.map rB))∧hget t2 (hdel t1 (hdel t0 H))=some (.seq h2 4 1 (s.inputs.map rB)) ∧
   hget t3 (hdel t2 (hdel t1 (hdel t0 H)))=some (.seq h3 4 1 (s.values.map rB))∧hget t4 (hdel t3 (hdel t2 (hdel t1 (hdel t0 H))))=some (.seq h4 3 1 (s.timers.map rI))
 | _=>False
theorem CallSt.of {g:FuncId}{az:List A}{s:State}(h:CallS Tryz.prog g az [] fun r H'=>stAt H' s r):CallSt g az s:=by
 refine⟨h.1,fun x args H0 hi hd=>(h.2 x args H0 hi hd).mono ?_⟩
 rintro _ _ ⟨y,v,r,H',rfl,rfl,hle,hi',hv,hk⟩
 unfold stAt at hk
 split at hk
 ·rename_i t0 h0 t1 h1 t2 h2 t3 h3 t4 h4
  obtain⟨k0,k1,k2,k3,k4⟩:=hk
  have p0:=hdel_perm k0
  have p1:=hdel_perm k1
  have p2:=hdel_perm k2
  have p3:=hdel_perm k3
  have p4:=hdel_perm k4
  have hp:=p0.trans ((p1.trans ((p2.trans ((p3.trans (p4.cons _)).cons _)).cons _)).cons _)
  have hi2:=hi'.perm (hp.symm.append_right H0)
  refine⟨y,v,stA 0 (fun i=>[h0,h1,h2,h3,h4].getD i default),stH 0 (fun i=>[h0,h1,h2,h3,h4].getD i default) s,rfl,rfl,hle,?_,?_,_,rfl,rfl⟩
  ·have hi3:=hi2.sub (H':=[(t0,.seq h0 3 1 (s.ends.map rI)),(t1,.seq h1 4 1 (s.valves.map rB)),(t2,.seq h2 4 1 (s.inputs.map rB)),(t3,.seq h3 4 1 (s.values.map rB)),(t4,.seq h4 3 1 (s.timers.map rI))]++H0) (List.Sublist.append (by simp) (List.Sublist.refl _))
   exact hi3.ents (by simp[stH])
  ·simp only[stA,D]at hv ⊢
   obtain⟨vs,e,hds⟩:=hv
   exact⟨vs,e,Ds5 hds⟩
 ·exact hk.elim
def gvals (c:Control) (s:State):Nat->List Bool
 | 0=>s.values
 | i+1=>match c.signals[i]? with
  | some x=>if x.kind=0 then (gvals c s i).set i (evalE x.on (valuesOf { s with values:=gvals c s i })) else gvals c s i
  | none=>gvals c s i
def gatesP (c:Control) (s:State):State:={ s with values:=gvals c s c.signals.length }
theorem gvals_length (c:Control) (s:State) (i:Nat):(gvals c s i).length=s.values.length:=by
 induction i with
 | zero=>rfl
 | succ i ih=>
  simp only[gvals]
  split
  ·split
   ·simp[ih]
   ·exact ih
  ·exact ih
theorem gvals_at {c:Control}{s:State}{i:Nat}{x:Signal}(h:c.signals[i]?=some x):gvals c s (i+1)=if x.kind=0 then (gvals c s i).set i (evalE x.on (valuesOf { s with values:=gvals c s i })) else gvals c s i:=by
 simp only[gvals,h]
theorem evalL_map (vs:List Bool):∀xs:List Expr,evalL xs vs=xs.map fun x=>evalE x vs
 | []=>rfl
 | x::xs=>by simp[evalL,evalL_map vs xs]
def allT (xs:List Expr) (vs:List Bool):Bool:=xs.all fun x=>evalE x vs
def anyT (xs:List Expr) (vs:List Bool):Bool:=xs.any fun x=>evalE x vs
theorem evalL_all (xs:List Expr) (vs:List Bool):(evalL xs vs).all (·==true)=allT xs vs:=by
 rw[evalL_map,allT,List.all_map]
 congr 1
 funext x
 simp
theorem evalL_any (xs:List Expr) (vs:List Bool):(!(evalL xs vs).all (·==false))=anyT xs vs:=by
 rw[evalL_map,anyT,List.all_map,List.not_all_eq_any_not]
 congr 1
 funext x
 show (!(evalE x vs==false))=evalE x vs
 cases evalE x vs<;>rfl
def preV (s:State):List Bool:=endsV s.ends++s.inputs
theorem valuesOf_with (s:State) (l:List Bool):valuesOf { s with values:=l }=preV s++l:=rfl
theorem valuesOf_eq (s:State):valuesOf s=preV s++s.values:=rfl
theorem preV_length {c:Control}{s:State}(h:shapeS c s):((preV s).length:Int)=firstC c:=by
 obtain⟨h1,h2,h3,h4,h5⟩:=h
 have:=endsV_length s.ends
 simp[preV,firstC,this]
 omega
theorem allD_rep (n:Nat) (l:L):allD (List.replicate n [A.dat l])=true:=by simp[allD,List.all_replicate,isD]
theorem rowsD_rep (n:Nat) (l:L):rowsD (List.replicate n [A.dat l])=List.replicate n [l]:=by simp[rowsD]
attribute [simp] allD_rep rowsD_rep
def noSt:State:=⟨[],[],[],[],[]⟩
theorem CallSt.lend {g:FuncId}{az az':List A}{s:State}(h:CallSt g az' s) {H:Heap}{K:A->Heap->Prop}(τ:Nat) (hz:(frzs H az).1∧(frzs H az).2=az') (hk:∀hd,K (stA τ hd) (stH τ hd s++H)):CallS Tryz.prog g az H K:=by
 refine CallS.lend (K':=fun r H'=>∃hd,r=stA τ hd∧H'=stH τ hd s) (h.s τ fun hd=>⟨hd,rfl,by simp⟩) hz ?_
 rintro r H' ⟨hd,rfl,rfl⟩
 refine⟨by simp[stA],?_,hk hd⟩
 intro p hp
 simp only[stH,List.mem_cons,List.not_mem_nil,or_false]at hp
 rcases hp with rfl | rfl | rfl | rfl | rfl<;>simp

structure StS (p:Pln) (ct:Control) (ends:List Int) (s:State):Prop where
 valves:s.valves.length=p.drives.length
 inputs:s.inputs.length=p.butt.length
 values:s.values.length=ct.signals.length
 timers:s.timers.length=ct.signals.length
 ends:s.ends=ends
theorem line_cases {p:Pln}(hlim:∀x∈p.ps,x.kind=6->(∃q b,x.name=q++[b]∧(b=48∨b=49)∧∃k,p.drives.findIdx? (fun d=>(p.ps.getD d.1 x).name==q)=some k)) {i n:Nat}(h:p.line i=some n) :
  (kindOf p.ps i=7∧i∈p.butt∧n=2*p.drives.length+p.butt.idxOf i)∨(kindOf p.ps i=6∧n<2*p.drives.length)∨(kindOf p.ps i≠7∧kindOf p.ps i≠6∧i∈p.valv∧n=p.first+p.order.length+p.valv.idxOf i):=by
 unfold Pln.line at h
 cases hx:p.ps[i]? with
 | none=>rw[hx]at h;simp at h
 | some x=>
  rw[hx]at h
  simp only at h
  obtain⟨hi,hxe⟩:=List.getElem?_eq_some_iff.1 hx
  have hko:=kindOf_at hx
  split at h
  ·rename_i h7
   simp only[Option.some.injEq]at h
   have hk7:kindOf p.ps i=7:=by rw[hko,h7];rfl
   exact .inl ⟨hk7,mem_buttN.2 ⟨hi,hk7⟩,h.symm⟩
  ·rename_i h7
   split at h
   ·rename_i h6
    simp only[Option.some.injEq]at h
    obtain⟨q,b,hq,_,k,hk⟩:=hlim x (List.mem_of_getElem? hx) h6
    rw[hq]at h
    simp only[List.dropLast_concat]at h
    have hkl:=(List.findIdx?_eq_some_iff_getElem.1 hk).1
    rw[List.findIdx?_eq_some_iff_findIdx_eq]at hk
    rw[hk.2]at h
    refine .inr (.inl ⟨by rw[hko,h6];rfl,?_⟩)
    split at h<;>omega
   ·split at h
    ·rename_i h6 hm
     simp only[Option.some.injEq]at h
     have hpk:=(mem_valvN.1 hm).2.1
     refine .inr (.inr ⟨fun e=>?_,fun e=>?_,hm,h.symm⟩)
     ·rw[e]at hpk;exact hpk rfl
     ·rw[e]at hpk;exact hpk rfl
    ·simp at h
theorem idx_find {l:List Nat}{i:Nat}(h:i∈l):l.findIdx? (i==·)=some (l.idxOf i):=by
 rw[List.findIdx?_eq_some_iff_findIdx_eq]
 refine⟨List.idxOf_lt_length_of_mem h,?_⟩
 unfold List.idxOf
 congr 1
 funext x
 rw[Bool.eq_iff_iff]
 simp only[beq_iff_eq]
 exact eq_comm
theorem placeR_fn {c:Cir}(h:PlR c) {i n:Nat}(hn:(planZ c).line i=some n) (hi:i<c.parts.length):CallFn Tryz.prog 396 [.record (encPl (planZ c) c.pipes),aI i] (aI n):=by
 have hB:=planZ_B h.cir
 have hf:=firstR_fn h
 have hbu:=Buttons_o h.cir
 have hva:=Valves_fn h.cir (d:=(planZ c).drives) (by have:=hB.dl;omega)
 have hdl:=hB.dl
 have hol:=hB.ol
 have hbl:=hB.bl
 have hvl:=hB.vl
 have hfl:=hB.fl
 have hlim:=planZ_lim h.cir
 have hps:(planZ c).ps=c.parts:=rfl
 have hdm:=fun d (hd:d∈(planZ c).drives)=>(mem_drvN h.drv hd).1
 obtain⟨x,hx⟩:∃x,c.parts[i]=x:=⟨_,rfl⟩
 have hxo:c.parts[i]?=some x:=by rw[List.getElem?_eq_getElem hi,hx]
 obtain⟨hk,hk14⟩:=kind_of h.cir hxo
 have hxm:=List.mem_of_getElem? hxo
 have hxl:=(part_len (h.cir.part x hxm)).1
 change CallFn _ _ _ (aNs (planZ c).butt) at hbu
 change CallFn _ _ _ (aNs (planZ c).valv) at hva
 rcases line_cases hlim hn with⟨hk7,hm,hne⟩|⟨hk6,hne⟩|⟨hk7,hk6,hm,hne⟩
 ·change kindOf c.parts i=7 at hk7
  have hx7:x.kind=7:=by omega
  have hat:=at_fn (planZ c).butt i (by unfold Sh;omega)
  have hj:=List.idxOf_lt_length_of_mem hm
  have hje:(planZ c).butt.findIdx? (i==·)=some ((planZ c).butt.idxOf i):=idx_find hm
  rw[hje]at hat
  generalize (planZ c).butt.idxOf i=j at *
  generalize (planZ c).butt=bu at *
  subst hne
  refine callFz_of Tryz.func396 rfl Tryz.ntmps396 (rs:=[.tmp 4]) rfl (by kernel_rfl) (by simp) (by kernel_rfl) ?_
  simp[hps,hi,hx,hxo,hx7]
  intro b5
  refine V.drawX (fun t=>if t=23 then some (.fn (aNs bu)) else if t=25 then some (.fn (aI j)) else none) (by kernel_rfl) (by kernel_rfl) (by simp) ?_
  simp[hps]
  exact⟨⟨by omega,by omega⟩,hbu,hat,by omega,by omega⟩
 ·change kindOf c.parts i=6 at hk6
  have hx6:x.kind=6:=by omega
  obtain⟨q,b,hq,hb,kx,hkx⟩:=hlim x hxm hx6
  have hline:(planZ c).line i=some (2*kx+if b=49 then 1 else 0):=by
   unfold Pln.line
   rw[hps,hxo]
   simp only
   rw[if_neg (by omega),if_pos hx6,hq]
   simp only[List.dropLast_concat,List.getLast?_append,List.getLast?_singleton,Option.some_or,Option.some.injEq]
   rw[List.findIdx?_eq_some_iff_findIdx_eq]at hkx
   rw[hkx.2]
  rw[hline]at hn
  simp only[Option.some.injEq]at hn
  subst hn
  have hpd:=fun d (hd:d∈(planZ c).drives)=>hdm d hd
  generalize hDR:(planZ c).drives=DR at *
  obtain⟨x1,x2,x3⟩:=x
  simp only at hx6 hq hxl
  subst hx6
  subst hq
  simp at hxl
  refine callFz_of Tryz.func396 rfl Tryz.ntmps396 (rs:=[.tmp 4]) rfl (by kernel_rfl) (by simp) (by kernel_rfl) ?_
  simp[hps,hi,hx,hxo,hDR]
  intro b5
  refine V.forI (σ:=Unit) DR.length [2,4,5,6] (by simp;exact rfl) (fun n _=>[(7,aI n)]) (fun _ _=>[(5,.box b5 [aI 6,aT (q++[b]),aI x3])]) (fun n _=>NoF (fun d:Drv=>(c.parts.getD d.1 ⟨6,q++[b],x3⟩).name==q) (DR.take n)) () (by simp) (by simp) ⟨by simp;exact rfl,by simp⟩ ?_ ?_
  ·rintro n ⟨⟩ hn hI
   obtain⟨d,hd⟩:∃d,DR[n]=d:=⟨_,rfl⟩
   have hdo:DR[n]?=some d:=by rw[List.getElem?_eq_getElem hn,hd]
   have hs:=findIdx_step (p:=fun d:Drv=>(c.parts.getD d.1 ⟨6,q++[b],x3⟩).name==q) hI hdo
   have hdl1:=hpd d (List.mem_of_getElem? hdo)
   obtain⟨y,hy⟩:∃y,c.parts[d.1]=y:=⟨_,rfl⟩
   have hyo:c.parts[d.1]?=some y:=by rw[List.getElem?_eq_getElem hdl1,hy]
   rw[List.getD_eq_getElem?_getD,hyo,Option.getD_some]at hs
   simp[hn,hd,hdo,hDR]
   refine V.drawX (fun _=>none) (by kernel_rfl) (by kernel_rfl) (by simp) ?_
   simp[hps,hn,hd,hdo,hDR,hdl1,hy,hyo]
   refine⟨by omega,fun e=>?_,fun e=>⟨⟨by omega,by omega⟩,?_⟩⟩
   ·have h1:=hs.2 (by rw[e];simp)
    rw[hkx]at h1
    cases h1
    rcases hb with rfl | rfl
    ·refine⟨⟨by omega,by omega⟩,by omega,by omega,⟨by decide,by decide⟩,⟨by decide,by decide⟩,⟨by simp;omega,by simp;omega⟩,by simp⟩
    ·refine⟨⟨by omega,by omega⟩,by omega,by omega,⟨by decide,by decide⟩,⟨by decide,by decide⟩,⟨by simp;omega,by simp;omega⟩,by simp⟩
   ·have:=hs.1 (by simpa using e)
    simpa using this
  ·rintro⟨⟩ hI
   have:=findIdx_none hI
   rw[hkx]at this
   cases this
 ·change kindOf c.parts i≠7 at hk7
  change kindOf c.parts i≠6 at hk6
  have hx7:¬x.kind=7:=by omega
  have hx6:¬x.kind=6:=by omega
  have hat:=at_fn (planZ c).valv i (by unfold Sh;omega)
  have hj:=List.idxOf_lt_length_of_mem hm
  have hje:(planZ c).valv.findIdx? (i==·)=some ((planZ c).valv.idxOf i):=idx_find hm
  rw[hje]at hat
  generalize (planZ c).valv.idxOf i=j at *
  generalize (planZ c).valv=va at *
  subst hne
  refine callFz_of Tryz.func396 rfl Tryz.ntmps396 (rs:=[.tmp 4]) rfl (by kernel_rfl) (by simp) (by kernel_rfl) ?_
  simp[hps,hi,hx,hxo,hx7,hx6]
  intro b5
  refine V.drawX (fun t=>if t=31 then some (.fn (aI (planZ c).first)) else if t=40 then some (.fn (aNs va)) else if t=42 then some (.fn (aI j)) else none) (by kernel_rfl) (by kernel_rfl) (by simp) ?_
  simp[hps]
  exact⟨hf,⟨by omega,by omega⟩,hva,hat,by omega,by omega⟩
theorem manyK_line {c:Cir}(h:PlR c) {i:Nat}(hi:i<c.parts.length) (hm:1<manyK (kindOf c.parts i)) (hd:drivenZ (planZ c).drives i=none):∃n,(planZ c).line i=some n:=by
 obtain⟨x,hx⟩:∃x,c.parts[i]=x:=⟨_,rfl⟩
 have hxo:c.parts[i]?=some x:=by rw[List.getElem?_eq_getElem hi,hx]
 obtain⟨hk,hk14⟩:=kind_of h.cir hxo
 have hps:(planZ c).ps=c.parts:=rfl
 unfold Pln.line
 rw[hps,hxo]
 simp only
 by_cases h7:x.kind=7
 ·rw[if_pos h7];exact⟨_,rfl⟩
 ·rw[if_neg h7]
  by_cases h6:x.kind=6
  ·rw[if_pos h6];exact⟨_,rfl⟩
  ·rw[if_neg h6]
   have hp:plusK (kindOf c.parts i)≠[]:=by
    have h7':kindOf c.parts i≠7:=by omega
    have h6':kindOf c.parts i≠6:=by omega
    revert hm h7' h6'
    generalize kindOf c.parts i=k at hk14
    revert k
    refine k_cases ⟨?_,?_,?_,?_,?_,?_,?_,?_,?_,?_,?_,?_,?_,?_⟩<;>decide
   have hmv:i∈(planZ c).valv:=mem_valvN.2 ⟨hi,hp,hd⟩
   rw[if_pos hmv]
   exact⟨_,rfl⟩
theorem term_d {c:Cir}(g:Gift) (b4:Nat) (u v:Value) (Ls Ms:List Expr) (hL:Ls.length<=2) (hM:Ms.length<=2):V ⟨Tryz.prog,none,73⟩ (restC Tryz.f354 4)
  (hdE [(2,.rptr (encPl (planZ c) c.pipes)),(3,.rptr (encGf g)),(4,.ptr 4 b4 0),(5,.own 32 u),(6,.own 54 v)] []) [(54,.seq v 61 3 (Ms.map rE)),(32,.seq u 61 3 (Ls.map rE)),(4,.box b4 [aI 0,aI 0,.nils])]
  (RetV Tryz.prog [.cell 4 61] fun r' H'=>(frz H' r').1∧(frz H' r').2=aE (sevE 3 (Ls++(if g.pass.all=true then Ms else [sevE 4 Ms])))):=by
 have h4:=joinedR_fn 4 Ms (by omega)
 have h3:=joinedR_fn 3 (Ls++(if g.pass.all=true then Ms else [sevE 4 Ms])) (by split<;>simp<;>omega)
 obtain⟨Z,hZ⟩:∃Z,sevE 3 (Ls++(if g.pass.all=true then Ms else [sevE 4 Ms]))=Z:=⟨_,rfl⟩
 rw[hZ]at h3 ⊢
 refine V.rest rfl ?_
 refine V.frz1 (τ:=54) (h:=v) (e:=61) (sz:=3) (rows:=Ms.map rE) 6 rfl rfl (allD_E _) ?_
 rw[rowsD_E]
 refine V.of_vc ?_
 simp
 refine⟨fun hc u'=>?_,fun hall hlen=>?_⟩
 ·have e:(if g.pass.all=true then Ms else [sevE 4 Ms])=Ms:=by
   cases hall:g.pass.all with
   | true=>rfl
   | false=>
    rw[hall]at hc
    simp at hc
    cases Ms with
    | nil=>simp at hc
    | cons m Ms=>
     cases Ms with
     | nil=>rfl
     | cons m2 Ms=>
      simp at hc
      omega
  rw[e]at h3
  rw[mapE]
  refine⟨⟨?_,by omega⟩,h3.give (Hc:=[(32,_)]) (Hr:=[(4,.box b4 [aI 0,aI 0,.nils])]) rfl (by simp[frzs,frz]) ?_⟩
  ·intro y hy
   obtain⟨x,_,rfl⟩:=List.mem_map.1 hy
   simp[encE_eq]
  ·simp
 ·rw[if_neg (by simp[hall])]at h3
  obtain⟨x,hx⟩:∃x,sevE 4 Ms=x:=⟨_,rfl⟩
  rw[hx]at h4 h3
  refine h4.s ?_
  simp
  intro u'
  refine⟨by omega,h3.give (Hc:=[(32,_)]) (Hr:=[(4,.box b4 [aI 0,aI 0,.nils])]) rfl (by simp[frzs,frz,encE_eq]) ?_⟩
  simp
theorem term_e {c:Cir}(h:PlR c) {g:Gift}(hsl:g.pass.src.length<=2) (hsrc:∀t∈g.pass.src,((g.part:Int),t)∈allP c.parts) (b4:Nat) (u:Value) (Ls:List Expr) (hL:Ls.length<=2):V ⟨Tryz.prog,none,73⟩ (restC Tryz.f354 3)
  (hdE [(2,.rptr (encPl (planZ c) c.pipes)),(3,.rptr (encGf g)),(4,.ptr 4 b4 0),(5,.own 32 u),(6,.nils)] []) [(32,.seq u 61 3 (Ls.map rE)),(4,.box b4 [aI 0,aI 0,.nils])]
  (RetV Tryz.prog [.cell 4 61] fun r' H'=>(frz H' r').1∧(frz H' r').2=aE (sevE 3 (Ls++(if g.pass.all=true then g.pass.src.map ((planZ c).gate g.part) else [sevE 4 (g.pass.src.map ((planZ c).gate g.part))])))):=by
 have hgt:=fun t ht=>gateR_fn h (i:=g.part) (t:=t) (hsrc t ht)
 refine V.rest rfl ?_
 refine V.of_vcN 1 ?_
 simp
 refine V.forI (σ:=Value) g.pass.src.length [2,3,4,5] (by simp;exact rfl) (fun i v=>[(6,.own 54 v),(8,aI i)]) (fun i v=>[(54,.seq v 61 3 (((g.pass.src.take i).map ((planZ c).gate g.part)).map rE)),(32,.seq u 61 3 (Ls.map rE)),(4,.box b4 [aI 0,aI 0,.nils])]) (fun _ _=>True) (.slice none 0 0) trivial (by simp) ⟨by simp;exact rfl,by simp⟩ ?_ ?_
 ·rintro i v hi -
  obtain⟨t,ht⟩:∃t,g.pass.src[i]=t:=⟨_,rfl⟩
  have hto:g.pass.src[i]?=some t:=by rw[List.getElem?_eq_getElem hi,ht]
  have hg:=hgt t (List.mem_of_getElem? hto)
  have e1:((g.pass.src.take (i+1)).map ((planZ c).gate g.part))=(g.pass.src.take i).map ((planZ c).gate g.part)++[(planZ c).gate g.part t]:=by
   rw[List.take_add_one,hto,List.map_append]
   rfl
  have hW:((g.pass.src.take i).map ((planZ c).gate g.part)).length<=2:=by rw[List.length_map,List.length_take];omega
  rw[e1]
  generalize (g.pass.src.take i).map ((planZ c).gate g.part)=W at *
  generalize (planZ c).gate g.part t=G at *
  simp[hi,ht,hto]
  refine V.drawX (fun k=>if k=52 then some (.fn (aE G)) else none) (by kernel_rfl) (by kernel_rfl) (by simp) ?_
  simp[hi,ht,hto]
  exact⟨hg,by omega,by omega,by omega⟩
 ·rintro v -
  rw[List.take_length]
  simp
  exact V.cutV (Hs:=[(54,.seq v 61 3 ((g.pass.src.map ((planZ c).gate g.part)).map rE)),(32,.seq u 61 3 (Ls.map rE)),(4,.box b4 [aI 0,aI 0,.nils])]) [(2,.rptr (encPl (planZ c) c.pipes)),(3,.rptr (encGf g)),(4,.ptr 4 b4 0),(5,.own 32 u),(6,.own 54 v)] (by simp) (by simp) (V.of_rest rfl (term_d (c:=c) g b4 u v Ls (g.pass.src.map ((planZ c).gate g.part)) hL (by simpa using hsl)))
theorem termR_fn {c:Cir}(h:PlR c) {g:Gift}(hg:g.part<c.parts.length) (hd:drivenZ (planZ c).drives g.part=none) (hsl:g.pass.src.length<=2) (hsrc:∀t∈g.pass.src,((g.part:Int),t)∈allP c.parts) :
  CallFn Tryz.prog 354 [.record (encPl (planZ c) c.pipes),.record (encGf g)] (aE ((planZ c).term g)):=by
 obtain⟨x,hx⟩:∃x,c.parts[g.part]=x:=⟨_,rfl⟩
 have hxo:c.parts[g.part]?=some x:=by rw[List.getElem?_eq_getElem hg,hx]
 obtain⟨hk,hk14⟩:=kind_of h.cir hxo
 have hmy:=Many_fn (kindOf c.parts g.part) hk14
 rw[<- hk]at hmy
 have hgt:=fun t ht=>gateR_fn h (i:=g.part) (t:=t) (hsrc t ht)
 have hps:(planZ c).ps=c.parts:=rfl
 have hmt:(planZ c).term g=sevE 3 ((planZ c).posL g++(if g.pass.all=true then g.pass.src.map ((planZ c).gate g.part) else [sevE 4 (g.pass.src.map ((planZ c).gate g.part))])):=rfl
 rw[hmt]
 have hrest:=fun b4 u Ls hL=>term_e h hsl hsrc b4 u Ls hL
 generalize (if g.pass.all=true then g.pass.src.map ((planZ c).gate g.part) else [sevE 4 (g.pass.src.map ((planZ c).gate g.part))])=T at hrest ⊢
 refine callFz_cut 3 Tryz.func354 rfl Tryz.ntmps354 (rs:=[.cell 4 61]) rfl (by kernel_rfl) (by simp) (by kernel_rfl) ?_
 simp[hps,hg,hx,hxo]
 intro b4
 refine hmy.s ?_
 simp
 refine⟨fun hm=>?_,fun hm=>?_⟩
 ·obtain⟨n,hn⟩:=manyK_line h hg (by omega) hd
  have hpl:=placeR_fn h hn hg
  have hp:(planZ c).posL g=[if g.pos=0 then notE (varE ((n:Nat):Int)) else varE ((n:Nat):Int)]:=by
   unfold Pln.posL
   rw[hps,if_pos (by omega),hn]
   rfl
  rw[hp]
  obtain⟨y,hy⟩:∃y,varE (n:Int)=y:=⟨_,rfl⟩
  have hv:=variableR_fn n
  have hop:=turned_fn y
  rw[hy]at hv ⊢
  refine hpl.s ?_
  simp
  refine hv.s ?_
  simp
  intro b7
  refine⟨fun h0=>?_,fun h0=>?_⟩
  ·refine hop.s ?_
   rw[if_pos h0]
   obtain⟨z,hz⟩:∃z,notE y=z:=⟨_,rfl⟩
   rw[hz]
   simp
   intro u
   exact V.cutV (Hs:=[(32,.seq u 61 3 ([z].map rE)),(4,.box b4 [aI 0,aI 0,.nils])]) [(2,.rptr (encPl (planZ c) c.pipes)),(3,.rptr (encGf g)),(4,.ptr 4 b4 0),(5,.own 32 u),(6,.nils)] (by simp) (by simp) (V.of_rest rfl (hrest b4 u [z] (by simp)))
  ·rw[if_neg h0]
   simp
   intro u
   exact V.cutV (Hs:=[(32,.seq u 61 3 ([y].map rE)),(4,.box b4 [aI 0,aI 0,.nils])]) [(2,.rptr (encPl (planZ c) c.pipes)),(3,.rptr (encGf g)),(4,.ptr 4 b4 0),(5,.own 32 u),(6,.nils)] (by simp) (by simp) (V.of_rest rfl (hrest b4 u [y] (by simp)))
 ·have hp:(planZ c).posL g=[]:=by
   unfold Pln.posL
   rw[hps,if_neg (by omega)]
  rw[hp]
  exact V.cutV (Hs:=[(32,.seq (.slice none 0 0) 61 3 (([]:List Expr).map rE)),(4,.box b4 [aI 0,aI 0,.nils])]) [(2,.rptr (encPl (planZ c) c.pipes)),(3,.rptr (encGf g)),(4,.ptr 4 b4 0),(5,.own 32 (.slice none 0 0)),(6,.nils)] (by simp) (by simp) (V.of_rest rfl (hrest b4 (.slice none 0 0) [] (by simp)))
end Go.Proofs.YtafamcbdaeppoaaGreatDoor
