/- Texts joined by a program: Ec,Ed,Ee,Qr,Ef,Cg,Eg,Eh,Qs,Of. -/
import Derived.Test.YtpadinblmjlggaaGreatDoorW21
import Derived.Test.YtpadinblmjlggaaGreatDoorW15
import Derived.Test.YtpadinblmjlggaaGreatDoorW16
import Derived.Test.YtpadinblmjlggaaGreatDoorW18
set_option linter.unusedSimpArgs false
set_option linter.unusedVariables false
set_option maxHeartbeats 8000000
set_option maxRecDepth 10000
namespace Go.Proofs.YtpadinblmjlggaaGreatDoor
theorem comp_B:((fun x=>List.map A.dat x)∘encB)=rB:=rfl
theorem comp_I:((fun x=>List.map A.dat x)∘encI)=rI:=rfl
attribute [simp] comp_B comp_I
def endsV (l:List Int):List Bool:=l.flatMap fun x=>[x==0,x==2]
def valuesOf (s:State):List Bool:=endsV s.ends++s.inputs++s.values
theorem endsV_take {l:List Int}{i:Nat}{x:Int}(h:l[i]?=some x):endsV (l.take (i+1))=endsV (l.take i)++[x==0,x==2]:=by
 rw[List.take_add_one,h]
 simp[endsV]
theorem endsV_length (l:List Int):(endsV l).length=2*l.length:=by
 induction l with
 | nil=>rfl
 | cons x l ih=>simp only[endsV,List.flatMap_cons,List.length_append]at ih ⊢;rw[ih];simp;omega
structure SmS (s:State):Prop where
 ends:s.ends.length<=1000000
 valves:s.valves.length<=1000000
 inputs:s.inputs.length<=1000000
 values:s.values.length<=1000000
 timers:s.timers.length<=1000000
theorem values_o (s:State) (h:SmS s):CallOwn Tryz.prog 108 [aSt s] 4 1 ((valuesOf s).map rB):=by
 obtain⟨h1,h2,h3,h4,h5⟩:=h
 refine callO_of Tryz.func108 rfl Tryz.ntmps108 (rs:=[.tmp 2]) rfl (by kernel_rfl) (by simp) (by kernel_rfl) ?_
 simp
 refine V.forI (σ:=Value) s.ends.length [1,2,7,8] (by simp;exact rfl) (fun i g=>[(9,aI i),(3,.own 50 g)]) (fun i g=>[(50,.seq g 4 1 ((endsV (s.ends.take i)).map rB))]) (fun _ _=>True) (.slice none 0 0) trivial (by simp) ⟨by simp;exact rfl,by simp[endsV]⟩ ?_ ?_
 ·rintro i g hi -
  obtain⟨x,hx⟩:∃x,s.ends[i]=x:=⟨_,rfl⟩
  have hs:=endsV_take (show s.ends[i]?=some x by rw[List.getElem?_eq_getElem hi,hx])
  have hl:=endsV_length (s.ends.take i)
  rw[List.length_take]at hl
  rw[hs]
  generalize endsV (s.ends.take i)=zs at hl ⊢
  simp[hi,hx]
  omega
 ·rintro g -
  have hl:=endsV_length s.ends
  rw[List.take_length]
  have hv:valuesOf s=endsV s.ends++s.inputs++s.values:=rfl
  rw[hv]
  generalize endsV s.ends=zs at hl ⊢
  simp
  refine V.draw (fun _=>none) (by kernel_rfl) (by kernel_rfl) (by simp) ?_
  simp
  omega
theorem ValuesR_o (c:Control) (s:State) (h:SmS s) (ha:c.actuators=s.ends.length):CallOwn Tryz.prog 27 [aC c,aSt s] 4 1 ((valuesOf s).map rB):=by
 obtain⟨h1,h2,h3,h4,h5⟩:=h
 refine callO_of Tryz.func27 rfl Tryz.ntmps27 (rs:=[.tmp 4]) rfl (by kernel_rfl) (by simp) (by kernel_rfl) ?_
 simp
 refine V.forI (σ:=Value) s.ends.length [2,3,4] (by simp;exact rfl) (fun i g=>[(6,aI i),(5,.own 50 g)]) (fun i g=>[(50,.seq g 4 1 ((endsV (s.ends.take i)).map rB))]) (fun _ _=>True) (.slice none 0 0) trivial (by simp) ⟨by simp;exact rfl,by simp[endsV]⟩ ?_ ?_
 ·rintro i g hi -
  obtain⟨x,hx⟩:∃x,s.ends[i]=x:=⟨_,rfl⟩
  have hs:=endsV_take (show s.ends[i]?=some x by rw[List.getElem?_eq_getElem hi,hx])
  have hl:=endsV_length (s.ends.take i)
  have hia:(i:Int)<c.actuators:=by omega
  rw[List.length_take]at hl
  rw[hs]
  generalize endsV (s.ends.take i)=zs at hl ⊢
  simp[hi,hia]
  refine V.draw (fun _=>none) (by kernel_rfl) (by kernel_rfl) (by simp) ?_
  simp[hi,hx]
  omega
 ·rintro g -
  have hl:=endsV_length s.ends
  rw[List.take_length]
  have hv:valuesOf s=endsV s.ends++s.inputs++s.values:=rfl
  rw[hv]
  generalize endsV s.ends=zs at hl ⊢
  simp[ha]
  omega
def outR (m n:Int):Bool:=decide (n<0)||decide (m<=n)
theorem unknown_fn (m:Int):CallFn Tryz.prog 169 [aI m] (.fn 170 [] [.rptr [.int .i64 m]]):=by
 refine callFz_of Tryz.func169 rfl Tryz.ntmps169 (rs:=[.tmp 2]) rfl (by kernel_rfl) (by simp) (by kernel_rfl) ?_
 simp
theorem unknown1_fn (m n:Int):CallFn Tryz.prog 170 [aI n,.rptr [.int .i64 m]] (aB (outR m n)):=by
 refine callFz_of Tryz.func170 rfl Tryz.ntmps170 (rs:=[.tmp 3]) rfl (by kernel_rfl) (by simp) (by kernel_rfl) ?_
 simp[outR]
def tstE (x:Signal) (v:Bool) (t:Int):Int:=if (x.kind≠2∧t≠0)∨(x.kind=2∧v≠(t==2)) then 14 else 0
def tsE (c:Control) (s:State) (i:Nat):Int:=match c.signals[i]?,s.values[i]?,s.timers[i]? with
 | some x,some v,some t=>tstE x v t
 | _,_,_=>0
def shapeS (c:Control) (s:State):Prop:=(s.ends.length:Int)=c.actuators∧(s.valves.length:Int)=c.actuators∧s.inputs.length=c.inputs.length∧s.values.length=c.signals.length∧s.timers.length=c.signals.length
instance (c:Control) (s:State):Decidable (shapeS c s):=by unfold shapeS;exact inferInstance
def fitsSt (c:Control) (s:State):Int:=
 if ¬shapeS c s then 8
 else if s.ends.any (outR 4)||s.timers.any (outR 3) then 1
 else firstErr (tsE c s) (List.range s.timers.length)
theorem fits_fn (c:Control) (s:State) (hs:SmS s):CallFn Tryz.prog 106 [aC c,aSt s] (aI (fitsSt c s)):=by
 refine callFz_of Tryz.func106 rfl Tryz.ntmps106 (rs:=[.tmp 4]) rfl (by kernel_rfl) (by simp) (by kernel_rfl) ?_
 have hsm:=hs
 obtain⟨g1,g2,g3,g4,g5⟩:=hs
 by_cases hsh:shapeS c s
 ·have e:fitsSt c s=if s.ends.any (outR 4)||s.timers.any (outR 3) then 1 else firstErr (tsE c s) (List.range s.timers.length):=by rw[fitsSt,if_neg (by simpa using hsh)]
  obtain⟨h1,h2,h3,h4,h5⟩:=hsh
  simp[h1,h2,h3,h4,h5]
  have c1:=unknown_fn 4
  have c2:=unknown_fn 3
  have c3:=containsF_fn s.ends (outR 4) 170 [] [.rptr [.int .i64 4]] (by omega) (fun n _=>by simpa using unknown1_fn 4 n)
  have c4:=containsF_fn s.timers (outR 3) 170 [] [.rptr [.int .i64 3]] (by omega) (fun n _=>by simpa using unknown1_fn 3 n)
  obtain⟨be,hbe⟩:∃b,s.ends.any (outR 4)=b:=⟨_,rfl⟩
  obtain⟨bt,hbt⟩:∃b,s.timers.any (outR 3)=b:=⟨_,rfl⟩
  rw[hbe]at c3 e
  rw[hbt]at c4 e
  refine V.draw (fun t=>if t=53 then some (.fn (.fn 170 [] [.rptr [.int .i64 4]])) else if t=54 then some (.fn (aB be)) else if t=59 then some (.fn (.fn 170 [] [.rptr [.int .i64 3]])) else if t=60 then some (.fn (aB bt)) else none) (by kernel_rfl) (by kernel_rfl) (by simp) ?_
  simp[c1,c2,c3,c4]
  refine⟨fun h=>by rcases h with rfl | rfl<;>simp[e],?_⟩
  rintro rfl rfl
  simp at e
  refine V.forI (σ:=Unit) s.timers.length [2,3,63,64] (by simp;exact rfl) (fun i _=>[(65,aI i)]) (fun _ _=>[]) (fun i _=>NoE (tsE c s) i) () (NoE.zero _) (by simp[h5]) ⟨by simp;exact rfl,by simp⟩ ?_ ?_
  ·rintro i-hi hI
   obtain⟨x,hx⟩:∃x,c.signals[i]'(by omega)=x:=⟨_,rfl⟩
   obtain⟨v,hv⟩:∃v,s.values[i]'(by omega)=v:=⟨_,rfl⟩
   obtain⟨t,ht⟩:∃t,s.timers[i]=t:=⟨_,rfl⟩
   have hxo:c.signals[i]?=some x:=by rw[List.getElem?_eq_getElem (by omega),hx]
   have hvo:s.values[i]?=some v:=by rw[List.getElem?_eq_getElem (by omega),hv]
   have hto:s.timers[i]?=some t:=by rw[List.getElem?_eq_getElem (by omega),ht]
   have hE:tsE c s i=tstE x v t:=by simp only[tsE,hxo,hvo,hto]
   have hic:i<c.signals.length:=by omega
   have hiv:i<s.values.length:=by omega
   by_cases hbad:(x.kind≠2∧t≠0)∨(x.kind=2∧v≠(t==2))
   ·have hz:tsE c s i=14:=by rw[hE,tstE,if_pos hbad]
    have hf:=firstErr_at hI hi (by rw[hz];decide)
    have e':fitsSt c s=14:=by rw[e,hf,hz]
    simp[<- h5,hi,hx,hv,ht,hic,hiv,e',h4]
    exact⟨fun h=>⟨h,fun h2=>⟨h,h2⟩⟩,fun a b=>by
     rcases hbad with⟨p,q⟩|⟨p,q⟩
     ·exact absurd (a p) q
     ·exact absurd (b p) q⟩
   ·have hz:tsE c s i=0:=by rw[hE,tstE,if_neg hbad]
    simp[<- h5,hi,hx,hv,ht,hic,hiv,h4]
    have hn:=hI.succ hz
    exact⟨fun h=>⟨h,fun h2=>⟨h,h2⟩⟩,fun hb=>absurd hb hbad,fun _ _=>⟨by omega,hn⟩⟩
  ·rintro-hI
   have hf:=firstErr_all hI
   rw[hf]at e
   simp[e,h5]
 ·have e:fitsSt c s=8:=by rw[fitsSt,if_pos hsh]
  rw[e]
  simp
  unfold shapeS at hsh
  intros
  omega
theorem NoF.snoc' {α:Type}{p:α->Bool}{xs:List α}{i:Nat}{x:α}(h:NoF p (xs.take i)) (hx:xs[i]?=some x) (hp:p x=false):NoF p (xs.take (i+1)):=by
 rw[List.take_add_one,hx]
 intro y hy
 simp only[Option.toList_some,List.mem_append,List.mem_singleton]at hy
 rcases hy with hy | rfl
 ·exact h y hy
 ·exact hp
theorem any_at {α:Type}{p:α->Bool}{xs:List α}{i:Nat}{x:α}(hx:xs[i]?=some x) (hp:p x=true):xs.any p=true:=by
 rw[List.any_eq_true]
 exact⟨x,List.mem_of_getElem? hx,hp⟩
theorem fitsR_fn (c:Control) (s:State) (hs:SmS s):CallFn Tryz.prog 66 [aC c,aSt s] (aI (fitsSt c s)):=by
 refine callFz_of Tryz.func66 rfl Tryz.ntmps66 (rs:=[.tmp 4]) rfl (by kernel_rfl) (by simp) (by kernel_rfl) ?_
 have hsm:=hs
 obtain⟨g1,g2,g3,g4,g5⟩:=hs
 by_cases hsh:shapeS c s
 ·have e:fitsSt c s=if s.ends.any (outR 4)||s.timers.any (outR 3) then 1 else firstErr (tsE c s) (List.range s.timers.length):=by rw[fitsSt,if_neg (by simpa using hsh)]
  obtain⟨h1,h2,h3,h4,h5⟩:=hsh
  simp[h1,h2,h3,h4,h5]
  refine V.forI (σ:=Unit) s.ends.length [2,3] (by simp;exact rfl) (fun i _=>[(5,aI i)]) (fun _ _=>[]) (fun i _=>NoF (outR 4) (s.ends.take i)) () (by simp[NoF]) (by simp) ⟨by simp;exact rfl,by simp⟩ ?_ ?_
  ·rintro i-hi hI
   obtain⟨x,hx⟩:∃x,s.ends[i]=x:=⟨_,rfl⟩
   have hxo:s.ends[i]?=some x:=by rw[List.getElem?_eq_getElem (by omega),hx]
   by_cases hb:outR 4 x=true
   ·have e':fitsSt c s=1:=by rw[e,any_at hxo hb];rfl
    simp[outR]at hb
    simp[hi,hx,e']
    intro a b
    omega
   ·have hn:=hI.snoc' hxo (by simpa using hb)
    simp[outR]at hb
    obtain⟨b1,b2⟩:=hb
    simp[hi,hx,hn,b1,b2,Int.not_lt.2 b1]
    omega
  ·rintro-hI
   rw[List.take_length]at hI
   have ha:=hI.any
   rw[ha]at e
   simp at e
   simp
   refine V.forI (σ:=Unit) s.timers.length [2,3] (by simp;exact rfl) (fun i _=>[(6,aI i)]) (fun _ _=>[]) (fun i _=>NoF (outR 3) (s.timers.take i)) () (by simp[NoF]) (by simp) ⟨by simp;exact rfl,by simp⟩ ?_ ?_
   ·rintro i-hi hI
    obtain⟨x,hx⟩:∃x,s.timers[i]=x:=⟨_,rfl⟩
    have hxo:s.timers[i]?=some x:=by rw[List.getElem?_eq_getElem (by omega),hx]
    by_cases hb:outR 3 x=true
    ·have e':fitsSt c s=1:=by rw[e,if_pos];obtain⟨y,hy,hp⟩:=List.any_eq_true.1 (any_at hxo hb);exact⟨y,hy,hp⟩
     simp[outR]at hb
     simp[hi,hx,e',<- h5]
     intro a b
     omega
    ·have hn:=hI.snoc' hxo (by simpa using hb)
     simp[outR]at hb
     obtain⟨b1,b2⟩:=hb
     simp[hi,hx,hn,b1,b2,Int.not_lt.2 b1,<- h5]
     omega
   ·rintro-hI
    rw[List.take_length]at hI
    have hb:¬ ∃x,x∈s.timers∧outR 3 x=true:=by
     rintro⟨y,hy,hp⟩
     rw[hI y hy]at hp
     cases hp
    rw[if_neg hb]at e
    simp[h5]
    refine V.forI (σ:=Unit) s.timers.length [2,3] (by simp;exact rfl) (fun i _=>[(7,aI i)]) (fun _ _=>[]) (fun i _=>NoE (tsE c s) i) () (NoE.zero _) (by simp) ⟨by simp;exact rfl,by simp⟩ ?_ ?_
    ·rintro i-hi hI
     obtain⟨x,hx⟩:∃x,c.signals[i]'(by omega)=x:=⟨_,rfl⟩
     obtain⟨v,hv⟩:∃v,s.values[i]'(by omega)=v:=⟨_,rfl⟩
     obtain⟨t,ht⟩:∃t,s.timers[i]=t:=⟨_,rfl⟩
     have hxo:c.signals[i]?=some x:=by rw[List.getElem?_eq_getElem (by omega),hx]
     have hvo:s.values[i]?=some v:=by rw[List.getElem?_eq_getElem (by omega),hv]
     have hto:s.timers[i]?=some t:=by rw[List.getElem?_eq_getElem (by omega),ht]
     have hE:tsE c s i=tstE x v t:=by simp only[tsE,hxo,hvo,hto]
     have hic:i<c.signals.length:=by omega
     have hiv:i<s.values.length:=by omega
     by_cases hbad:(x.kind≠2∧t≠0)∨(x.kind=2∧v≠(t==2))
     ·have hz:tsE c s i=14:=by rw[hE,tstE,if_pos hbad]
      have hf:=firstErr_at hI hi (by rw[hz];decide)
      have e':fitsSt c s=14:=by rw[e,hf,hz]
      simp[<- h5,hi,hx,hv,ht,hic,hiv,h4]
      refine V.draw (fun _=>none) (by kernel_rfl) (by kernel_rfl) (by simp) ?_
      simp[<- h5,hi,hx,hv,ht,hic,hiv,e',h4]
      exact⟨fun h=>⟨h,fun h2=>⟨h,h2⟩⟩,fun a b=>by
       rcases hbad with⟨p,q⟩|⟨p,q⟩
       ·exact absurd (a p) q
       ·exact absurd (b p) q⟩
     ·have hz:tsE c s i=0:=by rw[hE,tstE,if_neg hbad]
      have hn:=hI.succ hz
      simp[<- h5,hi,hx,hv,ht,hic,hiv,h4]
      refine V.draw (fun _=>none) (by kernel_rfl) (by kernel_rfl) (by simp) ?_
      simp[<- h5,hi,hx,hv,ht,hic,hiv,h4]
      exact⟨fun h=>⟨h,fun h2=>⟨h,h2⟩⟩,fun hb=>absurd hb hbad,fun _ _=>⟨by omega,hn⟩⟩
    ·rintro-hI
     have hf:=firstErr_all hI
     rw[hf]at e
     simp[e,h5]
 ·have e:fitsSt c s=8:=by rw[fitsSt,if_pos hsh]
  rw[e]
  simp
  unfold shapeS at hsh
  intros
  omega
structure Fine (c:Control):Prop where
 act:1<=c.actuators∧c.actuators<=6
 inp:c.inputs.length<=16
 sig:c.signals.length<=64
 sigs:∀(i:Nat) (s:Signal),c.signals[i]?=some s->signalE c i s (namesB c (2*c.actuators.toNat+c.inputs.length+i))=0
theorem fine_of {c:Control}(h:checkC c=0):Fine c:=by
 unfold checkC at h
 split at h
 ·cases h
 ·split at h
  ·cases h
  ·split at h
   ·rename_i h1;exact absurd h h1
   ·split at h
    ·rename_i h1;exact absurd h h1
    ·rename_i h1 h2 h3 h4
     have hz:=firstErr_zero (Classical.not_not.1 h4)
     refine⟨by omega,by omega,by omega,fun i s hi=>?_⟩
     obtain⟨hlt,_⟩:=List.getElem?_eq_some_iff.1 hi
     have:=hz i hlt
     simp only[sigE,hi]at this
     exact this
theorem Fine.sm {c:Control}(h:Fine c):Sm c:=by
 obtain⟨h1,h2,h3,_⟩:=h
 exact⟨by omega,by omega,by omega⟩
theorem Fine.on {c:Control}(h:Fine c) {i:Nat}{s:Signal}(hi:c.signals[i]?=some s):checkE s.on (countC c)=0∧0<=s.kind∧s.kind<=2:=by
 have:=h.sigs i s hi
 unfold signalE at this
 split at this
 ·rename_i h1;exact absurd this h1
 ·split at this
  ·cases this
  ·split at this
   ·rename_i h1;exact absurd this h1
   ·rename_i h1 h2 h3
    exact⟨Classical.not_not.1 h3,by omega⟩
def rightC (c:Control) (s:State):Int:=if checkC c≠0 then checkC c else fitsSt c s
theorem Right_fn (c:Control) (s:State) (hc:OkC c) (hs:SmS s):CallFn Tryz.prog 67 [aC c,aSt s] (aI (rightC c s)):=by
 refine callFz_of Tryz.func67 rfl Tryz.ntmps67 (rs:=[.tmp 4]) rfl (by kernel_rfl) (by simp) (by kernel_rfl) ?_
 simp
 refine (Check_fn c hc).s ?_
 simp
 by_cases hz:checkC c=0
 ·simp[hz]
  refine (fits_fn c s hs).s ?_
  simp[rightC,hz]
 ·simp[hz,rightC]
theorem RightR_fn (c:Control) (s:State) (hc:OkC c) (hp:c.plus.length<=1000000) (hm:c.minus.length<=1000000) (hs:SmS s):CallFn Tryz.prog 16 [aC c,aSt s] (aI (rightC c s)):=by
 refine callFz_of Tryz.func16 rfl Tryz.ntmps16 (rs:=[.tmp 4]) rfl (by kernel_rfl) (by simp) (by kernel_rfl) ?_
 simp
 refine (CheckR_fn c hc hp hm).s ?_
 simp
 by_cases hz:checkC c=0
 ·simp[hz]
  refine (fitsR_fn c s hs).s ?_
  simp[rightC,hz]
 ·simp[hz,rightC]
theorem right_zero {c:Control}{s:State}(h:rightC c s=0):checkC c=0∧shapeS c s∧fitsSt c s=0:=by
 unfold rightC at h
 split at h
 ·rename_i h1;exact absurd h h1
 ·rename_i h1
  refine⟨Classical.not_not.1 h1,?_,h⟩
  unfold fitsSt at h
  split at h
  ·cases h
  ·rename_i h2;exact Classical.not_not.1 h2
theorem valuesOf_length {c:Control}{s:State}(h:shapeS c s):((valuesOf s).length:Int)=countC c:=by
 obtain⟨h1,h2,h3,h4,h5⟩:=h
 have:=endsV_length s.ends
 simp[valuesOf,countC,this]
 omega
theorem values_fn (s:State) (h:SmS s):CallFn Tryz.prog 108 [aSt s] (aBs (valuesOf s)):=by
 have:=(values_o s h).fn (by simp)
 rwa [rowsD_B]at this
theorem ValuesR_fn (c:Control) (s:State) (h:SmS s) (ha:c.actuators=s.ends.length):CallFn Tryz.prog 27 [aC c,aSt s] (aBs (valuesOf s)):=by
 have:=(ValuesR_o c s h ha).fn (by simp)
 rwa [rowsD_B]at this
def valueP (c:Control) (s:State) (k:Int):Bool×Int:=
 if rightC c s≠0 then (false,rightC c s) else if k<0∨countC c<=k then (false,6) else ((valuesOf s)[k.toNat]?.getD false,0)
theorem Value_fn (c:Control) (s:State) (k:Int) (hc:OkC c) (hs:SmS s):CallFn Tryz.prog 68 [aC c,aSt s,aI k] (.tuple [aB (valueP c s k).1,aI (valueP c s k).2]):=by
 refine callFz_of Tryz.func68 rfl Tryz.ntmps68 (rs:=[.tmp 6,.tmp 7]) rfl (by kernel_rfl) (by simp) (by kernel_rfl) ?_
 simp
 refine (Right_fn c s hc hs).s ?_
 simp
 by_cases hz:rightC c s=0
 ·obtain⟨z1,z2,z3⟩:=right_zero hz
  have hf:=fine_of z1
  have hl:=valuesOf_length z2
  simp[hz]
  refine GCall.fn (aI (countC c)) (fun h0=>⟨h0,count_c c hf.sm⟩) ?_
  by_cases h0:0<=k
  ·by_cases h1:k<countC c
   ·simp[hz,h0,h1,Int.not_le.2 h1,Int.not_lt.2 h0]
    refine (values_fn s hs).s ?_
    have hk:k.toNat<(valuesOf s).length:=by omega
    simp[h0,hk,hl,h1,valueP,hz,Int.not_le.2 h1,Int.not_lt.2 h0]
   ·have h1':countC c<=k:=by omega
    simp[hz,h0,h1,h1',valueP]
  ·have h0':k<0:=by omega
   simp[hz,h0,h0',valueP]
 ·simp[hz,valueP]
def Pln.posB (p:Pln) (s:State) (i:Nat):Bool:=match drivenZ p.drives i with
 | some k=>s.valves.getD k false
 | none=>match p.line i with
  | some n=>(valuesOf s)[n]?.getD false
  | none=>false
def numB (b:Bool):Int:=if b=true then 1 else 0
def Pln.pos (p:Pln) (s:State):List Int:=(List.range p.ps.length).map fun i=>numB (p.posB s i)
def positionsQ (c:Cir) (s:State):List Int×Int:=
 if buildE c≠0 then ([],buildE c) else if rightC (planZ c).ctl s≠0 then ([],rightC (planZ c).ctl s) else ((planZ c).pos s,0)
def Pln.posO (p:Pln) (s:State) (i:Nat):List Int:=(List.range p.ps.length).map fun j=>if j<i then numB (p.posB s j) else 0
theorem posO_zero (p:Pln) (s:State):p.posO s 0=List.replicate p.ps.length 0:=by
 unfold Pln.posO
 refine List.ext_getElem (by simp) fun j h1 h2=>?_
 simp
theorem posO_all (p:Pln) (s:State):p.posO s p.ps.length=p.pos s:=by
 unfold Pln.posO Pln.pos
 refine List.map_congr_left fun j hj=>?_
 rw[if_pos (List.mem_range.1 hj)]
theorem posO_len (p:Pln) (s:State) (i:Nat):(p.posO s i).length=p.ps.length:=by simp[Pln.posO]
theorem posO_get (p:Pln) (s:State) (i j:Nat):(p.posO s i)[j]?=if j<p.ps.length then some (if j<i then numB (p.posB s j) else 0) else none:=by
 unfold Pln.posO
 rw[List.getElem?_map]
 by_cases h:j<p.ps.length
 ·rw[if_pos h,List.getElem?_range h]
  rfl
 ·rw[if_neg h,List.getElem?_eq_none (by simpa using h)]
  rfl
theorem posO_set (p:Pln) (s:State) {i:Nat}:p.posO s (i+1)=(p.posO s i).set i (numB (p.posB s i)):=by
 refine List.ext_getElem? fun j=>?_
 rw[List.getElem?_set,posO_get,posO_get,posO_len]
 by_cases e:i=j
 ·subst e
  simp
 ·rw[if_neg e]
  by_cases h2:j<p.ps.length
  ·rw[if_pos h2,if_pos h2]
   by_cases h:j<i
   ·rw[if_pos h,if_pos (by omega)]
   ·rw[if_neg h,if_neg (by omega)]
  ·rw[if_neg h2,if_neg h2]
theorem posO_keep (p:Pln) (s:State) {i:Nat}(h:p.posB s i=false):p.posO s (i+1)=p.posO s i:=by
 unfold Pln.posO
 refine List.map_congr_left fun j hj=>?_
 by_cases e:j=i
 ·subst e
  simp[h,numB]
 ·by_cases h2:j<i
  ·rw[if_pos h2,if_pos (by omega)]
  ·rw[if_neg h2,if_neg (by omega)]
theorem drivenZ_lt {d:List Drv}{i k:Nat}(h:drivenZ d i=some k):k<d.length:=(List.findIdx?_eq_some_iff_getElem.1 h).1
theorem pil_sig {p:Pln}(hB:p.B) (hD:p.D):p.ctl.signals.length=(p.pil p.drives.length).2.2.length∧p.order.length+p.valv.length<=p.ctl.signals.length:=by
 obtain⟨_,_,a3,_⟩:=hB.pil (fun d hd=>kindOf_lt (by have:=hD.val d hd;omega)) p.drives.length (Nat.le_refl _)
 refine⟨rfl,?_⟩
 show _<=(p.pil p.drives.length).2.2.length
 unfold Pln.sig0 at a3
 simp only[List.length_append,List.length_map]at a3
 exact a3
theorem line_lt {c:Cir}(hr:CirR c) (hd:drvE c.parts (netsZ c)=0) {i n:Nat}(h:(planZ c).line i=some n):(n:Int)<countC (planZ c).ctl:=by
 obtain⟨_,hs⟩:=pil_sig (planZ_B hr) (planZ_D hd)
 have hlim:=planZ_lim hr
 have hc:countC (planZ c).ctl=2*((planZ c).drives.length:Int)+(planZ c).butt.length+(planZ c).ctl.signals.length:=by
  unfold countC
  show 2*((planZ c).drives.length:Int)+(((planZ c).butt.map _).length:Nat)+_=_
  rw[List.length_map]
 rw[hc]
 rw[(planZ c).line_eq]at h
 cases hb:(planZ c).lineB i with
 | some m=>
  rw[hb]at h
  simp only[Option.some.injEq]at h
  subst h
  unfold Pln.lineB at hb
  cases hx:(planZ c).ps[i]? with
  | none=>rw[hx]at hb;simp at hb
  | some x=>
   rw[hx]at hb
   simp only at hb
   obtain⟨hi,hxe⟩:=List.getElem?_eq_some_iff.1 hx
   split at hb
   ·rename_i h7
    simp only[Option.some.injEq]at hb
    have hm:i∈(planZ c).butt:=mem_buttN.2 ⟨hi,by rw[kindOf_at hx,h7];rfl⟩
    have:=List.idxOf_lt_length_of_mem hm
    omega
   ·split at hb
    ·rename_i h6
     simp only[Option.some.injEq]at hb
     obtain⟨q,b,hq,_,k,hk⟩:=hlim x (List.mem_of_getElem? hx) h6
     rw[hq]at hb
     simp only[List.dropLast_concat]at hb
     have hkl:=(List.findIdx?_eq_some_iff_getElem.1 hk).1
     rw[List.findIdx?_eq_some_iff_findIdx_eq]at hk
     have hk2:(planZ c).drives.findIdx (fun d=>(((planZ c).ps.getD d.1 x).name==q))=k:=hk.2
     rw[hk2]at hb
     split at hb<;>omega
    ·simp at hb
 | none=>
  rw[hb]at h
  simp only at h
  split at h
  ·rename_i hm
   simp only[Option.some.injEq]at h
   have:=List.idxOf_lt_length_of_mem hm
   unfold Pln.first at h
   omega
  ·simp at h
theorem build_zero {c:Cir}(h:buildE c=0):CirR c∧drvE c.parts (netsZ c)=0∧checkC (planZ c).ctl=0∧planE c=0∧cirE c=0:=by
 unfold buildE at h
 by_cases h1:planE c=0
 ·rw[if_neg (by simp[h1])]at h
  have h2:=h1
  rw[planE_eq]at h2
  by_cases h3:pairE c=0
  ·have h4:=h3
   unfold pairE at h4
   by_cases h5:cirE c=0
   ·rw[if_neg (by simp[h5])]at h4
    exact⟨cirR_of h5,h4,h,h1,h5⟩
   ·rw[if_pos h5]at h4
    exact absurd h4 h5
  ·rw[if_pos h3]at h2
   exact absurd h2 h3
 ·rw[if_pos h1]at h
  exact absurd h h1
theorem build_okC {c:Cir}(h:buildE c=0):OkC (planZ c).ctl:=by
 obtain⟨hr,hd,_⟩:=build_zero h
 exact (planZ_B hr).okC fun d hd2=>(mem_drvN hd hd2).2.2.2.1
theorem Positions_fn (c:Cir) (hc:OkCir c) (s:State) (hs:SmS s):CallFn Tryz.prog 17 [aCi c,aSt s] (.tuple [aIs (positionsQ c s).1,aI (positionsQ c s).2]):=by
 have hp:=build_s c hc.names hc.parts hc.pipes
 unfold positionsQ
 by_cases h0:buildE c=0
 ·simp only[h0,if_true]at hp
  simp only[h0,ne_eq,not_true,if_false]
  obtain⟨hr,hd,hch,_,_⟩:=build_zero h0
  have hok:=build_okC h0
  have hrt:=Right_fn (planZ c).ctl s hok hs
  have hval:=fun n:Nat=>Value_fn (planZ c).ctl s n hok hs
  have hln:=fun i n=>line_lt hr hd (i:=i) (n:=n)
  have hps:(planZ c).ps=c.parts:=rfl
  have hpl:c.parts.length<=64:=hr.few
  have hact:(planZ c).ctl.actuators=(planZ c).drives.length:=rfl
  generalize (planZ c).ctl=ct at *
  refine callFz_of Tryz.func17 rfl Tryz.ntmps17 (rs:=[.tmp 4,.tmp 5]) rfl (by kernel_rfl) (by simp) (by kernel_rfl) ?_
  simp
  refine hp.mono ?_
  rintro r H' ⟨ss,rfl,rfl,hA⟩
  simp
  intro b7
  refine hrt.s ?_
  simp
  by_cases hz:rightC ct s=0
  ·have hcnt:∀n:Nat,(n:Int)<countC ct->valueP ct s n=((valuesOf s)[n]?.getD false,0):=fun n hn=>by
    unfold valueP
    rw[if_neg (by simp[hz]),if_neg (by omega),Int.toNat_natCast]
   have hvl:(planZ c).drives.length<=s.valves.length:=by
    have:=(right_zero hz).2.1.2.1
    omega
   simp[hz]
   intro g
   refine⟨by omega,?_⟩
   refine V.forI (σ:=Value) c.parts.length [3,4,5,6,7,39] (by simp;exact rfl) (fun i g=>[(10,.own 36 g),(40,aI i)]) (fun i g=>(36,.seq g 3 1 (((planZ c).posO s i).map rI))::(7,.box b7 ((encC ct).map A.dat))::ss.hp) (fun _ _=>True) g trivial (by simp) ⟨by simp;exact rfl,by rw[posO_zero];simp[hps]⟩ ?_ ?_
   ·rintro i g hi -
    have hdr:=driven_s hA.ok hA.dr (by have:=hA.dl;omega) i
    have hol:((planZ c).posO s i).length=c.parts.length:=posO_len _ _ _
    have hst:=posO_set (planZ c) s (i:=i)
    have hkp:=posO_keep (planZ c) s (i:=i)
    have hpb:(planZ c).posB s i=match drivenZ (planZ c).drives i with
     | some k=>s.valves.getD k false
     | none=>match (planZ c).line i with
      | some n=>(valuesOf s)[n]?.getD false
      | none=>false:=rfl
    generalize (planZ c).posO s i=O at *
    have hOi:i<O.length:=by omega
    obtain⟨z,hz4⟩:∃z,O[i]=z:=⟨_,rfl⟩
    have hOz:O[i]?=some z:=by rw[List.getElem?_eq_getElem hOi,hz4]
    simp[hi]
    refine (hdr.mid [(36,_),(7,_)] []).mono ?_
    rintro r H' ⟨rfl,rfl⟩
    cases hz2:drivenZ (planZ c).drives i with
    | some k=>
     rw[hz2]at hpb
     have hkl:=drivenZ_lt hz2
     obtain⟨v,hv⟩:∃v,s.valves[k]=v:=⟨_,rfl⟩
     have hvo:s.valves[k]?=some v:=by rw[List.getElem?_eq_getElem (by omega),hv]
     have hvk:k<s.valves.length:=by omega
     have hpb:(planZ c).posB s i=v:=by rw[hpb];simp only[List.getD_eq_getElem?_getD,hvo,Option.getD_some]
     rw[hpb]at hst hkp
     cases v
     ·rw[hkp rfl]
      simp[idxI,hv,hvo,hvk]
      exact⟨by omega,by omega⟩
     ·rw[hst]
      simp[idxI,hv,hvo,hvk,numB,hOi,hOz]
      exact⟨by omega,by omega⟩
    | none=>
     rw[hz2]at hpb
     have hl:=hA.line i
     cases hn:(planZ c).line i with
     | none=>
      rw[hn]at hl hpb
      simp[idxI,hl]
      exact⟨⟨by omega,by omega⟩,by rw[hkp hpb]⟩
     | some n=>
      rw[hn]at hl hpb
      have hvn:=hval n
      rw[hcnt n (hln i n hn)]at hvn
      simp only at hpb
      generalize (valuesOf s)[n]?.getD false=v at *
      rw[hpb]at hst hkp
      cases v
      ·rw[hkp rfl]
       simp[idxI,hl]
       refine hvn.s ?_
       simp
       exact⟨by omega,by omega⟩
      ·rw[hst]
       simp[idxI,hl]
       refine hvn.s ?_
       simp[hOi,hOz,numB]
       exact⟨by omega,by omega⟩
   ·rintro g -
    rw[<- hps,posO_all,if_neg (by simp[hz])]
    simp[rowsD,allD,isD]
  ·simp[hz]
 ·simp only[h0,if_false]at hp
  simp only[h0,ne_eq,not_false_iff,if_true]
  refine callFz_of Tryz.func17 rfl Tryz.ntmps17 (rs:=[.tmp 4,.tmp 5]) rfl (by kernel_rfl) (by simp) (by kernel_rfl) ?_
  simp
  refine hp.mono ?_
  rintro r H' ⟨rfl,rfl⟩
  simp[h0]
def stA (τ:Nat) (g:Nat->Value):A:=.agg [.own τ (g 0),.own (τ+1) (g 1),.own (τ+2) (g 2),.own (τ+3) (g 3),.own (τ+4) (g 4)]
def stH (τ:Nat) (g:Nat->Value) (s:State):Heap:=[(τ,.seq (g 0) 3 1 (s.ends.map rI)),(τ+1,.seq (g 1) 4 1 (s.valves.map rB)),(τ+2,.seq (g 2) 4 1 (s.inputs.map rB)),(τ+3,.seq (g 3) 4 1 (s.values.map rB)),(τ+4,.seq (g 4) 3 1 (s.timers.map rI))]
def CallSt (g:FuncId) (az:List A) (s:State):Prop:=CallS Tryz.prog g az [] fun r H'=>∃h,r=stA 0 h∧H'=stH 0 h s
theorem Ds5 {x:X}{l:List Value}{t0 t1 t2 t3 t4 u0 u1 u2 u3 u4:Nat}{h0 h1 h2 h3 h4:Value}(h:Ds x [.own t0 h0,.own t1 h1,.own t2 h2,.own t3 h3,.own t4 h4] l):Ds x [.own u0 h0,.own u1 h1,.own u2 h2,.own u3 h3,.own u4 h4] l:=by
 rcases l with _ | ⟨a,_ | ⟨b,_ | ⟨c,_ | ⟨d,_ | ⟨e,l⟩⟩⟩⟩⟩<;>simp only[Ds,D]at h ⊢<;>try exact h
theorem CallSt.s {g:FuncId}{az:List A}{s:State}(h:CallSt g az s) {H:Heap}{K:A->Heap->Prop}(τ:Nat) (hk:∀hd,K (stA τ hd) (stH τ hd s++H)):CallS Tryz.prog g az H K:=by
 refine⟨h.1,fun x args H0 hi hd=>((CallS.frame (H1:=H) h).2 x args H0 hi hd).mono ?_⟩
 rintro _ _ ⟨y,v,r,H',rfl,rfl,hle,hi',hv,H2,⟨hh,rfl,rfl⟩,rfl⟩
 refine⟨y,v,stA τ hh,_,rfl,rfl,hle,hi'.ents (H':=(stH τ hh s++H)++H0) (by simp[stH]),?_,hk hh⟩
 simp only[stA,D]at hv ⊢
 obtain⟨vs,e,hds⟩:=hv
 exact⟨vs,e,Ds5 hds⟩
def stAt (H:Heap) (s:State):A->Prop
 | .agg [.own t0 h0,.own t1 h1,.own t2 h2,.own t3 h3,.own t4 h4]=>hget t0 H=some (.seq h0 3 1 (s.ends.map rI))∧hget t1 (hdel t0 H)=some (.seq h1 4 1 (s.valves.map rB))∧hget t2 (hdel t1 (hdel t0 H))=some (.seq h2 4 1 (s.inputs.map rB)) ∧
   hget t3 (hdel t2 (hdel t1 (hdel t0 H)))=some (.seq h3 4 1 (s.values.map rB))∧hget t4 (hdel t3 (hdel t2 (hdel t1 (hdel t0 H))))=some (.seq h4 3 1 (s.timers.map rI))
 | _=>False
theorem CallSt.of {g:FuncId}{az:List A}{s:State}(h:CallS Tryz.prog g az [] fun r H'=>stAt H' s r):CallSt g az s:=by
 refine⟨h.1,fun x args H0 hi hd=>(h.2 x args H0 hi hd).mono ?_⟩
 rintro _ _ ⟨y,v,r,H',rfl,rfl,hle,hi',hv,hk⟩
 unfold stAt at hk
 split at hk
 ·rename_i t0 h0 t1 h1 t2 h2 t3 h3 t4 h4
  obtain⟨k0,k1,k2,k3,k4⟩:=hk
  have p0:=hdel_perm k0
  have p1:=hdel_perm k1
  have p2:=hdel_perm k2
  have p3:=hdel_perm k3
  have p4:=hdel_perm k4
  have hp:=p0.trans ((p1.trans ((p2.trans ((p3.trans (p4.cons _)).cons _)).cons _)).cons _)
  have hi2:=hi'.perm (hp.symm.append_right H0)
  refine⟨y,v,stA 0 (fun i=>[h0,h1,h2,h3,h4].getD i default),stH 0 (fun i=>[h0,h1,h2,h3,h4].getD i default) s,rfl,rfl,hle,?_,?_,_,rfl,rfl⟩
  ·have hi3:=hi2.sub (H':=[(t0,.seq h0 3 1 (s.ends.map rI)),(t1,.seq h1 4 1 (s.valves.map rB)),(t2,.seq h2 4 1 (s.inputs.map rB)),(t3,.seq h3 4 1 (s.values.map rB)),(t4,.seq h4 3 1 (s.timers.map rI))]++H0) (List.Sublist.append (by simp) (List.Sublist.refl _))
   exact hi3.ents (by simp[stH])
  ·simp only[stA,D]at hv ⊢
   obtain⟨vs,e,hds⟩:=hv
   exact⟨vs,e,Ds5 hds⟩
 ·exact hk.elim
def gvals (c:Control) (s:State):Nat->List Bool
 | 0=>s.values
 | i+1=>match c.signals[i]? with
  | some x=>if x.kind=0 then (gvals c s i).set i (evalE x.on (valuesOf { s with values:=gvals c s i })) else gvals c s i
  | none=>gvals c s i
def gatesP (c:Control) (s:State):State:={ s with values:=gvals c s c.signals.length }
theorem gvals_length (c:Control) (s:State) (i:Nat):(gvals c s i).length=s.values.length:=by
 induction i with
 | zero=>rfl
 | succ i ih=>
  simp only[gvals]
  split
  ·split
   ·simp[ih]
   ·exact ih
  ·exact ih
theorem gvals_at {c:Control}{s:State}{i:Nat}{x:Signal}(h:c.signals[i]?=some x):gvals c s (i+1)=if x.kind=0 then (gvals c s i).set i (evalE x.on (valuesOf { s with values:=gvals c s i })) else gvals c s i:=by
 simp only[gvals,h]
theorem evalL_map (vs:List Bool):∀xs:List Expr,evalL xs vs=xs.map fun x=>evalE x vs
 | []=>rfl
 | x::xs=>by simp[evalL,evalL_map vs xs]
def allT (xs:List Expr) (vs:List Bool):Bool:=xs.all fun x=>evalE x vs
def anyT (xs:List Expr) (vs:List Bool):Bool:=xs.any fun x=>evalE x vs
theorem evalL_all (xs:List Expr) (vs:List Bool):(evalL xs vs).all (·==true)=allT xs vs:=by
 rw[evalL_map,allT,List.all_map]
 congr 1
 funext x
 simp
theorem evalL_any (xs:List Expr) (vs:List Bool):(!(evalL xs vs).all (·==false))=anyT xs vs:=by
 rw[evalL_map,anyT,List.all_map,List.not_all_eq_any_not]
 congr 1
 funext x
 show (!(evalE x vs==false))=evalE x vs
 cases evalE x vs<;>rfl
def preV (s:State):List Bool:=endsV s.ends++s.inputs
theorem valuesOf_with (s:State) (l:List Bool):valuesOf { s with values:=l }=preV s++l:=rfl
theorem valuesOf_eq (s:State):valuesOf s=preV s++s.values:=rfl
theorem preV_length {c:Control}{s:State}(h:shapeS c s):((preV s).length:Int)=firstC c:=by
 obtain⟨h1,h2,h3,h4,h5⟩:=h
 have:=endsV_length s.ends
 simp[preV,firstC,this]
 omega
theorem gates_o (c:Control) (s:State) (hc:OkC c) (hf:Fine c) (hs:SmS s) (hsh:shapeS c s):CallSt 69 [aC c,aSt s] (gatesP c s):=by
 have hsm:=hf.sm
 have hcs:=hf.sig
 have hpl:=preV_length hsh
 obtain⟨s1,s2,s3,s4,s5⟩:=hs
 have hs':SmS s:=⟨s1,s2,s3,s4,s5⟩
 refine CallSt.of (callS_of Tryz.func69 rfl Tryz.ntmps69 (rs:=[.cell 4 31]) rfl (by kernel_rfl) (by simp) (by kernel_rfl) ?_)
 simp
 intro b4
 refine V.draw (fun t=>if t=13 then some (.own 3 1 (s.ends.map rI)) else if t=16 then some (.own 4 1 (s.valves.map rB)) else if t=19 then some (.own 4 1 (s.inputs.map rB)) else if t=22 then some (.own 4 1 (s.values.map rB)) else if t=25 then some (.own 3 1 (s.timers.map rI)) else none) (by kernel_rfl) (by kernel_rfl) (by simp) ?_
 simp
 intro u0
 refine⟨cloneI_o s.ends (by omega),fun u1=>⟨cloneB_o s.valves (by omega),fun u2=>⟨cloneB_o s.inputs (by omega),fun u3=>⟨cloneB_o s.values (by omega),fun u4=>⟨cloneI_o s.timers (by omega),?_⟩⟩⟩⟩⟩
 intro b5
 refine (values_o s hs').lend 70 (by simp[hget,packA,encSt]) (by intro h;simp) ?_
 intro h6
 simp
 refine V.forI (σ:=Unit) c.signals.length [2,4,5,6,30,31] (by simp;exact rfl) (fun i _=>[(32,aI i)]) (fun i _=>[(22,.seq u3 4 1 ((gvals c s i).map rB)),(70,.seq h6 4 1 ((preV s++gvals c s i).map rB))]) (fun _ _=>True) () trivial (by simp) ⟨by simp;exact rfl,by simp[gvals,hget,hdel,valuesOf_eq]⟩ ?_ ?_
 ·rintro i-hi -
  obtain⟨x,hx⟩:∃x,c.signals[i]=x:=⟨_,rfl⟩
  have hxo:c.signals[i]?=some x:=by rw[List.getElem?_eq_getElem hi,hx]
  have hgl:=gvals_length c s i
  obtain⟨hon,-⟩:=hf.on hxo
  obtain⟨r1,r2,r3⟩:=right_of_check hon
  have hlen:=valuesOf_length hsh
  rw[gvals_at hxo]
  generalize gvals c s i=l at hgl ⊢
  have hil:i<l.length:=by obtain⟨_,_,_,h4,_⟩:=hsh;omega
  have hgi:l[i]?=some l[i]:=List.getElem?_eq_getElem hil
  have hl':((preV s++l).length:Int)=countC c:=by
   have:=valuesOf_length (c:=c) (s:={ s with values:=l }) ⟨hsh.1,hsh.2.1,hsh.2.2.1,hgl.trans hsh.2.2.2.1,hsh.2.2.2.2⟩
   exact this
  simp[hi,hx]
  intro b8
  by_cases hk:x.kind=0
  ·simp[hi,hx,hk]
   have ev:=evalx_fn x.on (hc.sigs x (List.mem_of_getElem? hxo)).on (preV s++l) (by omega)
   rw[hl',hon]at ev
   simp only[if_true]at ev
   refine ev.lend (by simp[hget,packA,encE_eq]) (by simp) ?_
   rw[valuesOf_with]
   generalize evalE x.on (preV s++l)=b
   simp
   refine V.draw (fun t=>if t=52 then some (.fn (aI (firstC c))) else none) (by kernel_rfl) (by kernel_rfl) (by simp) ?_
   have hp1:=first_fn c hsm
   have hpl2:(preV s).length<=10000000:=by have:=hf.act;have:=hf.inp;unfold firstC at hpl;omega
   rw[<- hpl]at hp1 ⊢
   have ht:(((preV s).length:Int)+i).toNat=(preV s).length+i:=by omega
   have hA:(List.map rB (preV s)++List.map rB l)[(preV s).length+i]?=some [A.dat (L.bool l[i])]:=by
    rw[List.getElem?_append_right (by simp)]
    simp[hgi,rB,hil]
   have hS:∀r,(List.map rB (preV s)++List.map rB l).set ((preV s).length+i) r=List.map rB (preV s)++(List.map rB l).set i r:=by
    intro r
    rw[List.set_append_right _ _ (by simp)]
    simp
   simp[hi,hx,hk,hgi,hil,rB,ht,hA,hS]
   exact⟨hp1,by omega,by omega,by omega,by omega⟩
  ·simp[hi,hx,hk]
   omega
 ·rintro - -
  simp[stAt,hget,hdel,gatesP]
theorem allD_rep (n:Nat) (l:L):allD (List.replicate n [A.dat l])=true:=by simp[allD,List.all_replicate,isD]
theorem rowsD_rep (n:Nat) (l:L):rowsD (List.replicate n [A.dat l])=List.replicate n [l]:=by simp[rowsD]
attribute [simp] allD_rep rowsD_rep
def noSt:State:=⟨[],[],[],[],[]⟩
theorem CallSt.lend {g:FuncId}{az az':List A}{s:State}(h:CallSt g az' s) {H:Heap}{K:A->Heap->Prop}(τ:Nat) (hz:(frzs H az).1∧(frzs H az).2=az') (hk:∀hd,K (stA τ hd) (stH τ hd s++H)):CallS Tryz.prog g az H K:=by
 refine CallS.lend (K':=fun r H'=>∃hd,r=stA τ hd∧H'=stH τ hd s) (h.s τ fun hd=>⟨hd,rfl,by simp⟩) hz ?_
 rintro r H' ⟨hd,rfl,rfl⟩
 refine⟨by simp[stA],?_,hk hd⟩
 intro p hp
 simp only[stH,List.mem_cons,List.not_mem_nil,or_false]at hp
 rcases hp with rfl | rfl | rfl | rfl | rfl<;>simp
def gatesR (c:Control) (s:State):State×Int:=if rightC c s≠0 then (noSt,rightC c s) else (gatesP c s,0)
theorem Gates_fn (c:Control) (s:State) (hc:OkC c) (hs:SmS s):CallFn Tryz.prog 18 [aC c,aSt s] (.tuple [aSt (gatesR c s).1,aI (gatesR c s).2]):=by
 refine callFz_of Tryz.func18 rfl Tryz.ntmps18 (rs:=[.cell 4 31,.tmp 5]) rfl (by kernel_rfl) (by simp) (by kernel_rfl) ?_
 simp
 intro b4
 refine (Right_fn c s hc hs).s ?_
 simp
 by_cases hz:rightC c s=0
 ·obtain⟨z1,z2,z3⟩:=right_zero hz
  simp[hz]
  refine (gates_o c s hc (fine_of z1) hs z2).s 60 fun hd=>?_
  simp[stA,stH,hget,packA,gatesR,hz,encSt]
 ·simp[hz,gatesR,noSt,packA,encSt]
def initV (c:Control) (i:Nat):List Bool:=(c.signals.take i).map (·.init)++List.replicate (c.signals.length-i) false
def newSt (c:Control) (i:Nat):State:=⟨List.replicate c.actuators.toNat 0,List.replicate c.actuators.toNat false,List.replicate c.inputs.length false,initV c i,List.replicate c.signals.length 0⟩
def firstSt (c:Control):State:=gatesP c (newSt c c.signals.length)
theorem initV_length (c:Control) (i:Nat) (h:i<=c.signals.length):(initV c i).length=c.signals.length:=by
 simp[initV]
 omega
theorem initV_set {c:Control}{i:Nat}{x:Signal}(h:c.signals[i]?=some x):(initV c i).set i x.init=initV c (i+1):=by
 obtain⟨hlt,hx⟩:=List.getElem?_eq_some_iff.1 h
 unfold initV
 rw[List.set_append_right _ _ (by simp;omega),List.take_add_one,h]
 simp only[Option.toList_some,List.map_append,List.map_cons,List.map_nil,List.append_assoc,List.singleton_append]
 congr 1
 have e:c.signals.length-i=(c.signals.length-(i+1))+1:=by omega
 rw[e,List.replicate_succ]
 simp[Nat.min_eq_left (Nat.le_of_lt hlt)]
theorem newSt_sm {c:Control}(h:Fine c):SmS (newSt c c.signals.length):=by
 obtain⟨h1,h2,h3,_⟩:=h
 have:=initV_length c c.signals.length (Nat.le_refl _)
 refine⟨?_,?_,?_,?_,?_⟩<;>simp[newSt]<;>omega
theorem newSt_shape {c:Control}(h:Fine c):shapeS c (newSt c c.signals.length):=by
 obtain⟨h1,h2,h3,_⟩:=h
 have:=initV_length c c.signals.length (Nat.le_refl _)
 refine⟨?_,?_,?_,?_,?_⟩<;>simp[newSt]<;>omega
def posOkB (ps:List Prt) (pos:List Int) (i:Nat):Bool:=decide (0<=pos.getD i 0∧pos.getD i 0<manyK (kindOf ps i))
def presE (c:Cir) (pos:List Int):Int:=
 if cirE c≠0 then cirE c else if pos.length≠c.parts.length then 8 else if (List.range c.parts.length).all (posOkB c.parts pos)=true then 0 else 2
theorem presE_bad {c:Cir}{pos:List Int}(h0:cirE c=0) (hl:pos.length=c.parts.length) {i:Nat}(hi:i<c.parts.length) (hb:posOkB c.parts pos i=false):presE c pos=2:=by
 unfold presE
 rw[if_neg (by simp[h0]),if_neg (by simp[hl]),if_neg]
 intro h
 have:=List.all_eq_true.1 h i (List.mem_range.2 hi)
 rw[hb]at this
 cases this
theorem presE_good {c:Cir}{pos:List Int}(h0:cirE c=0) (hl:pos.length=c.parts.length) (h:∀i,i<c.parts.length->posOkB c.parts pos i=true):presE c pos=0:=by
 unfold presE
 rw[if_neg (by simp[h0]),if_neg (by simp[hl]),if_pos]
 rw[List.all_eq_true]
 exact fun i hi=>h i (List.mem_range.1 hi)
theorem presCheck_fn (c:Cir) (hc:OkCir c) (pos:List Int) (hp:Sh pos):CallFn Tryz.prog 46 [aCi c,aIs pos] (aI (presE c pos)):=by
 have hch:=CheckZ_fn c hc.names hc.parts hc.pipes
 have hl:=hc.parts
 generalize hP:presE c pos=P
 by_cases h0:cirE c=0
 ·have hr:=cirR_of h0
  have hf:=hr.few
  rw[h0]at hch
  refine callFz_of Tryz.func46 rfl Tryz.ntmps46 (rs:=[.tmp 4]) rfl (by kernel_rfl) (by simp) (by kernel_rfl) ?_
  simp
  refine hch.s ?_
  simp
  by_cases hlen:pos.length=c.parts.length
  ·have hlz:((pos.length:Nat):Int)=c.parts.length:=by omega
   simp[hlz]
   refine V.forI (σ:=Unit) c.parts.length [2,4,21,22] (by simp;exact rfl) (fun i _=>[(23,aI i)]) (fun _ _=>[]) (fun i _=>∀j,j<i->posOkB c.parts pos j=true) () (by simp) (by simp) ⟨by simp[hlz];exact rfl,by simp⟩ ?_ ?_
   ·rintro i ⟨⟩ hi hI
    obtain⟨x,hx⟩:∃x,c.parts[i]=x:=⟨_,rfl⟩
    have hxo:c.parts[i]?=some x:=by rw[List.getElem?_eq_getElem hi,hx]
    have hip:i<pos.length:=by omega
    obtain⟨z,hz⟩:∃z,pos[i]=z:=⟨_,rfl⟩
    have hzo:pos[i]?=some z:=by rw[List.getElem?_eq_getElem hip,hz]
    have hk:=part_kind (hr.part x (List.mem_of_getElem? hxo))
    have hpk:=Positions_k x.kind.toNat (by omega)
    rw[show ((x.kind.toNat:Nat):Int)=x.kind from by omega]at hpk
    have hpo:posOkB c.parts pos i=decide (0<=z∧z<manyK x.kind.toNat):=by
     unfold posOkB
     rw[kindOf_at hxo,List.getD_eq_getElem?_getD,hzo]
     rfl
    simp[hi,hip,hx,hxo,hz,hzo]
    refine hpk.s ?_
    simp
    refine⟨fun hbad=>?_,fun h1 h2=>⟨⟨by omega,by omega⟩,fun j hj=>?_⟩⟩
    ·rw[<- hP,presE_bad h0 hlen hi]
     rw[hpo]
     simp only[decide_eq_false_iff_not]
     omega
    ·by_cases e:j=i
     ·rw[e,hpo]
      simp only[decide_eq_true_eq]
      exact⟨h1,h2⟩
     ·exact hI j (by omega)
   ·rintro⟨⟩ hI
    simp[hlen]
    rw[<- hP,presE_good h0 hlen hI]
  ·have hlz:¬((pos.length:Nat):Int)=c.parts.length:=by omega
   simp[hlz]
   rw[<- hP]
   unfold presE
   rw[if_neg (by simp[h0]),if_pos (by simpa using hlen)]
 ·refine callFz_of Tryz.func46 rfl Tryz.ntmps46 (rs:=[.tmp 4]) rfl (by kernel_rfl) (by simp) (by kernel_rfl) ?_
  simp
  refine hch.s ?_
  simp[h0]
  rw[<- hP]
  unfold presE
  rw[if_pos (by simpa using h0)]
theorem First_o (c:Control) (hc:OkC c) (hz:checkC c=0):CallS Tryz.prog 49 [aC c] [] fun r H'=>∃hd,r=.tuple [stA 60 hd,aI 0]∧H'=stH 60 hd (firstSt c):=by
 refine CallS.dropP (callS_of Tryz.func49 rfl Tryz.ntmps49 (rs:=[.cell 2 31,.tmp 3]) rfl (by kernel_rfl) (by simp) (by kernel_rfl) (K:=fun r H'=>∃hd,r=.tuple [stA 60 hd,aI 0]∧subP (stH 60 hd (firstSt c)) H') ?_) (fun r H' ⟨hd,h1,h2⟩=>⟨_,h2,hd,h1,rfl⟩)
 simp
 intro b2
 refine (Check_fn c hc).s ?_
 simp
 have hf:=fine_of hz
 have hcs:=hf.sig
 have hsm:=hf.sm
 have ha:=hf.act
 have hin:=hf.inp
 simp[hz]
 refine V.draw (fun _=>none) (by kernel_rfl) (by kernel_rfl) (by simp) ?_
 simp
 intro u0
 refine⟨by omega,fun u1=>⟨by omega,fun u2=>⟨by omega,fun u3=>⟨by omega,fun u4=>⟨by omega,?_⟩⟩⟩⟩⟩
 intro b6
 refine V.forI (σ:=Unit) c.signals.length [1,2,3,6,34,35] (by simp;exact rfl) (fun i _=>[(36,aI i)]) (fun i _=>[(29,.seq u3 4 1 ((initV c i).map rB))]) (fun _ _=>True) () trivial (by simp) ⟨by simp;exact rfl,by simp[hget,hdel,initV,rB]⟩ ?_ ?_
 ·rintro i-hi -
  obtain⟨x,hx⟩:∃x,c.signals[i]=x:=⟨_,rfl⟩
  have hxo:c.signals[i]?=some x:=by rw[List.getElem?_eq_getElem hi,hx]
  rw[<- initV_set hxo]
  have hl:=initV_length c i (by omega)
  generalize initV c i=l at hl ⊢
  have hil:i<l.length:=by omega
  have hgi:l[i]?=some l[i]:=List.getElem?_eq_getElem hil
  simp[hi,hx]
  intro b8
  simp[hi,hx,hil,hgi,rB]
  omega
 ·rintro - -
  simp
  refine (gates_o c (newSt c c.signals.length) hc hf (newSt_sm hf) (newSt_shape hf)).lend 60 ?_ ?_
  ·simp[hget,packA,encSt,newSt]
  ·intro hd
   simp[stA,stH,hget,packA,firstSt,encSt]
   exact⟨hd,⟨rfl,rfl,rfl,rfl,rfl⟩,⟨_,List.sublist_append_left [_,_,_,_,_] _,List.Perm.refl _⟩⟩
structure PuS where
 ps:List Prt
 l:List PipeZ
 ns:List (List PortZ)
 m:Nat
 b:Nat
 E:List (KeyK×List L)
abbrev PuS.cells (s:PuS):List A:=[.dat (.sl (s.ps.map encPa)),.dat (.sl (s.l.map encPi)),aI s.ns.length,.map 171 s.m]
abbrev PuS.hp (s:PuS):Heap:=[(170,.box s.b s.cells),(171,.mapK s.m false s.E)]
structure PuS.OK (s:PuS):Prop where
 few:s.ps.length<=64
 kinds:∀p∈s.ps,0<=p.kind∧p.kind<14
 nets:s.ns.length<=448
 of:∀p∈allP s.ps,kget s.E p=some [.int .i64 (netW s.ns p:Nat)]∧netW s.ns p<s.ns.length
theorem puNet_s {s:PuS}(h:s.OK) {i:Nat}{t:List UInt8}(hp:((i:Int),t)∈allP s.ps):CallS Tryz.prog 114 [.ptr 170 s.b 0,aI i,aT t] s.hp fun r H'=>r=aI (netW s.ns ((i:Int),t))∧H'=s.hp:=by
 obtain⟨h1,h2⟩:=h.of _ hp
 have hok:=okK_port (ps:=s.ps) (by have:=h.few;omega) hp
 generalize netW s.ns ((i:Int),t)=k at *
 refine callS_of Tryz.func114 rfl Tryz.ntmps114 (rs:=[.tmp 6]) rfl (by kernel_rfl) (by simp) (by kernel_rfl) ?_
 simp[h1]
 exact hok
abbrev pu (c:Cir) (m b:Nat) (E:List (KeyK×List L)):PuS:=⟨c.parts,c.pipes,netsZ c,m,b,E⟩
theorem pu_ok {c:Cir}(hr:CirR c) {E:List (KeyK×List L)}(h:OfD (netsZ c) (netsZ c).length 0 E) (m b:Nat):(pu c m b E).OK:=
 ⟨hr.few,fun p hp=>part_kind (hr.part p hp),netsZ_few hr,h.all hr⟩
theorem pu_a {c:Cir}(hr:CirR c) (m b:Nat):V ⟨Tryz.prog,none,56⟩ (restC Tryz.f74 5) (hdE [(4,.nilp),(5,aI 0),(7,aNets (netsZ c)),(9,.ptr 170 b 0)] []) (pu c m b []).hp (RetV Tryz.prog [.tmp 4,.tmp 5] fun r H'=>∃m b E,r=.tuple [.ptr 170 b 0,aI 0]∧subP (pu c m b E).hp H'∧OfD (netsZ c) (netsZ c).length 0 E):=by
 refine V.rest rfl ?_
 refine V.of_vcN 1 ?_
 have hfew:=netsZ_few hr
 simp
 refine V.forI (σ:=List (KeyK×List L)) (netsZ c).length [4,5,9,34,35] (by simp;exact rfl) (fun i _=>[(36,aI i)]) (fun _ q=>(pu c m b q).hp) (fun i q=>OfD (netsZ c) i 0 q) [] (OfD.zero _) (by simp) ⟨by simp;exact rfl,by simp⟩ ?_ ?_
 ·rintro i q hi hI
  obtain⟨l,hl⟩:∃l,(netsZ c)[i]=l:=⟨_,rfl⟩
  have hlo:(netsZ c)[i]?=some l:=by rw[List.getElem?_eq_getElem hi,hl]
  obtain⟨n1,n2,n3⟩:=netsZ_net hr l (List.mem_of_getElem? hlo)
  simp[hi,hl,hlo]
  refine V.forI (σ:=List (KeyK×List L)) l.length [4,5,9,10,11,34,35,36,41,42] (by simp;exact rfl) (fun j _=>[(43,aI j)]) (fun _ q=>(pu c m b q).hp) (fun j q=>OfD (netsZ c) i j q) q hI (by simp) ⟨by simp;exact rfl,by simp⟩ ?_ ?_
  ·rintro j q hj hI
   obtain⟨x,hx⟩:∃x,l[j]=x:=⟨_,rfl⟩
   have hxo:l[j]?=some x:=by rw[List.getElem?_eq_getElem hj,hx]
   have hok:=okK_port (ps:=c.parts) (by have:=hr.few;omega) (n3 x (List.mem_of_getElem? hxo))
   simp[hj,hx,hxo]
   intro b10
   refine V.drawX (fun _=>none) (by kernel_rfl) (by kernel_rfl) (by simp) ?_
   simp
   exact⟨hok,⟨by omega,by omega⟩,hI.put hlo hxo⟩
  ·rintro q hI
   simp
   exact⟨⟨by omega,by omega⟩,hI.next hlo⟩
 ·rintro q hI
  simp
  refine V.of_vc ?_
  simp
  exact⟨m,q,subP.refl _,hI⟩
theorem puOf_s (c:Cir) (hc:OkCir c) (pos:List Int) (hp:Sh pos) :
  CallS Tryz.prog 74 [aCi c,aIs pos] [] fun r H'=>if presE c pos=0 then ∃s:PuS,r=.tuple [.ptr 170 s.b 0,aI 0]∧H'=s.hp∧s.OK∧s.ps=c.parts∧s.ns=netsZ c else r=.tuple [.nilp,aI (presE c pos)]∧H'=[]:=by
 have hn:=Nets_fn c hc.names hc.parts hc.pipes
 have hpc:=presCheck_fn c hc pos hp
 by_cases h0:presE c pos=0
 ·have hz:cirE c=0:=by
   unfold presE at h0
   split at h0
   ·rename_i h;exact absurd h0 h
   ·rename_i h;exact Classical.not_not.1 h
  have hr:=cirR_of hz
  rw[hz]at hn
  rw[h0]at hpc
  simp only[h0,if_true]
  refine CallS.dropP (callS_cut 5 Tryz.func74 rfl Tryz.ntmps74 (rs:=[.tmp 4,.tmp 5]) rfl (by kernel_rfl) (by simp) (by kernel_rfl) (K:=fun r H'=>∃m b E,r=.tuple [.ptr 170 b 0,aI 0]∧subP (pu c m b E).hp H'∧OfD (netsZ c) (netsZ c).length 0 E) ?_) (fun r H' ⟨m,b,E,h1,h2,h3⟩=>⟨_,h2,pu c m b E,h1,rfl,pu_ok hr h3 _ _,rfl,rfl⟩)
  simp
  refine hpc.s ?_
  simp
  refine hn.s ?_
  simp
  intro m b
  refine V.cutIN 0 (Hs:=(pu c m b []).hp) [(4,.nilp),(5,aI 0),(7,aNets (netsZ c)),(9,.ptr 170 b 0)] ?_ ?_ ?_
  ·intro p hp x v hv
   simp only[List.mem_cons,List.not_mem_nil,or_false]at hp
   rcases hp with rfl | rfl | rfl | rfl
   ·simpa using hv
   ·simpa using hv
   ·simpa using hv
   ·simpa [D]using hv
  ·intro x H0 hi
   have h1:Inv x ([(170,Ent.box b [.dat (.sl (c.parts.map encPa)),.dat (.sl (c.pipes.map encPi)),aI (netsZ c).length,.map 31 m]),(171,.mapK m false [])]++H0):=hi.ents (by simp)
   have h2:=Inv.swap (g:=170) (e:=.box b [.dat (.sl (c.parts.map encPa)),.dat (.sl (c.pipes.map encPi)),aI (netsZ c).length,.map 31 m]) (e':=.box b (pu c m b []).cells) rfl (box_sat (Ds_c D_i (Ds_c D_i (Ds_c D_i (Ds_c D_mtag Ds_i))))) (fun _ h=>h) h1
   exact h2
  ·exact pu_a hr m b
 ·simp only[h0,if_false]
  refine callS_of Tryz.func74 rfl Tryz.ntmps74 (rs:=[.tmp 4,.tmp 5]) rfl (by kernel_rfl) (by simp) (by kernel_rfl) ?_
  simp
  refine hpc.s ?_
  simp[h0]
end Go.Proofs.YtpadinblmjlggaaGreatDoor
