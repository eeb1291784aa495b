/- Texts joined by a program: Cg,Eg,Eh,Qs,Qt,Wf. -/
import Derived.Test.YtpadinblmjlggaaGreatDoorP24
import Derived.Test.YtpadinblmjlggaaGreatDoorP18
import Derived.Test.YtpadinblmjlggaaGreatDoorP17
import Derived.Test.YtpadinblmjlggaaGreatDoorP23
set_option linter.unusedSimpArgs false
set_option linter.unusedVariables false

section
namespace Go.Proofs.YtpadinblmjlggaaGreatDoor
set_option maxHeartbeats 4000000
set_option maxRecDepth 10000
theorem evalL_map (vs : List Bool) : ∀ xs : List Expr,evalL xs vs = xs.map fun x=>evalE x vs
 | []=>rfl
 | x :: xs=>by simp [evalL,evalL_map vs xs]
def allT (xs : List Expr) (vs : List Bool) : Bool:=xs.all fun x=>evalE x vs
def anyT (xs : List Expr) (vs : List Bool) : Bool:=xs.any fun x=>evalE x vs
theorem allT_snoc {xs : List Expr} {vs : List Bool} {i : Nat} {y : Expr} (h : xs[i]? = some y) : allT (xs.take (i + 1)) vs = (allT (xs.take i) vs && evalE y vs):=by
 unfold allT
 rw [List.take_add_one,h]
 simp [List.all_append]
theorem anyT_snoc {xs : List Expr} {vs : List Bool} {i : Nat} {y : Expr} (h : xs[i]? = some y) : anyT (xs.take (i + 1)) vs = (anyT (xs.take i) vs || evalE y vs):=by
 unfold anyT
 rw [List.take_add_one,h]
 simp [List.any_append]
theorem evalL_all (xs : List Expr) (vs : List Bool) : (evalL xs vs).all (· == true) = allT xs vs:=by
 rw [evalL_map,allT,List.all_map]
 congr 1
 funext x
 simp
theorem evalL_any (xs : List Expr) (vs : List Bool) : (!(evalL xs vs).all (· == false)) = anyT xs vs:=by
 rw [evalL_map,anyT,List.all_map,List.not_all_eq_any_not]
 congr 1
 funext x
 show (!(evalE x vs == false)) = evalE x vs
 cases evalE x vs <;> rfl
theorem holds_fn : ∀ (N : Nat) (x : Expr),SizeOf.sizeOf x < N → OkE x → ∀ vs : List Bool,vs.length ≤ 256 → RightE vs.length x → CallFn Tryz.prog 100 [aE x,aBs vs] (aB (evalE x vs))
 | 0,_,h,_,_,_,_=>absurd h (Nat.not_lt_zero _)
 | N + 1,x,hN,hx,vs,hv,hr=>by
  have ih : ∀ a ∈ x.args,CallFn Tryz.prog 100 [aE a,aBs vs] (aB (evalE a vs)):=fun a ha=>holds_fn N a (by have:=Expr.lt_of_mem ha; omega) (hx.args a ha) vs hv (hr.args a ha)
  have hn:=hr.node
  have hlen:=hx.len
  have hop : 0 ≤ x.op ∧ x.op < 5:=by
   unfold nodeR at hn
   split at hn <;> omega
  have key : x.op = 3 ∨ x.op = 4 → ∀ (c : Bool),c = true → CallFn Tryz.prog 100 [aE x,aBs vs] (aB (evalE x vs)):=by
   intro ho _ _
   have e : evalE x vs = if x.op = 3 then allT x.args vs else anyT x.args vs:=by
    rw [evalE_eq,if_neg (by omega),if_neg (by omega),if_neg (by omega),evalL_all,evalL_any]
   have o0 : ¬ x.op = 0:=by omega
   have o1 : ¬ x.op = 1:=by omega
   have o2 : ¬ x.op = 2:=by omega
   refine callFz_of Tryz.func100 rfl Tryz.ntmps100 (rs:=[.tmp 4]) rfl (by kernel_rfl) (by simp) (by kernel_rfl) ?_
   simp [o0,o1,o2]
   refine V.forI (σ:=Unit) x.args.length [1,2,4] (by simp; exact rfl) (fun i _=>[(5,aB (allT (x.args.take i) vs)),(6,aB (anyT (x.args.take i) vs)),(7,aI i)]) (fun _ _=>[]) (fun _ _=>True) () trivial (by simp [allT,anyT]) ⟨by simp; exact rfl,by simp⟩ ?_ ?_
   ·rintro i - hi -
    obtain ⟨y,hy⟩ : ∃ y,x.args[i] = y:=⟨_,rfl⟩
    have hy0 : x.args[i]? = some y:=by rw [List.getElem?_eq_getElem hi,hy]
    rw [allT_snoc hy0,anyT_snoc hy0]
    simp [hi,hy,encE_eq]
    refine (ih y (List.mem_of_getElem? hy0)).s ?_
    generalize evalE y vs = b1
    generalize allT (x.args.take i) vs = b2
    generalize anyT (x.args.take i) vs = b3
    simp
    omega
   ·rintro - -
    rw [List.take_length]
    simp
    refine ⟨fun h=>⟨h,fun h2=>⟨h,h2⟩⟩,?_⟩
    rw [e]
    rcases ho with ho | ho <;> simp [ho]
  obtain ho | ho | ho | ho : x.op = 0 ∨ x.op = 1 ∨ x.op = 2 ∨ (x.op = 3 ∨ x.op = 4):=by omega
  ·refine callFz_of Tryz.func100 rfl Tryz.ntmps100 (rs:=[.tmp 4]) rfl (by kernel_rfl) (by simp) (by kernel_rfl) ?_
   simp [ho,evalE_eq x]
  ·have hix : 0 ≤ x.index ∧ x.index < vs.length:=by
    simp [nodeR,ho] at hn
    omega
   obtain ⟨k,hk⟩ : ∃ k : Nat,x.index = k:=⟨x.index.toNat,by omega⟩
   rw [hk] at hix
   have hkl : k < vs.length:=by omega
   refine callFz_of Tryz.func100 rfl Tryz.ntmps100 (rs:=[.tmp 4]) rfl (by kernel_rfl) (by simp) (by kernel_rfl) ?_
   simp [ho,hk,hkl,evalE_eq x]
  ·have hl : x.args.length = 1:=by
    simp [nodeR,ho] at hn
    split at hn
    ·cases hn
    ·omega
   obtain ⟨y,hy⟩ : ∃ y,x.args = [y]:=List.length_eq_one_iff.1 hl
   have e : evalE x vs = !(evalE y vs):=by
    rw [evalE_eq,if_neg (by omega),if_neg (by omega),if_pos ho,hy]
    simp [evalL]
   refine callFz_of Tryz.func100 rfl Tryz.ntmps100 (rs:=[.tmp 4]) rfl (by kernel_rfl) (by simp) (by kernel_rfl) ?_
   simp [ho,hy,encE_eq]
   refine (ih y (by simp [hy])).s ?_
   simp [e]
  ·exact key ho true rfl
end Go.Proofs.YtpadinblmjlggaaGreatDoor
end

section
namespace Go.Proofs.YtpadinblmjlggaaGreatDoor
set_option maxHeartbeats 4000000
set_option maxRecDepth 10000
def preV (s : State) : List Bool:=endsV s.ends ++ s.inputs
theorem valuesOf_with (s : State) (l : List Bool) : valuesOf { s with values:=l } = preV s ++ l:=rfl
theorem valuesOf_eq (s : State) : valuesOf s = preV s ++ s.values:=rfl
theorem preV_length {c : Control} {s : State} (h : shapeS c s) : ((preV s).length : Int) = firstC c:=by
 obtain ⟨h1,h2,h3,h4,h5⟩:=h
 have:=endsV_length s.ends
 simp [preV,firstC,this]
 omega
theorem SmS.with {s : State} (h : SmS s) {l : List Bool} (hl : l.length = s.values.length) : SmS { s with values:=l }:=⟨h.ends,h.valves,h.inputs,by show l.length ≤ _; rw [hl]; exact h.values,h.timers⟩
theorem computedR_o (c : Control) (s : State) (hc : OkC c) (hf : Fine c) (hs : SmS s) (hsh : shapeS c s) : CallSt 61 [aC c,aSt s] (gatesP c s):=by
 have hsm:=hf.sm
 have hcs:=hf.sig
 refine CallSt.of (callS_of Tryz.func61 rfl Tryz.ntmps61 (rs:=[.cell 4 31]) rfl (by kernel_rfl) (by simp) (by kernel_rfl) ?_)
 simp
 intro b4
 refine (copyR_o s hs).s 60 fun hd=>?_
 simp [stA,stH]
 intro b5
 refine V.forI (σ:=Unit) c.signals.length [2,4,5] (by simp; exact rfl) (fun i _=>[(6,aI i)]) (fun i _=>[(63,.seq (hd 3) 4 1 ((gvals c s i).map rB))]) (fun _ _=>True) () trivial (by simp) ⟨by simp; exact rfl,by simp [gvals,hget,hdel]⟩ ?_ ?_
 ·rintro i - hi -
  obtain ⟨x,hx⟩ : ∃ x,c.signals[i] = x:=⟨_,rfl⟩
  have hxo : c.signals[i]? = some x:=by rw [List.getElem?_eq_getElem hi,hx]
  have hgl:=gvals_length c s i
  obtain ⟨hon,-⟩:=hf.on hxo
  obtain ⟨r1,r2,r3⟩:=right_of_check hon
  have hlen:=valuesOf_length hsh
  rw [gvals_at hxo]
  generalize gvals c s i = l at hgl ⊢
  have hil : i < l.length:=by obtain ⟨_,_,_,h4,_⟩:=hsh; omega
  have hgi : l[i]? = some l[i]:=List.getElem?_eq_getElem hil
  by_cases hk : x.kind = 0
  ·simp [hi,hx,hk]
   refine V.draw (fun t=>if t = 34 then some (.ro (aBs (preV s ++ l))) else if t = 35 then some (.fn (aB (evalE x.on (preV s ++ l)))) else none) (by kernel_rfl) (by kernel_rfl) (by simp) ?_
   simp [hi,hx,hk,hgi,hil,valuesOf_with,rB]
   refine ⟨((ValuesR_o c { s with values:=l } (hs.with hgl) hsh.1.symm).lendFn (H:=[(60,.seq (hd 0) 3 1 (s.ends.map rI)),(61,.seq (hd 1) 4 1 (s.valves.map rB)),(62,.seq (hd 2) 4 1 (s.inputs.map rB)),(63,.seq (hd 3) 4 1 (l.map rB)),(64,.seq (hd 4) 3 1 (s.timers.map rI))]) ?_ ?_ ?_).mono ?_,?_⟩
   ·simp [hget,packA,encSt]
   ·intro h; simp [valuesOf_with]
   ·simp
   ·rintro r H' ⟨rfl,rfl⟩
    simp [valuesOf_with]
   ·have hl' : ((preV s ++ l).length : Int) = countC c:=by
     have:=valuesOf_length (c:=c) (s:={ s with values:=l }) ⟨hsh.1,hsh.2.1,hsh.2.2.1,hgl.trans hsh.2.2.2.1,hsh.2.2.2.2⟩
     exact this
    exact ⟨holds_fn (SizeOf.sizeOf x.on + 1) x.on (by omega) (hc.sigs x (List.mem_of_getElem? hxo)).on (preV s ++ l) (by omega) (by rw [hl']; exact r1),by omega⟩
  ·simp [hi,hx,hk]
   omega
 ·rintro - -
  simp
  simp [stAt,hget,hdel,gatesP]
theorem gates_o (c : Control) (s : State) (hc : OkC c) (hf : Fine c) (hs : SmS s) (hsh : shapeS c s) : CallSt 69 [aC c,aSt s] (gatesP c s):=by
 have hsm:=hf.sm
 have hcs:=hf.sig
 have hpl:=preV_length hsh
 obtain ⟨s1,s2,s3,s4,s5⟩:=hs
 have hs' : SmS s:=⟨s1,s2,s3,s4,s5⟩
 refine CallSt.of (callS_of Tryz.func69 rfl Tryz.ntmps69 (rs:=[.cell 4 31]) rfl (by kernel_rfl) (by simp) (by kernel_rfl) ?_)
 simp
 intro b4
 refine V.draw (fun t=>if t = 13 then some (.own 3 1 (s.ends.map rI)) else if t = 16 then some (.own 4 1 (s.valves.map rB)) else if t = 19 then some (.own 4 1 (s.inputs.map rB)) else if t = 22 then some (.own 4 1 (s.values.map rB)) else if t = 25 then some (.own 3 1 (s.timers.map rI)) else none) (by kernel_rfl) (by kernel_rfl) (by simp) ?_
 simp
 intro u0
 refine ⟨cloneI_o s.ends (by omega),fun u1=>⟨cloneB_o s.valves (by omega),fun u2=>⟨cloneB_o s.inputs (by omega),fun u3=>⟨cloneB_o s.values (by omega),fun u4=>⟨cloneI_o s.timers (by omega),?_⟩⟩⟩⟩⟩
 intro b5
 refine (values_o s hs').lend 70 (by simp [hget,packA,encSt]) (by intro h; simp) ?_
 intro h6
 simp
 refine V.forI (σ:=Unit) c.signals.length [2,4,5,6,30,31] (by simp; exact rfl) (fun i _=>[(32,aI i)]) (fun i _=>[(22,.seq u3 4 1 ((gvals c s i).map rB)),(70,.seq h6 4 1 ((preV s ++ gvals c s i).map rB))]) (fun _ _=>True) () trivial (by simp) ⟨by simp; exact rfl,by simp [gvals,hget,hdel,valuesOf_eq]⟩ ?_ ?_
 ·rintro i - hi -
  obtain ⟨x,hx⟩ : ∃ x,c.signals[i] = x:=⟨_,rfl⟩
  have hxo : c.signals[i]? = some x:=by rw [List.getElem?_eq_getElem hi,hx]
  have hgl:=gvals_length c s i
  obtain ⟨hon,-⟩:=hf.on hxo
  obtain ⟨r1,r2,r3⟩:=right_of_check hon
  have hlen:=valuesOf_length hsh
  rw [gvals_at hxo]
  generalize gvals c s i = l at hgl ⊢
  have hil : i < l.length:=by obtain ⟨_,_,_,h4,_⟩:=hsh; omega
  have hgi : l[i]? = some l[i]:=List.getElem?_eq_getElem hil
  have hl' : ((preV s ++ l).length : Int) = countC c:=by
   have:=valuesOf_length (c:=c) (s:={ s with values:=l }) ⟨hsh.1,hsh.2.1,hsh.2.2.1,hgl.trans hsh.2.2.2.1,hsh.2.2.2.2⟩
   exact this
  simp [hi,hx]
  intro b8
  by_cases hk : x.kind = 0
  ·simp [hi,hx,hk]
   have ev:=evalx_fn x.on (hc.sigs x (List.mem_of_getElem? hxo)).on (preV s ++ l) (by omega)
   rw [hl',hon] at ev
   simp only [if_true] at ev
   refine ev.lend (by simp [hget,packA,encE_eq]) (by simp) ?_
   rw [valuesOf_with]
   generalize evalE x.on (preV s ++ l) = b
   simp
   refine V.draw (fun t=>if t = 52 then some (.fn (aI (firstC c))) else none) (by kernel_rfl) (by kernel_rfl) (by simp) ?_
   have hp1:=first_fn c hsm
   have hpl2 : (preV s).length ≤ 10000000:=by have:=hf.act; have:=hf.inp; unfold firstC at hpl; omega
   rw [← hpl] at hp1 ⊢
   have ht : (((preV s).length : Int) + i).toNat = (preV s).length + i:=by omega
   have hA : (List.map rB (preV s) ++ List.map rB l)[(preV s).length + i]? = some [A.dat (L.bool l[i])]:=by
    rw [List.getElem?_append_right (by simp)]
    simp [hgi,rB,hil]
   have hS : ∀ r,(List.map rB (preV s) ++ List.map rB l).set ((preV s).length + i) r = List.map rB (preV s) ++ (List.map rB l).set i r:=by
    intro r
    rw [List.set_append_right _ _ (by simp)]
    simp
   simp [hi,hx,hk,hgi,hil,rB,ht,hA,hS]
   exact ⟨hp1,by omega,by omega,by omega,by omega⟩
  ·simp [hi,hx,hk]
   omega
 ·rintro - -
  simp [stAt,hget,hdel,gatesP]
end Go.Proofs.YtpadinblmjlggaaGreatDoor
end

section
namespace Go.Proofs.YtpadinblmjlggaaGreatDoor
set_option maxHeartbeats 4000000
set_option maxRecDepth 10000
theorem allD_rep (n : Nat) (l : L) : allD (List.replicate n [A.dat l]) = true:=by simp [allD,List.all_replicate,isD]
theorem rowsD_rep (n : Nat) (l : L) : rowsD (List.replicate n [A.dat l]) = List.replicate n [l]:=by simp [rowsD]
attribute [simp] allD_rep rowsD_rep
def noSt : State:=⟨[],[],[],[],[]⟩
theorem CallSt.lend {g : FuncId} {az az' : List A} {s : State} (h : CallSt g az' s) {H : Heap} {K : A → Heap → Prop} (τ : Nat) (hz : (frzs H az).1 ∧ (frzs H az).2 = az') (hk : ∀ hd,K (stA τ hd) (stH τ hd s ++ H)) : CallS Tryz.prog g az H K:=by
 refine CallS.lend (K':=fun r H'=>∃ hd,r = stA τ hd ∧ H' = stH τ hd s) (h.s τ fun hd=>⟨hd,rfl,by simp⟩) hz ?_
 rintro r H' ⟨hd,rfl,rfl⟩
 refine ⟨by simp [stA],?_,hk hd⟩
 intro p hp
 simp only [stH,List.mem_cons,List.not_mem_nil,or_false] at hp
 rcases hp with rfl | rfl | rfl | rfl | rfl <;> simp
def gatesR (c : Control) (s : State) : State × Int:=if rightC c s ≠ 0 then (noSt,rightC c s) else (gatesP c s,0)
theorem Gates_fn (c : Control) (s : State) (hc : OkC c) (hs : SmS s) : CallFn Tryz.prog 18 [aC c,aSt s] (.tuple [aSt (gatesR c s).1,aI (gatesR c s).2]):=by
 refine callFz_of Tryz.func18 rfl Tryz.ntmps18 (rs:=[.cell 4 31,.tmp 5]) rfl (by kernel_rfl) (by simp) (by kernel_rfl) ?_
 simp
 intro b4
 refine (Right_fn c s hc hs).s ?_
 simp
 by_cases hz : rightC c s = 0
 ·obtain ⟨z1,z2,z3⟩:=right_zero hz
  simp [hz]
  refine (gates_o c s hc (fine_of z1) hs z2).s 60 fun hd=>?_
  simp [stA,stH,hget,packA,gatesR,hz,encSt]
 ·simp [hz,gatesR,noSt,packA,encSt]
def initV (c : Control) (i : Nat) : List Bool:=(c.signals.take i).map (·.init) ++ List.replicate (c.signals.length - i) false
def newSt (c : Control) (i : Nat) : State:=⟨List.replicate c.actuators.toNat 0,List.replicate c.actuators.toNat false,List.replicate c.inputs.length false,initV c i,List.replicate c.signals.length 0⟩
def firstSt (c : Control) : State:=gatesP c (newSt c c.signals.length)
theorem initV_length (c : Control) (i : Nat) (h : i ≤ c.signals.length) : (initV c i).length = c.signals.length:=by
 simp [initV]
 omega
theorem initV_set {c : Control} {i : Nat} {x : Signal} (h : c.signals[i]? = some x) : (initV c i).set i x.init = initV c (i + 1):=by
 obtain ⟨hlt,hx⟩:=List.getElem?_eq_some_iff.1 h
 unfold initV
 rw [List.set_append_right _ _ (by simp; omega),List.take_add_one,h]
 simp only [Option.toList_some,List.map_append,List.map_cons,List.map_nil,List.append_assoc,List.singleton_append]
 congr 1
 have e : c.signals.length - i = (c.signals.length - (i + 1)) + 1:=by omega
 rw [e,List.replicate_succ]
 simp [Nat.min_eq_left (Nat.le_of_lt hlt)]
theorem newSt_sm {c : Control} (h : Fine c) : SmS (newSt c c.signals.length):=by
 obtain ⟨h1,h2,h3,_⟩:=h
 have:=initV_length c c.signals.length (Nat.le_refl _)
 refine ⟨?_,?_,?_,?_,?_⟩ <;> simp [newSt] <;> omega
theorem newSt_shape {c : Control} (h : Fine c) : shapeS c (newSt c c.signals.length):=by
 obtain ⟨h1,h2,h3,_⟩:=h
 have:=initV_length c c.signals.length (Nat.le_refl _)
 refine ⟨?_,?_,?_,?_,?_⟩ <;> simp [newSt] <;> omega
end Go.Proofs.YtpadinblmjlggaaGreatDoor
end

section
namespace Go.Proofs.YtpadinblmjlggaaGreatDoor
set_option maxHeartbeats 8000000
set_option maxRecDepth 10000
def posOkB (ps : List Prt) (pos : List Int) (i : Nat) : Bool:=decide (0 ≤ pos.getD i 0 ∧ pos.getD i 0 < manyK (kindOf ps i))
def presE (c : Cir) (pos : List Int) : Int:=
 if cirE c ≠ 0 then cirE c else if pos.length ≠ c.parts.length then 8 else if (List.range c.parts.length).all (posOkB c.parts pos) = true then 0 else 2
theorem presE_bad {c : Cir} {pos : List Int} (h0 : cirE c = 0) (hl : pos.length = c.parts.length) {i : Nat} (hi : i < c.parts.length) (hb : posOkB c.parts pos i = false) : presE c pos = 2:=by
 unfold presE
 rw [if_neg (by simp [h0]),if_neg (by simp [hl]),if_neg]
 intro h
 have:=List.all_eq_true.1 h i (List.mem_range.2 hi)
 rw [hb] at this
 cases this
theorem presE_good {c : Cir} {pos : List Int} (h0 : cirE c = 0) (hl : pos.length = c.parts.length) (h : ∀ i,i < c.parts.length → posOkB c.parts pos i = true) : presE c pos = 0:=by
 unfold presE
 rw [if_neg (by simp [h0]),if_neg (by simp [hl]),if_pos]
 rw [List.all_eq_true]
 exact fun i hi=>h i (List.mem_range.1 hi)
theorem presCheck_fn (c : Cir) (hc : OkCir c) (pos : List Int) (hp : Sh pos) : CallFn Tryz.prog 46 [aCi c,aIs pos] (aI (presE c pos)):=by
 have hch:=CheckZ_fn c hc.names hc.parts hc.pipes
 have hl:=hc.parts
 generalize hP : presE c pos = P
 by_cases h0 : cirE c = 0
 ·have hr:=cirR_of h0
  have hf:=hr.few
  rw [h0] at hch
  refine callFz_of Tryz.func46 rfl Tryz.ntmps46 (rs:=[.tmp 4]) rfl (by kernel_rfl) (by simp) (by kernel_rfl) ?_
  simp
  refine hch.s ?_
  simp
  by_cases hlen : pos.length = c.parts.length
  ·have hlz : ((pos.length : Nat) : Int) = c.parts.length:=by omega
   simp [hlz]
   refine V.forI (σ:=Unit) c.parts.length [2,4,21,22] (by simp; exact rfl) (fun i _=>[(23,aI i)]) (fun _ _=>[]) (fun i _=>∀ j,j < i → posOkB c.parts pos j = true) () (by simp) (by simp) ⟨by simp [hlz]; exact rfl,by simp⟩ ?_ ?_
   ·rintro i ⟨⟩ hi hI
    obtain ⟨x,hx⟩ : ∃ x,c.parts[i] = x:=⟨_,rfl⟩
    have hxo : c.parts[i]? = some x:=by rw [List.getElem?_eq_getElem hi,hx]
    have hip : i < pos.length:=by omega
    obtain ⟨z,hz⟩ : ∃ z,pos[i] = z:=⟨_,rfl⟩
    have hzo : pos[i]? = some z:=by rw [List.getElem?_eq_getElem hip,hz]
    have hk:=part_kind (hr.part x (List.mem_of_getElem? hxo))
    have hpk:=Positions_k x.kind.toNat (by omega)
    rw [show ((x.kind.toNat : Nat) : Int) = x.kind from by omega] at hpk
    have hpo : posOkB c.parts pos i = decide (0 ≤ z ∧ z < manyK x.kind.toNat):=by
     unfold posOkB
     rw [kindOf_at hxo,List.getD_eq_getElem?_getD,hzo]
     rfl
    simp [hi,hip,hx,hxo,hz,hzo]
    refine hpk.s ?_
    simp
    refine ⟨fun hbad=>?_,fun h1 h2=>⟨⟨by omega,by omega⟩,fun j hj=>?_⟩⟩
    ·rw [← hP,presE_bad h0 hlen hi]
     rw [hpo]
     simp only [decide_eq_false_iff_not]
     omega
    ·by_cases e : j = i
     ·rw [e,hpo]
      simp only [decide_eq_true_eq]
      exact ⟨h1,h2⟩
     ·exact hI j (by omega)
   ·rintro ⟨⟩ hI
    simp [hlen]
    rw [← hP,presE_good h0 hlen hI]
  ·have hlz : ¬ ((pos.length : Nat) : Int) = c.parts.length:=by omega
   simp [hlz]
   rw [← hP]
   unfold presE
   rw [if_neg (by simp [h0]),if_pos (by simpa using hlen)]
 ·refine callFz_of Tryz.func46 rfl Tryz.ntmps46 (rs:=[.tmp 4]) rfl (by kernel_rfl) (by simp) (by kernel_rfl) ?_
  simp
  refine hch.s ?_
  simp [h0]
  rw [← hP]
  unfold presE
  rw [if_pos (by simpa using h0)]
theorem First_o (c : Control) (hc : OkC c) (hz : checkC c = 0) : CallS Tryz.prog 49 [aC c] [] fun r H'=>∃ hd,r = .tuple [stA 60 hd,aI 0] ∧ H' = stH 60 hd (firstSt c):=by
 refine CallS.dropP (callS_of Tryz.func49 rfl Tryz.ntmps49 (rs:=[.cell 2 31,.tmp 3]) rfl (by kernel_rfl) (by simp) (by kernel_rfl) (K:=fun r H'=>∃ hd,r = .tuple [stA 60 hd,aI 0] ∧ subP (stH 60 hd (firstSt c)) H') ?_) (fun r H' ⟨hd,h1,h2⟩=>⟨_,h2,hd,h1,rfl⟩)
 simp
 intro b2
 refine (Check_fn c hc).s ?_
 simp
 have hf:=fine_of hz
 have hcs:=hf.sig
 have hsm:=hf.sm
 have ha:=hf.act
 have hin:=hf.inp
 simp [hz]
 refine V.draw (fun _=>none) (by kernel_rfl) (by kernel_rfl) (by simp) ?_
 simp
 intro u0
 refine ⟨by omega,fun u1=>⟨by omega,fun u2=>⟨by omega,fun u3=>⟨by omega,fun u4=>⟨by omega,?_⟩⟩⟩⟩⟩
 intro b6
 refine V.forI (σ:=Unit) c.signals.length [1,2,3,6,34,35] (by simp; exact rfl) (fun i _=>[(36,aI i)]) (fun i _=>[(29,.seq u3 4 1 ((initV c i).map rB))]) (fun _ _=>True) () trivial (by simp) ⟨by simp; exact rfl,by simp [hget,hdel,initV,rB]⟩ ?_ ?_
 ·rintro i - hi -
  obtain ⟨x,hx⟩ : ∃ x,c.signals[i] = x:=⟨_,rfl⟩
  have hxo : c.signals[i]? = some x:=by rw [List.getElem?_eq_getElem hi,hx]
  rw [← initV_set hxo]
  have hl:=initV_length c i (by omega)
  generalize initV c i = l at hl ⊢
  have hil : i < l.length:=by omega
  have hgi : l[i]? = some l[i]:=List.getElem?_eq_getElem hil
  simp [hi,hx]
  intro b8
  simp [hi,hx,hil,hgi,rB]
  omega
 ·rintro - -
  simp
  refine (gates_o c (newSt c c.signals.length) hc hf (newSt_sm hf) (newSt_shape hf)).lend 60 ?_ ?_
  ·simp [hget,packA,encSt,newSt]
  ·intro hd
   simp [stA,stH,hget,packA,firstSt,encSt]
   exact ⟨hd,⟨rfl,rfl,rfl,rfl,rfl⟩,⟨_,List.sublist_append_left [_,_,_,_,_] _,List.Perm.refl _⟩⟩
end Go.Proofs.YtpadinblmjlggaaGreatDoor
end

section
namespace Go.Proofs.YtpadinblmjlggaaGreatDoor
set_option maxHeartbeats 8000000
set_option maxRecDepth 10000
def onP (pos : List Int) (i : Nat) : Bool:=pos.getD i 0 == 1
def Pln.stStep (p : Pln) (ct : Control) (pos ends : List Int) (s : State) (i : Nat) : Except Int State:=
 match drivenZ p.drives i with
 | some k=>.ok { s with valves:=s.valves.set k (onP pos i) }
 | none=>match p.line i with
  | none=>.ok s
  | some n=>
   if kindOf p.ps i = 7 then .ok { s with inputs:=s.inputs.set (n - 2 * p.drives.length) (onP pos i) }
   else if kindOf p.ps i = 6 then (if (ends.getD (n / 2) 0 == (if n % 2 = 0 then 0 else 2)) = onP pos i then .ok s else .error 16)
   else .ok { s with values:=s.values.set (n - p.first) (onP pos i),timers:=if onP pos i = true ∧ (ct.signals[n - p.first]?).map (·.kind) = some 2 then s.timers.set (n - p.first) 2 else s.timers }
def Pln.stFold (p : Pln) (ct : Control) (pos ends : List Int) (s0 : State) : Nat → Except Int State
 | 0=>.ok s0
 | i + 1=>match p.stFold ct pos ends s0 i with
  | .ok s=>p.stStep ct pos ends s i
  | .error e=>.error e
theorem stFold_err {p : Pln} {ct : Control} {pos ends : List Int} {s0 : State} {e : Int} {i : Nat} (h : p.stFold ct pos ends s0 i = .error e) : ∀ n,i ≤ n → p.stFold ct pos ends s0 n = .error e
 | 0,hn=>by rw [← h,show i = 0 by omega]
 | n + 1,hn=>by
  by_cases e1 : i = n + 1
  ·rw [← e1,h]
  ·have:=stFold_err h n (by omega)
   simp [Pln.stFold,this]
structure StS (p : Pln) (ct : Control) (ends : List Int) (s : State) : Prop where
 valves : s.valves.length = p.drives.length
 inputs : s.inputs.length = p.butt.length
 values : s.values.length = ct.signals.length
 timers : s.timers.length = ct.signals.length
 ends : s.ends = ends
theorem StS.step {p : Pln} {ct : Control} {pos ends : List Int} {s t : State} {i : Nat} (h : StS p ct ends s) (ht : p.stStep ct pos ends s i = .ok t) : StS p ct ends t:=by
 obtain ⟨h1,h2,h3,h4,h5⟩:=h
 unfold Pln.stStep at ht
 split at ht
 ·cases ht
  exact ⟨by simpa using h1,h2,h3,h4,h5⟩
 ·split at ht
  ·cases ht
   exact ⟨h1,h2,h3,h4,h5⟩
  ·split at ht
   ·cases ht
    exact ⟨h1,by simpa using h2,h3,h4,h5⟩
   ·split at ht
    ·have hcase : ∀ (b : Prop) [Decidable b],(if b then (.ok s : Except Int State) else .error 16) = .ok t → s = t:=by
      intro b _ h
      split at h <;> cases h
      rfl
     have:=hcase _ ht
     subst this
     exact ⟨h1,h2,h3,h4,h5⟩
    ·cases ht
     refine ⟨h1,h2,by simpa using h3,?_,h5⟩
     show (if _ then _ else _ : List Int).length = _
     split
     ·simpa using h4
     ·exact h4
theorem line_cases {p : Pln} (hlim : ∀ x ∈ p.ps,x.kind = 6 → (∃ q b,x.name = q ++ [b] ∧ (b = 48 ∨ b = 49) ∧ ∃ k,p.drives.findIdx? (fun d=>(p.ps.getD d.1 x).name == q) = some k)) {i n : Nat} (h : p.line i = some n) :
  (kindOf p.ps i = 7 ∧ i ∈ p.butt ∧ n = 2 * p.drives.length + p.butt.idxOf i) ∨ (kindOf p.ps i = 6 ∧ n < 2 * p.drives.length) ∨ (kindOf p.ps i ≠ 7 ∧ kindOf p.ps i ≠ 6 ∧ i ∈ p.valv ∧ n = p.first + p.order.length + p.valv.idxOf i):=by
 unfold Pln.line at h
 cases hx : p.ps[i]? with
 | none=>rw [hx] at h; simp at h
 | some x=>
  rw [hx] at h
  simp only at h
  obtain ⟨hi,hxe⟩:=List.getElem?_eq_some_iff.1 hx
  have hko:=kindOf_at hx
  split at h
  ·rename_i h7
   simp only [Option.some.injEq] at h
   have hk7 : kindOf p.ps i = 7:=by rw [hko,h7]; rfl
   exact .inl ⟨hk7,mem_buttN.2 ⟨hi,hk7⟩,h.symm⟩
  ·rename_i h7
   split at h
   ·rename_i h6
    simp only [Option.some.injEq] at h
    obtain ⟨q,b,hq,_,k,hk⟩:=hlim x (List.mem_of_getElem? hx) h6
    rw [hq] at h
    simp only [List.dropLast_concat] at h
    have hkl:=(List.findIdx?_eq_some_iff_getElem.1 hk).1
    rw [List.findIdx?_eq_some_iff_findIdx_eq] at hk
    rw [hk.2] at h
    refine .inr (.inl ⟨by rw [hko,h6]; rfl,?_⟩)
    split at h <;> omega
   ·split at h
    ·rename_i h6 hm
     simp only [Option.some.injEq] at h
     have hpk:=(mem_valvN.1 hm).2.1
     refine .inr (.inr ⟨fun e=>?_,fun e=>?_,hm,h.symm⟩)
     ·rw [e] at hpk; exact hpk rfl
     ·rw [e] at hpk; exact hpk rfl
    ·simp at h
abbrev stHp (ss : PlS) (ct : Control) (b6 b9 b12 : Nat) (g h1 h2 h3 h4 : Value) (s : State) : Heap:=
 (65,.seq g 3 1 (s.ends.map rI)) :: (61,.seq h1 4 1 (s.valves.map rB)) :: (62,.seq h2 4 1 (s.inputs.map rB)) :: (63,.seq h3 4 1 (s.values.map rB)) :: (64,.seq h4 3 1 (s.timers.map rI)) ::
 (12,.box b12 [.own 65 g,.own 61 h1,.own 62 h2,.own 63 h3,.own 64 h4]) :: (9,.box b9 ((encC ct).map A.dat)) :: (6,.box b6 [.nils,.nils,.nils,.nils,.nils]) :: ss.hp
abbrev stEnv (c : Cir) (pos ends : List Int) (ss : PlS) (b6 b9 b12 : Nat) : List (Nat × A):=[(1,aIs pos),(2,aIs ends),(3,.rptr (encCi c)),(6,.ptr 6 b6 0),(7,aI 0),(8,.ptr 170 ss.b 0),(9,.ptr 9 b9 0),(12,.ptr 12 b12 0)]
def stEnd (p : Pln) (ct : Control) (pos ends : List Int) (s0 : State) (n : Nat) : State × Int:=match p.stFold ct pos ends s0 n with
 | .error e=>(noSt,e)
 | .ok s=>gatesR ct s
theorem state_d {c : Cir} {ss : PlS} (hA : ss.At (planZ c)) (hr : CirR c) (hd : drvE c.parts (netsZ c) = 0) {ct : Control} (hok : OkC ct) (hsig : (planZ c).order.length + (planZ c).valv.length ≤ ct.signals.length) (hsl : ct.signals.length ≤ 1000000) {pos ends : List Int} (hpos : pos.length = c.parts.length) (hends : ends.length = (planZ c).drives.length)
  (b6 b9 b12 : Nat) (g h1 h2 h3 h4 : Value) {s0 : State} (hs0 : StS (planZ c) ct ends s0) :
  V ⟨Tryz.prog,none,164⟩ (restC Tryz.f10 9) (hdE (stEnv c pos ends ss b6 b9 b12) []) (stHp ss ct b6 b9 b12 g h1 h2 h3 h4 s0)
   (RetV Tryz.prog [.cell 6 31,.tmp 7] fun r' H'=>(frz H' r').1 ∧ (frz H' r').2 = .tuple [aSt (stEnd (planZ c) ct pos ends s0 c.parts.length).1,aI (stEnd (planZ c) ct pos ends s0 c.parts.length).2]):=by
 have hps : (planZ c).ps = c.parts:=rfl
 have hpl : c.parts.length ≤ 64:=hr.few
 have hdl : (planZ c).drives.length ≤ 64:=(planZ_B hr).dl
 have hbl : (planZ c).butt.length ≤ 64:=(planZ_B hr).bl
 have hlim:=planZ_lim hr
 have hfirst : (planZ c).first = 2 * (planZ c).drives.length + (planZ c).butt.length:=rfl
 have hdr:=hA.dr
 generalize hR : stEnd (planZ c) ct pos ends s0 c.parts.length = R
 refine V.rest rfl ?_
 refine V.of_vcN 1 ?_
 simp
 refine V.forI (σ:=State) c.parts.length [1,2,6,7,8,9,12,62] (by simp; exact rfl) (fun i _=>[(63,aI i)]) (fun _ s=>stHp ss ct b6 b9 b12 g h1 h2 h3 h4 s) (fun i s=>(planZ c).stFold ct pos ends s0 i = .ok s ∧ StS (planZ c) ct ends s) s0 ⟨rfl,hs0⟩ (by simp) ⟨by simp; exact rfl,by simp⟩ ?_ ?_
 ·rintro i ⟨s1,s2,s3,s4,s5⟩ hi ⟨hI,hS⟩
  have hSn:=fun t=>hS.step (pos:=pos) (i:=i) (t:=t)
  obtain ⟨z1,z2,z3,z4,z5⟩:=hS
  simp only at z1 z2 z3 z4 z5
  subst z5
  have hip : i < pos.length:=by omega
  obtain ⟨z,hz⟩ : ∃ z,pos[i] = z:=⟨_,rfl⟩
  have hzo : pos[i]? = some z:=by rw [List.getElem?_eq_getElem hip,hz]
  have hon : onP pos i = (z == 1):=by unfold onP; rw [List.getD_eq_getElem?_getD,hzo]; rfl
  have hdv:=driven_s hA.ok hA.dr (by omega) i
  have hkk:=hA.kind (i:=i) hi
  have hff:=first_s hA
  have hl:=hA.line i
  have hfold : (planZ c).stFold ct pos s1 s0 (i + 1) = (planZ c).stStep ct pos s1 ⟨s1,s2,s3,s4,s5⟩ i:=by simp only [Pln.stFold,hI]
  have herr : ∀ e,(planZ c).stStep ct pos s1 ⟨s1,s2,s3,s4,s5⟩ i = .error e → R = (noSt,e):=fun e he=>by
   rw [← hR]
   unfold stEnd
   rw [stFold_err (i:=i + 1) (by rw [hfold,he]) c.parts.length (by omega)]
  rw [hfold]
  generalize hT : (planZ c).stStep ct pos s1 ⟨s1,s2,s3,s4,s5⟩ i = T at *
  unfold Pln.stStep at hT
  simp only at hT
  rw [hon] at hT
  simp [hi,hip,hz,hzo]
  refine (hdv.mid [(65,_),(61,_),(62,_),(63,_),(64,_),(12,_),(9,_),(6,_)] []).mono ?_
  rintro r H' ⟨rfl,rfl⟩
  generalize hb : (z == 1) = on at *
  cases hz2 : drivenZ (planZ c).drives i with
  | some k=>
   have hkl:=drivenZ_lt hz2
   rw [hz2] at hT
   simp only at hT
   subst hT
   have hk2 : k < s2.length:=by omega
   obtain ⟨y,hy⟩ : ∃ y,s2[k] = y:=⟨_,rfl⟩
   have hyo : s2[k]? = some y:=by rw [List.getElem?_eq_getElem hk2,hy]
   have hnx:=hSn _ rfl
   simp [idxI,hk2,hy,hyo]
   exact ⟨⟨by omega,by omega⟩,⟨s1,s2.set k on,s3,s4,s5⟩,⟨rfl,hnx⟩,rfl,by simp,rfl,rfl,rfl⟩
  | none=>
   rw [hz2] at hT
   simp only at hT
   cases hn : (planZ c).line i with
   | none=>
    rw [hn] at hl hT
    simp only at hT
    subst hT
    have hnx:=hSn _ rfl
    simp [idxI,hl]
    exact ⟨⟨by omega,by omega⟩,⟨s1,s2,s3,s4,s5⟩,⟨rfl,hnx⟩,rfl,rfl,rfl,rfl,rfl⟩
   | some n=>
    rw [hn] at hl hT
    simp only at hT
    have hkm:=hkk.mid [(65,.seq g 3 1 (s1.map rI)),(61,.seq h1 4 1 (s2.map rB)),(62,.seq h2 4 1 (s3.map rB)),(63,.seq h3 4 1 (s4.map rB)),(64,.seq h4 3 1 (s5.map rI)),(12,.box b12 [.own 65 g,.own 61 h1,.own 62 h2,.own 63 h3,.own 64 h4]),(9,.box b9 ((encC ct).map A.dat)),(6,.box b6 [.nils,.nils,.nils,.nils,.nils])] []
    have hfm:=first_s hA
    rcases line_cases hlim hn with ⟨hk,hm,hne⟩ | ⟨hk,hne⟩ | ⟨hk7,hk6,hm,hne⟩
    ·have hj:=List.idxOf_lt_length_of_mem hm
     generalize (planZ c).butt.idxOf i = j at *
     subst hne
     rw [if_pos hk,show 2 * (planZ c).drives.length + j - 2 * (planZ c).drives.length = j by omega] at hT
     subst hT
     have hnx:=hSn _ rfl
     have hj3 : j < s3.length:=by omega
     obtain ⟨y,hy⟩ : ∃ y,s3[j] = y:=⟨_,rfl⟩
     have hyo : s3[j]? = some y:=by rw [List.getElem?_eq_getElem hj3,hy]
     simp [idxI,hl]
     refine hkm.mono ?_
     rintro r H' ⟨rfl,rfl⟩
     rw [hk]
     simp
     refine V.drawX (fun _=>none) (by kernel_rfl) (by kernel_rfl) (by simp) ?_
     simp [hdr,hl,hj3,hy,hyo,show (2 * ((planZ c).drives.length : Int) + (j : Int) - 2 * ((planZ c).drives.length : Int)) = (j : Int) by omega]
     exact ⟨⟨by omega,by omega⟩,by omega,by kernel_rfl,⟨by omega,by omega⟩,⟨s1,s2,s3.set j on,s4,s5⟩,⟨rfl,hnx⟩,rfl,rfl,by simp,rfl,rfl⟩
    ·rw [if_neg (by omega),if_pos hk] at hT
     simp [idxI,hl]
     refine hkm.mono ?_
     rintro r H' ⟨rfl,rfl⟩
     rw [hk]
     simp
     refine hkm.mono ?_
     rintro r H' ⟨rfl,rfl⟩
     rw [hk]
     simp
     obtain ⟨k,hk2⟩ : ∃ k,n / 2 = k:=⟨_,rfl⟩
     have hq0 : (n : Int) / 2 = (k : Int):=by omega
     have hk3 : k < s1.length:=by omega
     obtain ⟨y,hy⟩ : ∃ y,s1[k] = y:=⟨_,rfl⟩
     have hyo : s1[k]? = some y:=by rw [List.getElem?_eq_getElem hk3,hy]
     rw [hk2,show s1.getD k 0 = y by rw [List.getD_eq_getElem?_getD,hyo]; rfl] at hT
     rcases (show n % 2 = 0 ∨ n % 2 = 1 by omega) with hm | hm
     ·have hr0 : (n : Int).tmod 2 = 0:=by rw [Int.tmod_eq_emod_of_nonneg (by omega)]; omega
      rw [if_pos hm] at hT
      refine V.drawX (fun _=>none) (by kernel_rfl) (by kernel_rfl) (by simp) ?_
      simp [hl,hq0,hr0,hk3,hy,hyo]
      refine ⟨by omega,fun hne=>?_,fun heq=>?_⟩
      ·rw [if_neg hne] at hT
       have:=herr 16 hT.symm
       rw [this]
       simp [noSt]
      ·rw [if_pos heq] at hT
       exact ⟨⟨by omega,by omega⟩,⟨s1,s2,s3,s4,s5⟩,⟨hT.symm,hSn _ hT.symm⟩,rfl,rfl,rfl,rfl,rfl⟩
     ·have hr0 : (n : Int).tmod 2 = 1:=by rw [Int.tmod_eq_emod_of_nonneg (by omega)]; omega
      rw [if_neg (by omega : ¬ n % 2 = 0)] at hT
      refine V.drawX (fun _=>none) (by kernel_rfl) (by kernel_rfl) (by simp) ?_
      simp [hl,hq0,hr0,hk3,hy,hyo]
      refine ⟨by omega,fun hne=>?_,fun heq=>?_⟩
      ·rw [if_neg hne] at hT
       have:=herr 16 hT.symm
       rw [this]
       simp [noSt]
      ·rw [if_pos heq] at hT
       exact ⟨⟨by omega,by omega⟩,⟨s1,s2,s3,s4,s5⟩,⟨hT.symm,hSn _ hT.symm⟩,rfl,rfl,rfl,rfl,rfl⟩
    ·rw [if_neg hk7,if_neg hk6] at hT
     have hk7' : ¬ ((kindOf (planZ c).ps i : Nat) : Int) = 7:=by omega
     have hk6' : ¬ ((kindOf (planZ c).ps i : Nat) : Int) = 6:=by omega
     simp [idxI,hl]
     refine hkm.mono ?_
     rintro r H' ⟨rfl,rfl⟩
     simp [hk7']
     refine hkm.mono ?_
     rintro r H' ⟨rfl,rfl⟩
     simp [hk6']
     have hj:=List.idxOf_lt_length_of_mem hm
     obtain ⟨m,hnm⟩ : ∃ m,n = (planZ c).first + m:=⟨(planZ c).order.length + (planZ c).valv.idxOf i,by omega⟩
     have hms : m < ct.signals.length:=by omega
     have hfl : (planZ c).first ≤ 200:=by omega
     subst hnm
     rw [show (planZ c).first + m - (planZ c).first = m by omega] at hT
     generalize (planZ c).first = F at *
     obtain ⟨x,hx⟩ : ∃ x,ct.signals[m] = x:=⟨_,rfl⟩
     have hxo : ct.signals[m]? = some x:=by rw [List.getElem?_eq_getElem hms,hx]
     obtain ⟨y,hy⟩ : ∃ y,s4[m]'(by omega) = y:=⟨_,rfl⟩
     have hyo : s4[m]? = some y:=by rw [List.getElem?_eq_getElem (by omega),hy]
     obtain ⟨w,hw⟩ : ∃ w,s5[m]'(by omega) = w:=⟨_,rfl⟩
     have hwo : s5[m]? = some w:=by rw [List.getElem?_eq_getElem (by omega),hw]
     have hm4 : m < s4.length:=by omega
     have hm5 : m < s5.length:=by omega
     have hFm : (F : Int) + (m : Int) - (F : Int) = (m : Int):=by omega
     rw [hxo] at hT
     simp only [Option.map_some,Option.some.injEq] at hT
     refine V.drawX (fun t=>if t = 87 then some (.ro (aI F)) else none) (by kernel_rfl) (by kernel_rfl) (by simp) ?_
     simp [hl,hFm,hm4,hy,hyo]
     refine ⟨hfm,?_⟩
     simp
     refine ⟨by omega,by kernel_rfl,?_⟩
     refine V.drawX (fun t=>if t = 97 then some (.ro (aI F)) else none) (by kernel_rfl) (by kernel_rfl) (by simp) ?_
     cases on
     ·rw [if_neg (by simp)] at hT
      simp [hl,hFm,hms,hx,hxo]
      exact ⟨⟨by omega,by omega⟩,⟨s1,s2,s3,s4.set m false,s5⟩,⟨hT.symm,hSn _ hT.symm⟩,rfl,rfl,rfl,by simp,rfl⟩
     ·simp [hl,hFm,hms,hx,hxo]
      refine ⟨hfm,?_⟩
      simp
      refine ⟨by omega,fun hk2=>?_,fun hk2=>?_⟩
      ·rw [if_pos ⟨rfl,hk2⟩] at hT
       refine V.drawX (fun t=>if t = 108 then some (.ro (aI F)) else none) (by kernel_rfl) (by kernel_rfl) (by simp) ?_
       simp [hl,hFm,hm5,hw,hwo]
       refine ⟨hfm,?_⟩
       simp
       exact ⟨by omega,by kernel_rfl,⟨by omega,by omega⟩,⟨s1,s2,s3,s4.set m true,s5.set m 2⟩,⟨hT.symm,hSn _ hT.symm⟩,rfl,rfl,rfl,by simp,by simp⟩
      ·rw [if_neg (fun h=>hk2 h.2)] at hT
       exact ⟨⟨by omega,by omega⟩,⟨s1,s2,s3,s4.set m true,s5⟩,⟨hT.symm,hSn _ hT.symm⟩,rfl,rfl,rfl,by simp,rfl⟩
 ·rintro ⟨s1,s2,s3,s4,s5⟩ ⟨hI,hS⟩
  obtain ⟨z1,z2,z3,z4,z5⟩:=hS
  simp only at z1 z2 z3 z4 z5
  subst z5
  have hsm : SmS ⟨s1,s2,s3,s4,s5⟩:=⟨by simp only; omega,by simp only; omega,by simp only; omega,by simp only; omega,by simp only; omega⟩
  have hgt:=Gates_fn ct ⟨s1,s2,s3,s4,s5⟩ hok hsm
  have hRe : R = gatesR ct ⟨s1,s2,s3,s4,s5⟩:=by rw [← hR]; unfold stEnd; rw [hI]
  rw [← hRe] at hgt
  simp
  refine V.of_vc ?_
  simp
  refine hgt.give (Hc:=[(65,_),(61,_),(62,_),(63,_),(64,_)]) (Hr:=(12,.box b12 [.own 65 g,.own 61 h1,.own 62 h2,.own 63 h3,.own 64 h4]) :: (9,.box b9 ((encC ct).map A.dat)) :: (6,.box b6 [.nils,.nils,.nils,.nils,.nils]) :: ss.hp) rfl (by simp [frzs,frz,rowsD,allD,isD]) ?_
  simp
end Go.Proofs.YtpadinblmjlggaaGreatDoor
end

section
namespace Go.Proofs.YtpadinblmjlggaaGreatDoor
set_option maxHeartbeats 8000000
set_option maxRecDepth 10000
theorem idx_find {l : List Nat} {i : Nat} (h : i ∈ l) : l.findIdx? (i == ·) = some (l.idxOf i):=by
 rw [List.findIdx?_eq_some_iff_findIdx_eq]
 refine ⟨List.idxOf_lt_length_of_mem h,?_⟩
 unfold List.idxOf
 congr 1
 funext x
 rw [Bool.eq_iff_iff]
 simp only [beq_iff_eq]
 exact eq_comm
theorem placeR_fn {c : Cir} (h : PlR c) {i n : Nat} (hn : (planZ c).line i = some n) (hi : i < c.parts.length) : CallFn Tryz.prog 58 [.record (encPl (planZ c) c.pipes),aI i] (aI n):=by
 have hB:=planZ_B h.cir
 have hf:=firstR_fn h
 have hbu:=Buttons_o h.cir
 have hva:=Valves_fn h.cir (d:=(planZ c).drives) (by have:=hB.dl; omega)
 have hdl:=hB.dl
 have hol:=hB.ol
 have hbl:=hB.bl
 have hvl:=hB.vl
 have hfl:=hB.fl
 have hlim:=planZ_lim h.cir
 have hps : (planZ c).ps = c.parts:=rfl
 have hdm:=fun d (hd : d ∈ (planZ c).drives)=>(mem_drvN h.drv hd).1
 obtain ⟨x,hx⟩ : ∃ x,c.parts[i] = x:=⟨_,rfl⟩
 have hxo : c.parts[i]? = some x:=by rw [List.getElem?_eq_getElem hi,hx]
 obtain ⟨hk,hk14⟩:=kind_of h.cir hxo
 have hxm:=List.mem_of_getElem? hxo
 have hxl:=(part_len (h.cir.part x hxm)).1
 change CallFn _ _ _ (aNs (planZ c).butt) at hbu
 change CallFn _ _ _ (aNs (planZ c).valv) at hva
 rcases line_cases hlim hn with ⟨hk7,hm,hne⟩ | ⟨hk6,hne⟩ | ⟨hk7,hk6,hm,hne⟩
 ·change kindOf c.parts i = 7 at hk7
  have hx7 : x.kind = 7:=by omega
  have hat:=at_fn (planZ c).butt i (by unfold Sh; omega)
  have hj:=List.idxOf_lt_length_of_mem hm
  have hje : (planZ c).butt.findIdx? (i == ·) = some ((planZ c).butt.idxOf i):=idx_find hm
  rw [hje] at hat
  generalize (planZ c).butt.idxOf i = j at *
  generalize (planZ c).butt = bu at *
  subst hne
  refine callFz_of Tryz.func58 rfl Tryz.ntmps58 (rs:=[.tmp 4]) rfl (by kernel_rfl) (by simp) (by kernel_rfl) ?_
  simp [hps,hi,hx,hxo,hx7]
  intro b5
  refine V.drawX (fun t=>if t = 23 then some (.fn (aNs bu)) else if t = 25 then some (.fn (aI j)) else none) (by kernel_rfl) (by kernel_rfl) (by simp) ?_
  simp [hps]
  exact ⟨⟨by omega,by omega⟩,hbu,hat,by omega,by omega⟩
 ·change kindOf c.parts i = 6 at hk6
  have hx6 : x.kind = 6:=by omega
  obtain ⟨q,b,hq,hb,kx,hkx⟩:=hlim x hxm hx6
  have hline : (planZ c).line i = some (2 * kx + if b = 49 then 1 else 0):=by
   unfold Pln.line
   rw [hps,hxo]
   simp only
   rw [if_neg (by omega),if_pos hx6,hq]
   simp only [List.dropLast_concat,List.getLast?_append,List.getLast?_singleton,Option.some_or,Option.some.injEq]
   rw [List.findIdx?_eq_some_iff_findIdx_eq] at hkx
   rw [hkx.2]
  rw [hline] at hn
  simp only [Option.some.injEq] at hn
  subst hn
  have hpd:=fun d (hd : d ∈ (planZ c).drives)=>hdm d hd
  generalize hDR : (planZ c).drives = DR at *
  obtain ⟨x1,x2,x3⟩:=x
  simp only at hx6 hq hxl
  subst hx6
  subst hq
  simp at hxl
  refine callFz_of Tryz.func58 rfl Tryz.ntmps58 (rs:=[.tmp 4]) rfl (by kernel_rfl) (by simp) (by kernel_rfl) ?_
  simp [hps,hi,hx,hxo,hDR]
  intro b5
  refine V.forI (σ:=Unit) DR.length [2,4,5,6] (by simp; exact rfl) (fun n _=>[(7,aI n)]) (fun _ _=>[(5,.box b5 [aI 6,aT (q ++ [b]),aI x3])]) (fun n _=>NoF (fun d : Drv=>(c.parts.getD d.1 ⟨6,q ++ [b],x3⟩).name == q) (DR.take n)) () (by simp) (by simp) ⟨by simp; exact rfl,by simp⟩ ?_ ?_
  ·rintro n ⟨⟩ hn hI
   obtain ⟨d,hd⟩ : ∃ d,DR[n] = d:=⟨_,rfl⟩
   have hdo : DR[n]? = some d:=by rw [List.getElem?_eq_getElem hn,hd]
   have hs:=findIdx_step (p:=fun d : Drv=>(c.parts.getD d.1 ⟨6,q ++ [b],x3⟩).name == q) hI hdo
   have hdl1:=hpd d (List.mem_of_getElem? hdo)
   obtain ⟨y,hy⟩ : ∃ y,c.parts[d.1] = y:=⟨_,rfl⟩
   have hyo : c.parts[d.1]? = some y:=by rw [List.getElem?_eq_getElem hdl1,hy]
   rw [List.getD_eq_getElem?_getD,hyo,Option.getD_some] at hs
   simp [hn,hd,hdo,hDR]
   refine V.drawX (fun _=>none) (by kernel_rfl) (by kernel_rfl) (by simp) ?_
   simp [hps,hn,hd,hdo,hDR,hdl1,hy,hyo]
   refine ⟨by omega,fun e=>?_,fun e=>⟨⟨by omega,by omega⟩,?_⟩⟩
   ·have h1:=hs.2 (by rw [e]; simp)
    rw [hkx] at h1
    cases h1
    rcases hb with rfl | rfl
    ·refine ⟨⟨by omega,by omega⟩,by omega,by omega,⟨by decide,by decide⟩,⟨by decide,by decide⟩,⟨by simp; omega,by simp; omega⟩,by simp⟩
    ·refine ⟨⟨by omega,by omega⟩,by omega,by omega,⟨by decide,by decide⟩,⟨by decide,by decide⟩,⟨by simp; omega,by simp; omega⟩,by simp⟩
   ·have:=hs.1 (by simpa using e)
    simpa using this
  ·rintro ⟨⟩ hI
   have:=findIdx_none hI
   rw [hkx] at this
   cases this
 ·change kindOf c.parts i ≠ 7 at hk7
  change kindOf c.parts i ≠ 6 at hk6
  have hx7 : ¬ x.kind = 7:=by omega
  have hx6 : ¬ x.kind = 6:=by omega
  have hat:=at_fn (planZ c).valv i (by unfold Sh; omega)
  have hj:=List.idxOf_lt_length_of_mem hm
  have hje : (planZ c).valv.findIdx? (i == ·) = some ((planZ c).valv.idxOf i):=idx_find hm
  rw [hje] at hat
  generalize (planZ c).valv.idxOf i = j at *
  generalize (planZ c).valv = va at *
  subst hne
  refine callFz_of Tryz.func58 rfl Tryz.ntmps58 (rs:=[.tmp 4]) rfl (by kernel_rfl) (by simp) (by kernel_rfl) ?_
  simp [hps,hi,hx,hxo,hx7,hx6]
  intro b5
  refine V.drawX (fun t=>if t = 31 then some (.fn (aI (planZ c).first)) else if t = 40 then some (.fn (aNs va)) else if t = 42 then some (.fn (aI j)) else none) (by kernel_rfl) (by kernel_rfl) (by simp) ?_
  simp [hps]
  exact ⟨hf,⟨by omega,by omega⟩,hva,hat,by omega,by omega⟩
theorem manyK_line {c : Cir} (h : PlR c) {i : Nat} (hi : i < c.parts.length) (hm : 1 < manyK (kindOf c.parts i)) (hd : drivenZ (planZ c).drives i = none) : ∃ n,(planZ c).line i = some n:=by
 obtain ⟨x,hx⟩ : ∃ x,c.parts[i] = x:=⟨_,rfl⟩
 have hxo : c.parts[i]? = some x:=by rw [List.getElem?_eq_getElem hi,hx]
 obtain ⟨hk,hk14⟩:=kind_of h.cir hxo
 have hps : (planZ c).ps = c.parts:=rfl
 unfold Pln.line
 rw [hps,hxo]
 simp only
 by_cases h7 : x.kind = 7
 ·rw [if_pos h7]; exact ⟨_,rfl⟩
 ·rw [if_neg h7]
  by_cases h6 : x.kind = 6
  ·rw [if_pos h6]; exact ⟨_,rfl⟩
  ·rw [if_neg h6]
   have hp : plusK (kindOf c.parts i) ≠ []:=by
    have h7' : kindOf c.parts i ≠ 7:=by omega
    have h6' : kindOf c.parts i ≠ 6:=by omega
    revert hm h7' h6'
    generalize kindOf c.parts i = k at hk14
    revert k
    refine k_cases ⟨?_,?_,?_,?_,?_,?_,?_,?_,?_,?_,?_,?_,?_,?_⟩ <;> decide
   have hmv : i ∈ (planZ c).valv:=mem_valvN.2 ⟨hi,hp,hd⟩
   rw [if_pos hmv]
   exact ⟨_,rfl⟩
theorem term_d {c : Cir} (g : Gift) (b4 : Nat) (u v : Value) (Ls Ms : List Expr) (hL : Ls.length ≤ 2) (hM : Ms.length ≤ 2) : V ⟨Tryz.prog,none,73⟩ (restC Tryz.f229 4)
  (hdE [(2,.rptr (encPl (planZ c) c.pipes)),(3,.rptr (encGf g)),(4,.ptr 4 b4 0),(5,.own 32 u),(6,.own 54 v)] []) [(54,.seq v 98 3 (Ms.map rE)),(32,.seq u 98 3 (Ls.map rE)),(4,.box b4 [aI 0,aI 0,.nils])]
  (RetV Tryz.prog [.cell 4 98] fun r' H'=>(frz H' r').1 ∧ (frz H' r').2 = aE (sevE 3 (Ls ++ (if g.pass.all = true then Ms else [sevE 4 Ms])))):=by
 have h4:=joinedR_fn 4 Ms (by omega)
 have h3:=joinedR_fn 3 (Ls ++ (if g.pass.all = true then Ms else [sevE 4 Ms])) (by split <;> simp <;> omega)
 obtain ⟨Z,hZ⟩ : ∃ Z,sevE 3 (Ls ++ (if g.pass.all = true then Ms else [sevE 4 Ms])) = Z:=⟨_,rfl⟩
 rw [hZ] at h3 ⊢
 refine V.rest rfl ?_
 refine V.frz1 (τ:=54) (h:=v) (e:=98) (sz:=3) (rows:=Ms.map rE) 6 rfl rfl (allD_E _) ?_
 rw [rowsD_E]
 refine V.of_vc ?_
 simp
 refine ⟨fun hc u'=>?_,fun hall hlen=>?_⟩
 ·have e : (if g.pass.all = true then Ms else [sevE 4 Ms]) = Ms:=by
   cases hall : g.pass.all with
   | true=>rfl
   | false=>
    rw [hall] at hc
    simp at hc
    cases Ms with
    | nil=>simp at hc
    | cons m Ms=>
     cases Ms with
     | nil=>rfl
     | cons m2 Ms=>
      simp at hc
      omega
  rw [e] at h3
  rw [mapE]
  refine ⟨⟨?_,by omega⟩,h3.give (Hc:=[(32,_)]) (Hr:=[(4,.box b4 [aI 0,aI 0,.nils])]) rfl (by simp [frzs,frz]) ?_⟩
  ·intro y hy
   obtain ⟨x,_,rfl⟩:=List.mem_map.1 hy
   simp [encE_eq]
  ·simp
 ·rw [if_neg (by simp [hall])] at h3
  obtain ⟨x,hx⟩ : ∃ x,sevE 4 Ms = x:=⟨_,rfl⟩
  rw [hx] at h4 h3
  refine h4.s ?_
  simp
  intro u'
  refine ⟨by omega,h3.give (Hc:=[(32,_)]) (Hr:=[(4,.box b4 [aI 0,aI 0,.nils])]) rfl (by simp [frzs,frz,encE_eq]) ?_⟩
  simp
theorem term_e {c : Cir} (h : PlR c) {g : Gift} (hsl : g.pass.src.length ≤ 2) (hsrc : ∀ t ∈ g.pass.src,((g.part : Int),t) ∈ allP c.parts) (b4 : Nat) (u : Value) (Ls : List Expr) (hL : Ls.length ≤ 2) : V ⟨Tryz.prog,none,73⟩ (restC Tryz.f229 3)
  (hdE [(2,.rptr (encPl (planZ c) c.pipes)),(3,.rptr (encGf g)),(4,.ptr 4 b4 0),(5,.own 32 u),(6,.nils)] []) [(32,.seq u 98 3 (Ls.map rE)),(4,.box b4 [aI 0,aI 0,.nils])]
  (RetV Tryz.prog [.cell 4 98] fun r' H'=>(frz H' r').1 ∧ (frz H' r').2 = aE (sevE 3 (Ls ++ (if g.pass.all = true then g.pass.src.map ((planZ c).gate g.part) else [sevE 4 (g.pass.src.map ((planZ c).gate g.part))])))):=by
 have hgt:=fun t ht=>gateR_fn h (i:=g.part) (t:=t) (hsrc t ht)
 refine V.rest rfl ?_
 refine V.of_vcN 1 ?_
 simp
 refine V.forI (σ:=Value) g.pass.src.length [2,3,4,5] (by simp; exact rfl) (fun i v=>[(6,.own 54 v),(8,aI i)]) (fun i v=>[(54,.seq v 98 3 (((g.pass.src.take i).map ((planZ c).gate g.part)).map rE)),(32,.seq u 98 3 (Ls.map rE)),(4,.box b4 [aI 0,aI 0,.nils])]) (fun _ _=>True) (.slice none 0 0) trivial (by simp) ⟨by simp; exact rfl,by simp⟩ ?_ ?_
 ·rintro i v hi -
  obtain ⟨t,ht⟩ : ∃ t,g.pass.src[i] = t:=⟨_,rfl⟩
  have hto : g.pass.src[i]? = some t:=by rw [List.getElem?_eq_getElem hi,ht]
  have hg:=hgt t (List.mem_of_getElem? hto)
  have e1 : ((g.pass.src.take (i + 1)).map ((planZ c).gate g.part)) = (g.pass.src.take i).map ((planZ c).gate g.part) ++ [(planZ c).gate g.part t]:=by
   rw [List.take_add_one,hto,List.map_append]
   rfl
  have hW : ((g.pass.src.take i).map ((planZ c).gate g.part)).length ≤ 2:=by rw [List.length_map,List.length_take]; omega
  rw [e1]
  generalize (g.pass.src.take i).map ((planZ c).gate g.part) = W at *
  generalize (planZ c).gate g.part t = G at *
  simp [hi,ht,hto]
  refine V.drawX (fun k=>if k = 52 then some (.fn (aE G)) else none) (by kernel_rfl) (by kernel_rfl) (by simp) ?_
  simp [hi,ht,hto]
  exact ⟨hg,by omega,by omega,by omega⟩
 ·rintro v -
  rw [List.take_length]
  simp
  exact V.cutV (Hs:=[(54,.seq v 98 3 ((g.pass.src.map ((planZ c).gate g.part)).map rE)),(32,.seq u 98 3 (Ls.map rE)),(4,.box b4 [aI 0,aI 0,.nils])]) [(2,.rptr (encPl (planZ c) c.pipes)),(3,.rptr (encGf g)),(4,.ptr 4 b4 0),(5,.own 32 u),(6,.own 54 v)] (by simp) (by simp) (V.of_rest rfl (term_d (c:=c) g b4 u v Ls (g.pass.src.map ((planZ c).gate g.part)) hL (by simpa using hsl)))
theorem termR_fn {c : Cir} (h : PlR c) {g : Gift} (hg : g.part < c.parts.length) (hd : drivenZ (planZ c).drives g.part = none) (hsl : g.pass.src.length ≤ 2) (hsrc : ∀ t ∈ g.pass.src,((g.part : Int),t) ∈ allP c.parts) :
  CallFn Tryz.prog 229 [.record (encPl (planZ c) c.pipes),.record (encGf g)] (aE ((planZ c).term g)):=by
 obtain ⟨x,hx⟩ : ∃ x,c.parts[g.part] = x:=⟨_,rfl⟩
 have hxo : c.parts[g.part]? = some x:=by rw [List.getElem?_eq_getElem hg,hx]
 obtain ⟨hk,hk14⟩:=kind_of h.cir hxo
 have hmy:=Many_fn (kindOf c.parts g.part) hk14
 rw [← hk] at hmy
 have hgt:=fun t ht=>gateR_fn h (i:=g.part) (t:=t) (hsrc t ht)
 have hps : (planZ c).ps = c.parts:=rfl
 have hmt : (planZ c).term g = sevE 3 ((planZ c).posL g ++ (if g.pass.all = true then g.pass.src.map ((planZ c).gate g.part) else [sevE 4 (g.pass.src.map ((planZ c).gate g.part))])):=rfl
 rw [hmt]
 have hrest:=fun b4 u Ls hL=>term_e h hsl hsrc b4 u Ls hL
 generalize (if g.pass.all = true then g.pass.src.map ((planZ c).gate g.part) else [sevE 4 (g.pass.src.map ((planZ c).gate g.part))]) = T at hrest ⊢
 refine callFz_cut 3 Tryz.func229 rfl Tryz.ntmps229 (rs:=[.cell 4 98]) rfl (by kernel_rfl) (by simp) (by kernel_rfl) ?_
 simp [hps,hg,hx,hxo]
 intro b4
 refine hmy.s ?_
 simp
 refine ⟨fun hm=>?_,fun hm=>?_⟩
 ·obtain ⟨n,hn⟩:=manyK_line h hg (by omega) hd
  have hpl:=placeR_fn h hn hg
  have hp : (planZ c).posL g = [if g.pos = 0 then notE (varE ((n : Nat) : Int)) else varE ((n : Nat) : Int)]:=by
   unfold Pln.posL
   rw [hps,if_pos (by omega),hn]
   rfl
  rw [hp]
  obtain ⟨y,hy⟩ : ∃ y,varE (n : Int) = y:=⟨_,rfl⟩
  have hv:=variableR_fn n
  have hop:=turned_fn y
  rw [hy] at hv ⊢
  refine hpl.s ?_
  simp
  refine hv.s ?_
  simp
  intro b7
  refine ⟨fun h0=>?_,fun h0=>?_⟩
  ·refine hop.s ?_
   rw [if_pos h0]
   obtain ⟨z,hz⟩ : ∃ z,notE y = z:=⟨_,rfl⟩
   rw [hz]
   simp
   intro u
   exact V.cutV (Hs:=[(32,.seq u 98 3 ([z].map rE)),(4,.box b4 [aI 0,aI 0,.nils])]) [(2,.rptr (encPl (planZ c) c.pipes)),(3,.rptr (encGf g)),(4,.ptr 4 b4 0),(5,.own 32 u),(6,.nils)] (by simp) (by simp) (V.of_rest rfl (hrest b4 u [z] (by simp)))
  ·rw [if_neg h0]
   simp
   intro u
   exact V.cutV (Hs:=[(32,.seq u 98 3 ([y].map rE)),(4,.box b4 [aI 0,aI 0,.nils])]) [(2,.rptr (encPl (planZ c) c.pipes)),(3,.rptr (encGf g)),(4,.ptr 4 b4 0),(5,.own 32 u),(6,.nils)] (by simp) (by simp) (V.of_rest rfl (hrest b4 u [y] (by simp)))
 ·have hp : (planZ c).posL g = []:=by
   unfold Pln.posL
   rw [hps,if_neg (by omega)]
  rw [hp]
  exact V.cutV (Hs:=[(32,.seq (.slice none 0 0) 98 3 (([] : List Expr).map rE)),(4,.box b4 [aI 0,aI 0,.nils])]) [(2,.rptr (encPl (planZ c) c.pipes)),(3,.rptr (encGf g)),(4,.ptr 4 b4 0),(5,.own 32 (.slice none 0 0)),(6,.nils)] (by simp) (by simp) (V.of_rest rfl (hrest b4 (.slice none 0 0) [] (by simp)))
end Go.Proofs.YtpadinblmjlggaaGreatDoor
end
