/- Texts joined by a program: Fxo,Ku,Kp,Km,Jc,Soa,Sra,Sn. -/
import Derived.Sort.Grow
import Derived.Shelf.Sort.Plain
import Derived.Shelf.Slices.In.SortNone
import Derived.Test.YtpadinblmjlggaaGreatDoorProg
import Derived.KernelRfl
import Derived.Test.YtpadinblmjlggaaGreatDoorP14
import Derived.Test.YtpadinblmjlggaaGreatDoorP12
import Derived.Test.YtpadinblmjlggaaGreatDoorP13
import Derived.Test.YtpadinblmjlggaaGreatDoorP10
set_option linter.unusedSimpArgs false
set_option linter.unusedVariables false

section
namespace Go.Proofs.YtpadinblmjlggaaGreatDoor
variable {P : Program}
theorem V.forV {C : Cfg} {E : Env} {H : Heap} {Q : PostQ} {c : Code} {σ : Type} {kv : List (Nat × A)} {kh : Heap} (n : Nat) (Lv : List Nat) (hkv : kv = Lv.map fun t=>(t,E t)) (sl : Nat → σ → List (Nat × A)) (Hs : Nat → σ → Heap) (I : Nat → σ → Prop) (s0 : σ)
  (hI0 : I 0 s0) (hE0 : ∀ p ∈ sl 0 s0,wk (E p.1) p.2) (hH0 : kh = kpH (Hs 0 s0) H ∧ subN (hcat (Hs 0 s0) kh) H)
  (hb : ∀ i s,i < n → I i s → V C c (hdE kv (sl i s)) (hcat (Hs i s) kh) (LoopQ Q (Gh fun E' H'=>
   ∃ s',I (i + 1) s' ∧ (∀ p ∈ sl (i + 1) s',wk (E' p.1) p.2) ∧ (∀ p ∈ kv,E' p.1 = p.2) ∧ subN (hcat (Hs (i + 1) s') kh) H')))
  (he : ∀ s,I n s → vcC C c (hdE kv (sl n s)) (hcat (Hs n s) kh) (LoopQ Q fun _ _=>False)) : V C (.loop c) E H Q:=by
 intro hf x act H0 ms hi hen
 have hhead : ∀ {i : Nat} {s : σ} {E' : Env} {y : X} {a : Act} {ds : List Deferred},EnvOK C.n ds y a E' → (∀ p ∈ sl i s,wk (E' p.1) p.2) → (∀ p ∈ kv,E' p.1 = p.2) → EnvOK C.n ds y a (hdE kv (sl i s)):=by
  intro i s E' y a ds h h1 h2
  refine ⟨h.defers,h.size,sets_wk h.slot _ _ h1 (sets_wk h.slot _ _ ?_ fun t=>by simp [anyE,D])⟩
  intro p hp
  rw [h2 p hp]
  simp
 have h00 : ∀ p ∈ kv,E p.1 = p.2:=by
  intro p hp
  rw [hkv] at hp
  obtain ⟨t,_,rfl⟩:=List.mem_map.1 hp
  rfl
 have key : W C (.loop c) (hdE kv (sl 0 s0)) (hcat (Hs 0 s0) kh) Q:=by
  refine W.loop (fun m E' H'=>∃ i s,i ≤ n ∧ I i s ∧ n - i = m ∧ E' = hdE kv (sl i s) ∧ H' = hcat (Hs i s) kh) n ⟨0,s0,Nat.zero_le _,hI0,rfl,rfl,rfl⟩ ?_
  rintro m _ _ ⟨i,s,hin,hI,rfl,rfl,rfl⟩
  rcases Nat.lt_or_ge i n with hlt | hge
  ·have hw:=hb i s hlt hI hf
   intro x act H0 ms hi hen
   refine wpIn_mono (hw x act H0 ms hi hen) ?_
   rintro e a' w' ⟨y,E',H',ms',rfl,hle,hi',he',hq⟩
   cases e with
   | normal=>
    obtain ⟨z,E2,H2,w2,l2,i2,e2,s',h1,h3,h4,h5⟩:=hq C.n (ms'.map mk) y a' _ hi' he'
    exact ⟨z,_,_,ms',w2,hle.trans l2,subN_inv h5 i2,hhead e2 h3 h4,n - (i + 1),by omega,i + 1,s',by omega,h1,rfl,rfl,rfl⟩
   | exit k=>exact ⟨y,E',H',ms',rfl,hle,hi',he',hq⟩
   | ret=>exact ⟨y,E',H',ms',rfl,hle,hi',he',hq⟩
   | goto k=>exact hq.elim
   | panic k=>exact hq.elim
   | outgrown=>exact hq.elim
  ·obtain rfl : i = n:=by omega
   have hw:=vcC_ok c _ _ _ hf (he s hI)
   intro x act H0 ms hi hen
   refine wpIn_mono (hw x act H0 ms hi hen) ?_
   rintro e a' w' ⟨y,E',H',ms',rfl,hle,hi',he',hq⟩
   cases e with
   | normal=>exact hq.elim
   | exit k=>exact ⟨y,E',H',ms',rfl,hle,hi',he',hq⟩
   | ret=>exact ⟨y,E',H',ms',rfl,hle,hi',he',hq⟩
   | goto k=>exact hq.elim
   | panic k=>exact hq.elim
   | outgrown=>exact hq.elim
 refine key x act H0 ms (subN_inv hH0.2 hi) (hhead hen hE0 h00)
theorem V.blockV {C : Cfg} {id : Nat} {c : Code} {E : Env} {H : Heap} {Q : PostQ} (h : V C c E H (blockQ id Q)) : V C (.block id c) E H Q:=by
 intro hf
 simp only [fitsC] at hf
 exact W.block (h hf)
theorem V.part {f : Func} {k : Nat} {c : Code} {C : Cfg} {E : Env} {H : Heap} {Q : PostQ} (h : loopO f k = some c) (hv : V C c E H Q) : V C (loopC f k) E H Q:=by
 unfold loopC
 rw [h]
 exact hv
theorem V.of_part {f : Func} {k : Nat} {c : Code} {C : Cfg} {E : Env} {H : Heap} {Q : PostQ} (h : loopO f k = some c) (hv : V C (loopC f k) E H Q) : V C c E H Q:=by
 unfold loopC at hv
 rw [h] at hv
 exact hv
end Go.Proofs.YtpadinblmjlggaaGreatDoor
end

section
namespace Go.Proofs.YtpadinblmjlggaaGreatDoor
set_option maxHeartbeats 8000000
set_option maxRecDepth 10000
def arS (xs : List PortZ) (x : PipeZ) : List PortZ:=
 if x.2 ∈ (if x.1 ∈ xs ∧ x.2 ∉ xs then xs ++ [x.2] else xs) ∧ x.1 ∉ (if x.1 ∈ xs ∧ x.2 ∉ xs then xs ++ [x.2] else xs) then (if x.1 ∈ xs ∧ x.2 ∉ xs then xs ++ [x.2] else xs) ++ [x.1] else (if x.1 ∈ xs ∧ x.2 ∉ xs then xs ++ [x.2] else xs)
def arP (l : List PipeZ) (xs : List PortZ) : List PortZ:=l.foldl arS xs
theorem arS_eq (xs : List PortZ) (x : PipeZ) : arS xs x = if x.1 ∈ xs ∧ x.2 ∉ xs then xs ++ [x.2] else if x.2 ∈ xs ∧ x.1 ∉ xs then xs ++ [x.1] else xs:=by
 unfold arS
 by_cases h1 : x.1 ∈ xs
 ·by_cases h2 : x.2 ∈ xs
  ·simp [h1,h2]
  ·simp [h1,h2]
 ·by_cases h2 : x.2 ∈ xs
  ·simp [h1,h2]
  ·simp [h1,h2]
theorem arS_sub (xs : List PortZ) (x : PipeZ) : ∀ q ∈ xs,q ∈ arS xs x:=by
 intro q hq
 rw [arS_eq]
 (repeat' split) <;> simp [hq]
theorem arS_len (xs : List PortZ) (x : PipeZ) : (arS xs x = xs ∧ (x.1 ∈ xs ↔ x.2 ∈ xs)) ∨ ((arS xs x).length = xs.length + 1 ∧ ∃ y,(y = x.1 ∨ y = x.2) ∧ y ∉ xs ∧ y ∈ arS xs x):=by
 rw [arS_eq]
 by_cases h1 : x.1 ∈ xs
 ·by_cases h2 : x.2 ∈ xs
  ·simp [h1,h2]
  ·refine .inr ?_
   rw [if_pos ⟨h1,h2⟩]
   exact ⟨by simp,x.2,.inr rfl,h2,by simp⟩
 ·by_cases h2 : x.2 ∈ xs
  ·refine .inr ?_
   rw [if_neg (fun h=>h1 h.1),if_pos ⟨h2,h1⟩]
   exact ⟨by simp,x.1,.inl rfl,h1,by simp⟩
  ·simp [h1,h2]
theorem arP_sub : ∀ (l : List PipeZ) (xs : List PortZ),∀ q ∈ xs,q ∈ arP l xs
 | [],_,_,h=>h
 | x :: l,xs,q,h=>arP_sub l _ q (arS_sub xs x q h)
theorem arP_len : ∀ (l : List PipeZ) (xs : List PortZ),(arP l xs = xs ∧ ∀ x ∈ l,x.1 ∈ xs ↔ x.2 ∈ xs) ∨ (xs.length < (arP l xs).length ∧ ∃ y,(∃ x ∈ l,y = x.1 ∨ y = x.2) ∧ y ∉ xs ∧ y ∈ arP l xs)
 | [],xs=>.inl ⟨rfl,by simp⟩
 | x :: l,xs=>by
  show (arP l (arS xs x) = xs ∧ _) ∨ (xs.length < (arP l (arS xs x)).length ∧ ∃ y,(∃ z ∈ x :: l,y = z.1 ∨ y = z.2) ∧ y ∉ xs ∧ y ∈ arP l (arS xs x))
  rcases arS_len xs x with ⟨h1,h2⟩ | ⟨h1,y,h0,h2,h3⟩
  ·rw [h1]
   rcases arP_len l xs with ⟨h3,h4⟩ | h3
   ·refine .inl ⟨h3,fun z hz=>?_⟩
    rcases List.mem_cons.1 hz with rfl | hz
    ·exact h2
    ·exact h4 z hz
   ·obtain ⟨k1,y,⟨z,k2,k3⟩,k4⟩:=h3
    exact .inr ⟨k1,y,⟨z,by simp [k2],k3⟩,k4⟩
  ·refine .inr ?_
   rcases arP_len l (arS xs x) with ⟨h4,_⟩ | ⟨h4,_⟩
   ·rw [h4]
    exact ⟨by omega,y,⟨x,by simp,h0⟩,h2,h3⟩
   ·exact ⟨by omega,y,⟨x,by simp,h0⟩,h2,arP_sub l _ y h3⟩
theorem arP_snoc {l : List PipeZ} {i : Nat} {x : PipeZ} (h : l[i]? = some x) (xs : List PortZ) : arP (l.take (i + 1)) xs = arS (arP (l.take i) xs) x:=by
 unfold arP
 exact foldl_take h
theorem arS_of {xs : List PortZ} {x : PipeZ} {C : PortZ → Prop} (h : ∀ q ∈ xs,C q) (hx : C x.1 ↔ C x.2) : ∀ q ∈ arS xs x,C q:=by
 intro q hq
 rw [arS_eq] at hq
 split at hq
 ·rename_i h1
  rcases List.mem_append.1 hq with hq | hq
  ·exact h q hq
  ·simp only [List.mem_singleton] at hq
   subst hq
   exact hx.1 (h _ h1.1)
 ·split at hq
  ·rename_i h1
   rcases List.mem_append.1 hq with hq | hq
   ·exact h q hq
   ·simp only [List.mem_singleton] at hq
    subst hq
    exact hx.2 (h _ h1.1)
  ·exact h q hq
theorem arP_of {C : PortZ → Prop} : ∀ {l : List PipeZ} {xs : List PortZ},(∀ q ∈ xs,C q) → (∀ x ∈ l,C x.1 ↔ C x.2) → ∀ q ∈ arP l xs,C q
 | [],_,h,_=>h
 | x :: l,xs,h,hx=>arP_of (l:=l) (arS_of h (hx x (by simp))) (fun y hy=>hx y (by simp [hy]))
def outC (all xs : List PortZ) : Nat:=(all.filter fun q=>!(xs.any (q == ·))).length
theorem any_mem (xs : List PortZ) (q : PortZ) : xs.any (q == ·) = true ↔ q ∈ xs:=by
 rw [List.any_eq_true]
 constructor
 ·rintro ⟨y,hy,e⟩
  rw [beq_iff_eq.1 e]
  exact hy
 ·intro h
  exact ⟨q,h,by simp⟩
theorem outC_lt {all xs ys : List PortZ} (h : ∀ q ∈ xs,q ∈ ys) {y : PortZ} (h1 : y ∈ all) (h2 : y ∉ xs) (h3 : y ∈ ys) : outC all ys < outC all xs:=by
 unfold outC
 refine filter_lt (fun q hq=>?_) h1 ?_ ?_
 ·simp only [Bool.not_eq_true',← Bool.not_eq_true,any_mem] at hq ⊢
  exact fun h4=>hq (h q h4)
 ·simp only [Bool.not_eq_false',any_mem]
  exact h3
 ·simp only [Bool.not_eq_true',← Bool.not_eq_true,any_mem]
  exact h2
theorem arP_bound {all : List PortZ} : ∀ (l : List PipeZ) (xs : List PortZ),(∀ x ∈ l,x.1 ∈ all ∧ x.2 ∈ all) → (arP l xs).length + outC all (arP l xs) ≤ xs.length + outC all xs
 | [],_,_=>Nat.le_refl _
 | x :: l,xs,h=>by
  have ih:=arP_bound l (arS xs x) fun y hy=>h y (by simp [hy])
  have h2 : (arS xs x).length + outC all (arS xs x) ≤ xs.length + outC all xs:=by
   rcases arS_len xs x with ⟨h1,_⟩ | ⟨h1,y,h0,h2,h3⟩
   ·rw [h1]
    omega
   ·have hy : y ∈ all:=by
     rcases h0 with rfl | rfl
     ·exact (h x (by simp)).1
     ·exact (h x (by simp)).2
    have:=outC_lt (all:=all) (arS_sub xs x) hy h2 h3
    omega
  exact Nat.le_trans ih h2
theorem any_dec (xs : List PortZ) (q : PortZ) : xs.any (q == ·) = decide (q ∈ xs):=by
 rw [Bool.eq_iff_iff,any_mem]
 simp
theorem HasP_fn (xs : List PortZ) (p : PortZ) (hl : Sh xs) : CallFn Tryz.prog 228 [.dat (.sl (xs.map encPo)),.record (encPo p)] (aB (xs.any (p == ·))):=by
 obtain ⟨p1,p2⟩:=p
 refine callFz_of Tryz.func228 rfl Tryz.ntmps228 (rs:=[.tmp 4]) rfl (by kernel_rfl) (by simp) (by kernel_rfl) ?_
 simp
 refine V.forI (σ:=Unit) xs.length [0,3] (by simp; exact rfl) (fun i _=>[(4,aB false),(5,aI i)]) (fun _ _=>[]) (fun i _=>NoF ((p1,p2) == ·) (xs.take i)) () (by simp) (by simp) ⟨by simp; exact rfl,by simp⟩ ?_ ?_
 ·rintro i - hi hI
  obtain ⟨x,hx⟩ : ∃ x,xs[i] = x:=⟨_,rfl⟩
  have hxo : xs[i]? = some x:=by rw [List.getElem?_eq_getElem hi,hx]
  have hs:=findIdx_step (p:=((p1,p2) == ·)) hI hxo
  obtain ⟨x1,x2⟩:=x
  simp [hi,hx,hxo]
  refine V.drawX (fun _=>none) (by kernel_rfl) (by kernel_rfl) (by simp) ?_
  simp [hi,hx,hxo]
  by_cases e : x1 = p1 ∧ x2 = p2
  ·obtain ⟨rfl,rfl⟩:=e
   have : xs.any ((x1,x2) == ·) = true:=List.any_eq_true.2 ⟨(x1,x2),List.mem_of_getElem? hxo,by simp⟩
   simp
   exact List.mem_of_getElem? hxo
  ·have e2 : ((p1,p2) == (x1,x2)) = false:=by
    simp only [beq_eq_false_iff_ne,ne_eq,Prod.mk.injEq]
    exact fun h=>e ⟨h.1.symm,h.2.symm⟩
   exact ⟨fun a b=>absurd ⟨a,b⟩ e,fun _=>⟨by omega,hs.1 e2⟩⟩
 ·rintro - hI
  have : xs.any ((p1,p2) == ·) = false:=by
   rw [List.any_eq_false]
   intro y hy
   rw [List.take_length] at hI
   simpa using hI y hy
  simp [this]
end Go.Proofs.YtpadinblmjlggaaGreatDoor
end

section
namespace Go.Proofs.YtpadinblmjlggaaGreatDoor
set_option maxHeartbeats 4000000
section
variable (f : PortZ → PortZ) (all : List PortZ)
def rootsN (n : Nat) : List PortZ:=(all.take n).filter fun p=>f p == p
def famR (n : Nat) (r : PortZ) : List PortZ:=(all.take n).filter fun q=>f q == r
def famN (n : Nat) : List (List PortZ):=(rootsN f all n).map (famR f all n)
def atN (n : Nat) : List (KeyK × List L):=(rootsN f all n).zipIdx.map fun q=>(q.1,[.int .i64 (q.2 : Nat)])
theorem famN_all : famN f all all.length = netsF f all:=by
 unfold famN rootsN netsF
 rw [List.take_length]
 apply List.map_congr_left
 intro r _
 unfold famR
 rw [List.take_length]
theorem famN_len (n : Nat) : (famN f all n).length = (rootsN f all n).length:=by simp [famN]
theorem kget_zip (q : PortZ) : ∀ (rs : List PortZ) (k : Nat),kget ((rs.zipIdx k).map fun q=>(q.1,([.int .i64 (q.2 : Nat)] : List L))) q = (rs.findIdx? (· == q)).map fun j=>[.int .i64 ((k + j : Nat) : Int)]
 | [],k=>rfl
 | r :: rs,k=>by
  simp only [List.zipIdx_cons,List.map_cons,kget,List.findIdx?_cons]
  by_cases e : r = q
  ·simp [e]
  ·rw [if_neg e,kget_zip q rs (k + 1)]
   simp only [e,beq_iff_eq,if_false,Option.map_map]
   cases rs.findIdx? (· == q) with
   | none=>simp [e]
   | some j=>
    simp [e]
    omega
theorem kget_at (n : Nat) (q : PortZ) : kget (atN f all n) q = ((rootsN f all n).findIdx? (· == q)).map fun j=>[.int .i64 (j : Nat)]:=by
 unfold atN
 rw [kget_zip]
 simp
theorem kput_new {α : Type} (k : KeyK) (v : α) : ∀ {es : List (KeyK × α)},kget es k = none → kput es k v = es ++ [(k,v)]
 | [],_=>rfl
 | e :: es,h=>by
  simp only [kget] at h
  split at h
  ·cases h
  ·rename_i hne
   simp only [kput]
   rw [if_neg hne,kput_new k v h]
   rfl
variable {f all}
theorem take_snoc {α : Type} {l : List α} {i : Nat} {x : α} (h : l[i]? = some x) : l.take (i + 1) = l.take i ++ [x]:=by rw [List.take_add_one,h]; rfl
theorem roots_new {n : Nat} {x : PortZ} (hx : all[n]? = some x) (h : f x = x) : rootsN f all (n + 1) = rootsN f all n ++ [x]:=by
 unfold rootsN
 rw [take_snoc hx,List.filter_append]
 simp [h]
theorem roots_old {n : Nat} {x : PortZ} (hx : all[n]? = some x) (h : f x ≠ x) : rootsN f all (n + 1) = rootsN f all n:=by
 unfold rootsN
 rw [take_snoc hx,List.filter_append]
 simp [h]
theorem famR_snoc {n : Nat} {x r : PortZ} (hx : all[n]? = some x) : famR f all (n + 1) r = if f x = r then famR f all n r ++ [x] else famR f all n r:=by
 unfold famR
 rw [take_snoc hx,List.filter_append]
 by_cases e : f x = r <;> simp [e]
theorem at_new {n : Nat} {x : PortZ} (hx : all[n]? = some x) (h : f x = x) (hn : kget (atN f all n) x = none) : kput (atN f all n) x [.int .i64 ((rootsN f all n).length : Nat)] = atN f all (n + 1):=by
 rw [kput_new _ _ hn]
 unfold atN
 rw [roots_new hx h,List.zipIdx_append]
 simp
theorem at_old {n : Nat} {x : PortZ} (hx : all[n]? = some x) (h : f x ≠ x) : atN f all (n + 1) = atN f all n:=by
 unfold atN
 rw [roots_old hx h]
theorem pairwise_nodup {l : List PortZ} (h : l.Pairwise fun a b=>beforeZ a b = true) : l.Nodup:=by
 refine h.imp ?_
 rintro a b hab rfl
 rw [beforeZ_tot.irr] at hab
 cases hab
theorem not_before {n : Nat} {x : PortZ} (hs : all.Pairwise fun a b=>beforeZ a b = true) (hx : all[n]? = some x) : x ∉ all.take n:=by
 intro hm
 obtain ⟨i,hi,e⟩:=List.getElem_of_mem hm
 rw [List.length_take] at hi
 obtain ⟨hn,hx1⟩:=List.getElem?_eq_some_iff.1 hx
 have h1:=List.pairwise_iff_getElem.1 hs i n (by omega) hn (by omega)
 rw [List.getElem_take] at e
 rw [e,hx1,beforeZ_tot.irr] at h1
 cases h1
theorem root_before {n : Nat} {x : PortZ} (hs : all.Pairwise fun a b=>beforeZ a b = true) (hx : all[n]? = some x) (hle : beforeZ x (f x) = false) (hne : f x ≠ x) (hm : f x ∈ all) : f x ∈ all.take n:=by
 obtain ⟨i,hi,e⟩:=List.getElem_of_mem hm
 obtain ⟨hn,hx1⟩:=List.getElem?_eq_some_iff.1 hx
 have hin : i < n:=by
  rcases Nat.lt_trichotomy i n with h | h | h
  ·exact h
  ·subst h
   exact absurd (e.symm.trans hx1) hne
  ·have h1:=List.pairwise_iff_getElem.1 hs n i hn hi h
   rw [hx1,e] at h1
   rw [h1] at hle
   cases hle
 rw [← e]
 exact List.mem_of_getElem? (i:=i) (by rw [List.getElem?_take,if_pos hin,List.getElem?_eq_getElem hi])
theorem fam_new {n : Nat} {x : PortZ} (hs : all.Pairwise fun a b=>beforeZ a b = true) (hx : all[n]? = some x) (h : f x = x) (hl : ∀ p,beforeZ p (f p) = false) : famN f all (n + 1) = famN f all n ++ [[x]] ∧ kget (atN f all n) x = none:=by
 have hnb:=not_before hs hx
 have hr : x ∉ rootsN f all n:=fun hm=>hnb (List.mem_filter.1 hm).1
 constructor
 ·unfold famN
  rw [roots_new hx h,List.map_append]
  congr 1
  ·apply List.map_congr_left
   intro r hrm
   rw [famR_snoc hx,if_neg (fun e=>hr (by rw [← h,e]; exact hrm))]
  ·rw [List.map_cons,List.map_nil,famR_snoc hx,if_pos h]
   have : famR f all n x = []:=by
    unfold famR
    rw [List.filter_eq_nil_iff]
    intro q hq
    simp only [beq_iff_eq]
    intro e
    have h1:=hl q
    rw [e] at h1
    obtain ⟨i,hi,e2⟩:=List.getElem_of_mem hq
    rw [List.length_take] at hi
    obtain ⟨hn,hx1⟩:=List.getElem?_eq_some_iff.1 hx
    have h2:=List.pairwise_iff_getElem.1 hs i n (by omega) hn (by omega)
    rw [List.getElem_take] at e2
    rw [e2,hx1] at h2
    rw [h2] at h1
    cases h1
   rw [this]
   rfl
 ·rw [kget_at]
  have : (rootsN f all n).findIdx? (· == x) = none:=by
   rw [List.findIdx?_eq_none_iff]
   intro r hrm
   simp only [beq_eq_false_iff_ne]
   rintro rfl
   exact hr hrm
  rw [this]
  rfl
theorem fam_old {n : Nat} {x : PortZ} (hs : all.Pairwise fun a b=>beforeZ a b = true) (hx : all[n]? = some x) (h : f x ≠ x) (hl : beforeZ x (f x) = false) (hi : f (f x) = f x) (hm : f x ∈ all) :
  ∃ k l,k < (rootsN f all n).length ∧ (famN f all n)[k]? = some l ∧ famN f all (n + 1) = (famN f all n).set k (l ++ [x]) ∧ kget (atN f all n) (f x) = some [.int .i64 (k : Nat)]:=by
 have hb:=root_before hs hx hl h hm
 have hr : f x ∈ rootsN f all n:=List.mem_filter.2 ⟨hb,by simp [hi]⟩
 obtain ⟨k,hk⟩ : ∃ k,(rootsN f all n).findIdx? (· == f x) = some k:=by
  rw [← Option.isSome_iff_exists,List.findIdx?_isSome,List.any_eq_true]
  exact ⟨f x,hr,by simp⟩
 obtain ⟨hkl,hk1,hk2⟩:=List.findIdx?_eq_some_iff_getElem.1 hk
 simp only [beq_iff_eq] at hk1
 have hnd : (rootsN f all n).Nodup:=by
  have : (rootsN f all n).Pairwise fun a b=>beforeZ a b = true:=(hs.sublist (List.take_sublist _ _)).sublist List.filter_sublist
  exact pairwise_nodup this
 refine ⟨k,famR f all n (f x),hkl,?_,?_,by rw [kget_at,hk]; rfl⟩
 ·unfold famN
  rw [List.getElem?_map,List.getElem?_eq_getElem hkl,hk1]
  rfl
 ·unfold famN
  rw [roots_old hx h]
  apply List.ext_getElem?
  intro j
  rw [List.getElem?_map,List.getElem?_set]
  by_cases e : k = j
  ·subst e
   rw [if_pos rfl,List.getElem?_eq_getElem hkl,hk1]
   simp [famR_snoc hx,hkl]
  ·rw [if_neg e,List.getElem?_map]
   cases hj : (rootsN f all n)[j]? with
   | none=>rfl
   | some r=>
    obtain ⟨hjl,hj1⟩:=List.getElem?_eq_some_iff.1 hj
    simp only [Option.map_some,Option.some.injEq]
    rw [famR_snoc hx,if_neg]
    intro e2
    refine e ?_
    have h1:=List.pairwise_iff_getElem.1 hnd
    rcases Nat.lt_trichotomy k j with h3 | h3 | h3
    ·exact absurd (by rw [hk1,hj1,e2]) (h1 k j hkl hjl h3)
    ·exact h3
    ·exact absurd (by rw [hk1,hj1,e2]) (h1 j k hjl hkl h3)
end
end Go.Proofs.YtpadinblmjlggaaGreatDoor
end

section
namespace Go.Proofs.YtpadinblmjlggaaGreatDoor
set_option maxHeartbeats 8000000
set_option maxRecDepth 10000
theorem wfI64 {n : Int} (h : I64 n) : (Lit.int .i64 n).wf = true:=by
 unfold Lit.wf
 have h1 : IntKind.min .i64 = -9223372036854775808:=by decide
 have h2 : IntKind.max .i64 = 9223372036854775807:=by decide
 simp [h1,h2]
 exact h
theorem port_good (k : KeyK) (hk : okK k) : goodK Tryz.prog 73 (kvK k):=by
 obtain ⟨n,s⟩:=k
 obtain ⟨hn,hs⟩:=hk
 simp only at hn hs
 have h0 : (match Tryz.prog.underlying 73 with
  | some (.struct fs)=>decide (fs.toList.map (fun f : Field=>(f.type,f.offset)) = [(3,0),(9,1)]) && fs.all (fun f : Field=>f.name != "_")
  | _=>false) = true:=by kernel_rfl
 split at h0 <;> try (cases h0; done)
 rename_i fs hu
 simp only [Bool.and_eq_true,decide_eq_true_eq] at h0
 obtain ⟨h1,h2⟩:=h0
 have hkt : Tryz.prog.keyType 73 = true:=by kernel_rfl
 have hc : Tryz.prog.cellsOf 73 = 2:=by kernel_rfl
 have hci : Tryz.prog.cellsOf 3 = 1:=by kernel_rfl
 have hcb : Tryz.prog.cellsOf 9 = 1:=by kernel_rfl
 have hi : Tryz.prog.underlying 3 = some (.int .i64):=by kernel_rfl
 have hb : Tryz.prog.underlying 9 = some .string:=by kernel_rfl
 have hpos : decide (0 < Tryz.prog.types.size) = true:=by kernel_rfl
 obtain ⟨m,hm⟩ : ∃ m,Tryz.prog.types.size = m + 1:=⟨Tryz.prog.types.size - 1,by
  have:=of_decide_eq_true hpos
  omega⟩
 have hI : Tryz.prog.keyLits (m + 1) 3 [.int .i64 n] = some [.int .i64 n]:=by
  simp [Program.keyLits,hi,wfI64 hn]
 have hS : Tryz.prog.keyLits (m + 1) 9 [.string ⟨s.toArray⟩] = some [.string s]:=by
  have : (⟨s.toArray⟩ : ByteArray).size ≤ maxLen:=by
   show s.toArray.size ≤ maxLen
   simp [maxLen]
   omega
  simp [Program.keyLits,hb,this]
 have hl : Tryz.prog.keyLits (Tryz.prog.types.size + 1) 73 [.int .i64 n,.string ⟨s.toArray⟩] = some [.int .i64 n,.string s]:=by
  rw [hm]
  unfold Program.keyLits
  rw [hu]
  simp only [hc,h2]
  have hmm : ∀ l : List (TypeId × Nat),l = fs.toList.map (fun f : Field=>(f.type,f.offset)) → (fs.toList.mapM fun f : Field=>Tryz.prog.keyLits (m + 1) f.type ((([.int .i64 n,.string ⟨s.toArray⟩] : List Value).drop f.offset).take (Tryz.prog.cellsOf f.type))) = l.mapM fun p=>Tryz.prog.keyLits (m + 1) p.1 ((([.int .i64 n,.string ⟨s.toArray⟩] : List Value).drop p.2).take (Tryz.prog.cellsOf p.1)):=by
   rintro l rfl
   rw [List.mapM_map]
   rfl
  rw [hmm _ h1.symm]
  simp [hci,hcb,hI,hS]
 unfold goodK keyBs keyOf
 rw [hu]
 simp only [hkt]
 have hf : (kvK (n,s)).formed Tryz.prog 73 = true:=by
  simp [kvK,Value.formed,hu,hc]
 have hcs : (kvK (n,s)).cells.toList = [.int .i64 n,.string ⟨s.toArray⟩]:=rfl
 rw [hf,hcs,hl]
 rfl
@[simp] theorem port_key : KeyP Tryz.prog 73 = True:=by
 have h0 : (match Tryz.prog.underlying 73 with | some (.array _ _) | some (.struct _)=>true | _=>false) = true:=by kernel_rfl
 exact eq_true ⟨deep_law (m:=4) (by omega) (by kernel_rfl) (by kernel_rfl) h0,port_good⟩
attribute [simp] keyP setK valK datLs
end Go.Proofs.YtpadinblmjlggaaGreatDoor
end

section
namespace Go.Proofs.YtpadinblmjlggaaGreatDoor
set_option maxHeartbeats 16000000
set_option maxRecDepth 100000
theorem gate_fn0 (n : Int) : CallFn Tryz.prog 270 [aI n] (.fn 300 [] [.rptr [.int .i64 n]]):=by
 refine callFz_of Tryz.func270 rfl Tryz.ntmps270 (rs:=[.tmp 2]) rfl (by kernel_rfl) (by simp) (by kernel_rfl) ?_
 simp
theorem gateV_fn0 (n : Int) : CallFn Tryz.prog 271 [aI n] (.fn 301 [] [.rptr [.int .i64 n]]):=by
 refine callFz_of Tryz.func271 rfl Tryz.ntmps271 (rs:=[.tmp 2]) rfl (by kernel_rfl) (by simp) (by kernel_rfl) ?_
 simp
theorem merge_fn0 (b : Bool) : CallFn Tryz.prog 272 [aB b] (.fn 302 [] [.rptr [.bool b]]):=by
 refine callFz_of Tryz.func272 rfl Tryz.ntmps272 (rs:=[.tmp 2]) rfl (by kernel_rfl) (by simp) (by kernel_rfl) ?_
 simp
def catR : List (List A):=[
 [.dat (.str [115,117,112,112,108,121]),.dat (.str [90]),.dat (.sl []),.dat (.sl [[.str [49]]]),.dat (.sl []),.dat (.sl []),.dat (.sl []),.dat (.str []),.dat (.str []),aI 1,.fn 266 [] [],.fn 267 [] []],
 [.dat (.str [99,121,108,105,110,100,101,114]),.dat (.str [65]),.dat (.sl []),.dat (.sl []),.dat (.sl []),.dat (.sl []),.dat (.sl [[.str [50]],[.str [52]]]),.dat (.str []),.dat (.str []),aI 1,.fn 266 [] [],.fn 267 [] []],
 [.dat (.str [118,97,108,118,101,53,50]),.dat (.str [86]),.dat (.sl [[.str [49]]]),.dat (.sl [[.str [50]],[.str [52]]]),.dat (.sl [[.str [51]],[.str [53]]]),.dat (.sl [[.str [49,50]],[.str [49,52]]]),.dat (.sl []),.dat (.str [49,52]),.dat (.str [49,50]),aI 2,.fn 268 [] [],.fn 269 [] []],
 [.dat (.str [118,97,108,118,101,53,50,115]),.dat (.str [86]),.dat (.sl [[.str [49]]]),.dat (.sl [[.str [50]],[.str [52]]]),.dat (.sl [[.str [51]],[.str [53]]]),.dat (.sl [[.str [49,52]]]),.dat (.sl []),.dat (.str [49,52]),.dat (.str []),aI 2,.fn 268 [] [],.fn 269 [] []],
 [.dat (.str [118,97,108,118,101,51,50]),.dat (.str [86]),.dat (.sl [[.str [49]]]),.dat (.sl [[.str [50]]]),.dat (.sl [[.str [51]]]),.dat (.sl [[.str [49,50]]]),.dat (.sl []),.dat (.str [49,50]),.dat (.str []),aI 2,.fn 300 [] [.rptr [.int .i64 1]],.fn 301 [] [.rptr [.int .i64 1]]],
 [.dat (.str [118,97,108,118,101,51,50,111]),.dat (.str [86]),.dat (.sl [[.str [49]]]),.dat (.sl [[.str [50]]]),.dat (.sl [[.str [51]]]),.dat (.sl [[.str [49,48]]]),.dat (.sl []),.dat (.str [49,48]),.dat (.str []),aI 2,.fn 300 [] [.rptr [.int .i64 0]],.fn 301 [] [.rptr [.int .i64 0]]],
 [.dat (.str [108,105,109,105,116]),.dat (.str [83]),.dat (.sl [[.str [49]]]),.dat (.sl [[.str [50]]]),.dat (.sl [[.str [51]]]),.dat (.sl []),.dat (.sl []),.dat (.str []),.dat (.str []),aI 2,.fn 300 [] [.rptr [.int .i64 1]],.fn 301 [] [.rptr [.int .i64 1]]],
 [.dat (.str [98,117,116,116,111,110]),.dat (.str [83]),.dat (.sl [[.str [49]]]),.dat (.sl [[.str [50]]]),.dat (.sl [[.str [51]]]),.dat (.sl []),.dat (.sl []),.dat (.str []),.dat (.str []),aI 2,.fn 300 [] [.rptr [.int .i64 1]],.fn 301 [] [.rptr [.int .i64 1]]],
 [.dat (.str [115,104,117,116,116,108,101]),.dat (.str [86]),.dat (.sl [[.str [49]],[.str [49,49]]]),.dat (.sl [[.str [50]]]),.dat (.sl []),.dat (.sl []),.dat (.sl []),.dat (.str []),.dat (.str []),aI 1,.fn 302 [] [.rptr [.bool false]],.fn 267 [] []],
 [.dat (.str [116,119,105,110]),.dat (.str [86]),.dat (.sl [[.str [49]],[.str [49,49]]]),.dat (.sl [[.str [50]]]),.dat (.sl []),.dat (.sl []),.dat (.sl []),.dat (.str []),.dat (.str []),aI 1,.fn 302 [] [.rptr [.bool true]],.fn 267 [] []],
 [.dat (.str [113,117,105,99,107]),.dat (.str [86]),.dat (.sl [[.str [49]]]),.dat (.sl [[.str [50]]]),.dat (.sl [[.str [51]]]),.dat (.sl []),.dat (.sl []),.dat (.str []),.dat (.str []),aI 1,.fn 273 [] [],.fn 267 [] []],
 [.dat (.str [116,104,114,111,116,116,108,101]),.dat (.str [86]),.dat (.sl [[.str [49]]]),.dat (.sl [[.str [50]]]),.dat (.sl []),.dat (.sl []),.dat (.sl []),.dat (.str []),.dat (.str []),aI 1,.fn 273 [] [],.fn 267 [] []],
 [.dat (.str [100,101,108,97,121]),.dat (.str [86]),.dat (.sl [[.str [49]]]),.dat (.sl [[.str [50]]]),.dat (.sl [[.str [51]]]),.dat (.sl [[.str [49,50]]]),.dat (.sl []),.dat (.str [49,50]),.dat (.str []),aI 2,.fn 300 [] [.rptr [.int .i64 1]],.fn 301 [] [.rptr [.int .i64 1]]],
 [.dat (.str [99,111,117,110,116,101,114]),.dat (.str [86]),.dat (.sl [[.str [49]]]),.dat (.sl [[.str [50]]]),.dat (.sl [[.str [51]]]),.dat (.sl [[.str [49,50]]]),.dat (.sl []),.dat (.str [49,50]),.dat (.str []),aI 2,.fn 300 [] [.rptr [.int .i64 1]],.fn 301 [] [.rptr [.int .i64 1]]]]
theorem catalogue_fn : CallFn Tryz.prog 219 [] (.agg catR.flatten):=by
 have g0:=gate_fn0 0
 have g1:=gate_fn0 1
 have v0:=gateV_fn0 0
 have v1:=gateV_fn0 1
 have m0:=merge_fn0 false
 have m1:=merge_fn0 true
 refine callFz_cut 3 Tryz.func219 rfl Tryz.ntmps219 (rs:=[.cell 0 284]) rfl (by kernel_rfl) (by simp) (by kernel_rfl) ?_
 simp
 intro b
 refine V.cutV [(0,.ptr 0 b 0),(1,.dat (.sl [[.str [49]]])),(2,.dat (.sl [[.str [50]]])),(3,.dat (.sl [[.str [51]]])),(4,.dat (.sl [[.str [49]],[.str [49,49]]]))] (Hs:=[(0,.box b _)]) (by simp) (by simp; rfl) ?_
 refine V.seq (V.regF (fun t=>if t = 32 ∨ t = 47 ∨ t = 54 ∨ t = 81 ∨ t = 89 then some (.fn (.fn 300 [] [.rptr [.int .i64 1]])) else if t = 33 ∨ t = 48 ∨ t = 55 ∨ t = 82 ∨ t = 90 then some (.fn (.fn 301 [] [.rptr [.int .i64 1]]))
  else if t = 40 then some (.fn (.fn 300 [] [.rptr [.int .i64 0]])) else if t = 41 then some (.fn (.fn 301 [] [.rptr [.int .i64 0]])) else if t = 60 then some (.fn (.fn 302 [] [.rptr [.bool false]])) else if t = 65 then some (.fn (.fn 302 [] [.rptr [.bool true]])) else none) [] ?_)
 dsimp only [List.append,List.toList_toArray]
 simp
 exact ⟨g1,v1,g0,v0,g1,v1,g1,v1,m0,m1,g1,v1,g1,v1,rfl⟩
theorem cat_nil : hasNil catR.flatten = false:=rfl
theorem cat_len : catR.flatten.length = 168:=rfl
theorem cat_cases {Q : Nat → Prop} (h : Q 0 ∧ Q 1 ∧ Q 2 ∧ Q 3 ∧ Q 4 ∧ Q 5 ∧ Q 6 ∧ Q 7 ∧ Q 8 ∧ Q 9 ∧ Q 10 ∧ Q 11 ∧ Q 12 ∧ Q 13) : ∀ k,k < 14 → Q k:=by
 obtain ⟨h0,h1,h2,h3,h4,h5,h6,h7,h8,h9,h10,h11,h12,h13⟩:=h
 intro k hk
 have : k = 0 ∨ k = 1 ∨ k = 2 ∨ k = 3 ∨ k = 4 ∨ k = 5 ∨ k = 6 ∨ k = 7 ∨ k = 8 ∨ k = 9 ∨ k = 10 ∨ k = 11 ∨ k = 12 ∨ k = 13:=by omega
 rcases this with rfl | rfl | rfl | rfl | rfl | rfl | rfl | rfl | rfl | rfl | rfl | rfl | rfl | rfl <;> assumption
abbrev rowOf (k : Nat) : List A:=catR.getD k []
theorem cat_row : ∀ k,k < 14 → List.take 12 (List.drop (k * 12) catR.flatten) = rowOf k:=cat_cases ⟨rfl,rfl,rfl,rfl,rfl,rfl,rfl,rfl,rfl,rfl,rfl,rfl,rfl,rfl⟩
def cellB : A → Bool
 | .any=>false
 | .undef=>false
 | .record _=>false
 | .agg _=>false
 | .tuple _=>false
 | .cond _ _=>false
 | .nn _=>false
 | .clip _=>false
 | _=>true
theorem row_len : ∀ k,k < 14 → (rowOf k).length = 12:=cat_cases ⟨rfl,rfl,rfl,rfl,rfl,rfl,rfl,rfl,rfl,rfl,rfl,rfl,rfl,rfl⟩
theorem row_ls : ∀ k,k < 14 → toLs (rowOf k) = none:=cat_cases ⟨rfl,rfl,rfl,rfl,rfl,rfl,rfl,rfl,rfl,rfl,rfl,rfl,rfl,rfl⟩
theorem row_nil : ∀ k,k < 14 → hasNil (rowOf k) = false:=cat_cases ⟨rfl,rfl,rfl,rfl,rfl,rfl,rfl,rfl,rfl,rfl,rfl,rfl,rfl,rfl⟩
theorem row_cell : ∀ k,k < 14 → (rowOf k).all cellB = true:=cat_cases ⟨rfl,rfl,rfl,rfl,rfl,rfl,rfl,rfl,rfl,rfl,rfl,rfl,rfl,rfl⟩
theorem row_frz : ∀ k,k < 14 → ∀ H,(frz H (.agg (rowOf k))).1 ∧ (frz H (.agg (rowOf k))).2 = .agg (rowOf k):=by
 refine cat_cases ⟨?_,?_,?_,?_,?_,?_,?_,?_,?_,?_,?_,?_,?_,?_⟩
 all_goals
  intro H
  exact ⟨by simp [rowOf,catR],by simp [rowOf,catR]⟩
theorem cat_sum : (List.map List.length catR).sum = 168:=rfl
theorem find_fn (k : Nat) (hk : k < 14) : CallFn Tryz.prog 148 [aI k] (.tuple [.agg (rowOf k),aI 0]):=by
 have hc:=catalogue_fn
 have h1:=cat_row k hk
 have h2:=row_len k hk
 have h3:=row_ls k hk
 have h4:=row_nil k hk
 refine callFz_of Tryz.func148 rfl Tryz.ntmps148 (rs:=[.cell 2 226,.tmp 3]) rfl (by kernel_rfl) (by simp) (by kernel_rfl) ?_
 simp
 intro b2
 refine ⟨by omega,fun h=>?_⟩
 refine hc.s ?_
 have h5:=row_cell k hk
 have h6:=row_frz k hk
 simp only [cat_nil]
 generalize hR : rowOf k = R at *
 simp [cat_nil,cat_len,h1,h2,h3,h4,cat_sum]
 refine ⟨⟨by omega,by omega⟩,fun x hx=>?_,?_⟩
 ·have hx2:=List.all_eq_true.1 h5 x hx
  cases x <;> exact hx2
 ·have h7 : List.take 12 R = R:=List.take_of_length_le (by omega)
  rw [h7,h3]
  exact h6 _
def cellL : A → L
 | .dat l=>l
 | _=>.int .i64 0
end Go.Proofs.YtpadinblmjlggaaGreatDoor
end

section
namespace Go.Proofs.YtpadinblmjlggaaGreatDoor
open Go.Sort
variable {P : Program}
theorem rI_vals {x : X} : ∀ {zs : List Int} {vs : List Value},Ds x (zs.map rI).flatten vs → vs = zs.map (Value.int .i64)
 | [],[],_=>rfl
 | z :: zs,v :: vs,h=>by
  simp only [List.map_cons,List.flatten_cons,List.cons_append,List.nil_append,rI,Ds,D,RdL] at h
  rw [h.1,rI_vals h.2,List.map_cons]
 | [],_ :: _,h=>by simp [Ds] at h
 | _ :: _,[],h=>by simp [Ds,rI] at h
theorem rI_Ds {x : X} : ∀ (zs : List Int),Ds x (zs.map rI).flatten (zs.map (Value.int .i64))
 | []=>by simp [Ds]
 | z :: zs=>by
  simp only [List.map_cons,List.flatten_cons,List.cons_append,List.nil_append,rI,Ds,D,RdL]
  exact ⟨trivial,rI_Ds zs⟩
theorem rI_len {zs : List Int} : ∀ r ∈ zs.map rI,r.length = 1:=by
 intro r hr
 obtain ⟨z,_,rfl⟩:=List.mem_map.1 hr
 rfl
theorem ints_own {x : X} {h : Value} {e : TypeId} {zs : List Int} (hs : Ent.sat x (.seq h e 1 (zs.map rI))) :
  (h = .slice none 0 0 ∧ zs = []) ∨ ∃ g cap cur,h = .slice (some ⟨g,0,none⟩) zs.length cap ∧ x.w.heap[g]? = some (.cells cur e (0,0)) ∧ zs.length ≤ cap ∧ cap ≤ maxLen ∧ cur.size = cap ∧ cur.toList.take zs.length = zs.map (Value.int .i64):=by
 obtain ⟨xs,⟨h1,h2⟩,h3,h4⟩:=hs
 have hx:=rI_vals h4
 subst hx
 rcases h2 with ⟨rfl,h0⟩ | ⟨g,cap,cur,rfl,_,h5,h6,h7,h8,h9⟩
 ·exact .inl ⟨rfl,by simpa using h0⟩
 ·refine .inr ⟨g,cap,cur,by simp,h5,by simpa using h6,h7,by simpa using h8,by simpa using h9⟩
theorem ints_holds {x : X} {g : Nat} {cur : Array Value} {e : TypeId} {zs : List Int} (h5 : x.w.heap[g]? = some (.cells cur e (0,0))) (h9 : cur.toList.take zs.length = zs.map (Value.int .i64)) :
  Holds (Value.int .i64) x.w g 0 zs.toArray:=by
 intro j hj
 have hj' : j < zs.length:=by simpa using hj
 have hc : cur[j]? = some (.int .i64 zs[j]):=by
  have : (cur.toList.take zs.length)[j]? = some (.int .i64 zs[j]):=by rw [h9]; simp [hj']
  rw [List.getElem?_take] at this
  simpa [hj'] using this
 constructor
 ·have hz : zs.toArray[j]! = zs[j]:=by simp [hj']
  rw [hz]
  simp [World.cell?,h5,hc]
 ·simp [World.frozen?,h5]
theorem putRow_block {w : World} {g n : Nat} {cur : Array Value} {e : TypeId} (h5 : w.heap[g]? = some (.cells cur e (0,0))) (d : Array Int) (os : Array Obj) :
  (grow (putRow (Value.int .i64) (Sort.ahead w n) g 0 d) os).heap[g]? = some (.cells (putCells (Value.int .i64) 0 d cur) e (0,0)) ∧ ∀ k,k < w.heap.size → k ≠ g → (grow (putRow (Value.int .i64) (Sort.ahead w n) g 0 d) os).heap[k]? = w.heap[k]?:=by
 have hlt:=(Array.getElem?_eq_some_iff.1 h5).1
 have hsz : (putRow (Value.int .i64) (Sort.ahead w n) g 0 d).heap.size = w.heap.size:=by simp [putRow,mapBlock,Sort.ahead]
 have hgr : ∀ k,k < w.heap.size → (grow (putRow (Value.int .i64) (Sort.ahead w n) g 0 d) os).heap[k]? = (putRow (Value.int .i64) (Sort.ahead w n) g 0 d).heap[k]?:=by
  intro k hk
  simp only [grow]
  rw [Array.getElem?_append_left (by rw [hsz]; exact hk)]
 constructor
 ·rw [hgr g hlt]
  simp [putRow,mapBlock,Sort.ahead,Array.getElem?_modify,h5,onCells]
 ·intro k hk hne
  rw [hgr k hk]
  simp [putRow,mapBlock,Sort.ahead,Array.getElem?_modify,Ne.symm hne]
theorem putCells_take (d : Array Int) (cur : Array Value) (m : Nat) (hm : m ≤ d.size) (hd : d.size ≤ cur.size) : (putCells (Value.int .i64) 0 d cur).toList.take m = (d.toList.take m).map (Value.int .i64):=by
 apply List.ext_getElem?
 intro k
 rw [List.getElem?_take,List.getElem?_map,List.getElem?_take]
 split
 ·rename_i hk
  have h1 : k < cur.size:=by omega
  have h2 : k < d.size:=by omega
  simp [putCells,h1,h2]
 ·simp
theorem seq_putRow {x : X} {H : Heap} {t g cap q : Nat} {e : TypeId} {zs : List Int} (hi : Inv x ((t,.seq (.slice (some ⟨g,0,none⟩) zs.length cap) e 1 (zs.map rI)) :: H)) (d : List Int) (hd : d.length = zs.length) (m : Nat) (hm : m ≤ d.length) (os : Array Obj) :
  ∃ y : X,y.w = grow (putRow (Value.int .i64) (Sort.ahead x.w q) g 0 d.toArray) os ∧ x.le y ∧ Inv y ((t,.seq (.slice (some ⟨g,0,none⟩) m cap) e 1 ((d.take m).map rI)) :: H):=by
 have hs:=hi.sat _ (List.mem_cons_self)
 rcases ints_own hs with ⟨h,_⟩ | ⟨g',cap',cur,h,h5,h6,h7,h8,h9⟩
 ·cases h
 ·cases h
  obtain ⟨b1,b2⟩:=putRow_block (n:=q) h5 d.toArray os
  have hlt:=(Array.getElem?_eq_some_iff.1 h5).1
  have hsz : x.w.heap.size ≤ (grow (putRow (Value.int .i64) (Sort.ahead x.w q) g 0 d.toArray) os).heap.size:=by simp [grow,putRow,mapBlock,Sort.ahead]
  let y : X:=⟨grow (putRow (Value.int .i64) (Sort.ahead x.w q) g 0 d.toArray) os,x.ok⟩
  have hfin : x.le y ∧ Inv y ((t,.seq (.slice (some ⟨g,0,none⟩) m cap) e 1 ((d.take m).map rI)) :: H):=by
   refine hi.ofOwn (y:=y) (g':=t) (h':=.slice (some ⟨g,0,none⟩) m cap) (rows':=(d.take m).map rI) rfl ?_ ?_ ?_ ?_
   ·have hrl : ((d.take m).map rI).length = m:=by rw [List.length_map,List.length_take]; omega
    have hrv : ((d.take m).map (Value.int .i64)).length = m * 1:=by rw [List.length_map,List.length_take]; omega
    have hpt:=putCells_take d.toArray cur m (by simpa using hm) (by rw [List.size_toArray]; omega)
    have hps : (putCells (Value.int .i64) 0 d.toArray cur).size = cap * 1:=by simp [putCells,h8]
    refine ⟨(d.take m).map (Value.int .i64),⟨by rw [hrl]; exact hrv,.inr ⟨g,cap,_,by rw [hrl],Nat.zero_le _,b1,by rw [hrl]; omega,h7,hps,?_⟩⟩,rI_len,rI_Ds _⟩
    rw [hrl,Nat.mul_one]
    exact hpt
   ·refine ⟨rfl,rfl,rfl,hsz,?_⟩
    intro k hk hne
    exact b2 k hk fun e=>hne (by simp [Value.ownBlock,e])
   ·show x.w.drawn ≤ (grow (putRow (Value.int .i64) (Sort.ahead x.w q) g 0 d.toArray) os).drawn
    simp [grow,putRow,mapBlock,Sort.ahead]
   ·intro k hk
    simp only [Value.ownBlock,Option.some.injEq] at hk
    subst hk
    exact ⟨.inl rfl,Nat.lt_of_lt_of_le hlt hsz⟩
  exact ⟨y,rfl,hfin⟩
theorem Ds_one {x : X} {t : Nat} {h : Value} {args : Array Value} (hd : Ds x [.own t h] args.toList) : args = #[h]:=by
 rcases args with ⟨l⟩
 rcases l with _ | ⟨a,_ | ⟨b,l⟩⟩ <;> simp [Ds,D] at hd
 rw [hd.1]
theorem unit_D (y : X) : D y (.tuple []) (.tuple #[]):=by simp [D,Ds]
end Go.Proofs.YtpadinblmjlggaaGreatDoor
end

section
namespace Go.Proofs.YtpadinblmjlggaaGreatDoor
open Go.Sort
variable {P : Program} {ρ : Go.Shelf.Ren}
theorem rT_vals {x : X} : ∀ {zs : List (List UInt8)} {vs : List Value},Ds x (zs.map rT).flatten vs → vs = zs.map (encStr)
 | [],[],_=>rfl
 | z :: zs,v :: vs,h=>by
  simp only [List.map_cons,List.flatten_cons,List.cons_append,List.nil_append,rT,Ds,D,RdL] at h
  rw [h.1,rT_vals h.2,List.map_cons]
 | [],_ :: _,h=>by simp [Ds] at h
 | _ :: _,[],h=>by simp [Ds,rT] at h
theorem rT_Ds {x : X} : ∀ (zs : List (List UInt8)),Ds x (zs.map rT).flatten (zs.map (encStr))
 | []=>by simp [Ds]
 | z :: zs=>by
  simp only [List.map_cons,List.flatten_cons,List.cons_append,List.nil_append,rT,Ds,D,RdL]
  exact ⟨trivial,rT_Ds zs⟩
theorem rT_len {zs : List (List UInt8)} : ∀ r ∈ zs.map rT,r.length = 1:=by
 intro r hr
 obtain ⟨z,_,rfl⟩:=List.mem_map.1 hr
 rfl
theorem strs_own {x : X} {h : Value} {e : TypeId} {zs : List (List UInt8)} (hs : Ent.sat x (.seq h e 1 (zs.map rT))) :
  (h = .slice none 0 0 ∧ zs = []) ∨ ∃ g cap cur,h = .slice (some ⟨g,0,none⟩) zs.length cap ∧ x.w.heap[g]? = some (.cells cur e (0,0)) ∧ zs.length ≤ cap ∧ cap ≤ maxLen ∧ cur.size = cap ∧ cur.toList.take zs.length = zs.map (encStr):=by
 obtain ⟨xs,⟨h1,h2⟩,h3,h4⟩:=hs
 have hx:=rT_vals h4
 subst hx
 rcases h2 with ⟨rfl,h0⟩ | ⟨g,cap,cur,rfl,_,h5,h6,h7,h8,h9⟩
 ·exact .inl ⟨rfl,by simpa using h0⟩
 ·refine .inr ⟨g,cap,cur,by simp,h5,by simpa using h6,h7,by simpa using h8,by simpa using h9⟩
theorem strs_holds {x : X} {g : Nat} {cur : Array Value} {e : TypeId} {zs : List (List UInt8)} (h5 : x.w.heap[g]? = some (.cells cur e (0,0))) (h9 : cur.toList.take zs.length = zs.map (encStr)) :
  Holds (encStr) x.w g 0 zs.toArray:=by
 intro j hj
 have hj' : j < zs.length:=by simpa using hj
 have hc : cur[j]? = some (encStr zs[j]):=by
  have : (cur.toList.take zs.length)[j]? = some (encStr zs[j]):=by rw [h9]; simp [hj']
  rw [List.getElem?_take] at this
  simpa [hj'] using this
 constructor
 ·have hz : zs.toArray[j]! = zs[j]:=by simp [hj']
  rw [hz]
  simp [World.cell?,h5,hc]
 ·simp [World.frozen?,h5]
theorem putRowT_block {w : World} {g n : Nat} {cur : Array Value} {e : TypeId} (h5 : w.heap[g]? = some (.cells cur e (0,0))) (d : Array (List UInt8)) (os : Array Obj) :
  (grow (putRow (encStr) (Sort.ahead w n) g 0 d) os).heap[g]? = some (.cells (putCells (encStr) 0 d cur) e (0,0)) ∧ ∀ k,k < w.heap.size → k ≠ g → (grow (putRow (encStr) (Sort.ahead w n) g 0 d) os).heap[k]? = w.heap[k]?:=by
 have hlt:=(Array.getElem?_eq_some_iff.1 h5).1
 have hsz : (putRow (encStr) (Sort.ahead w n) g 0 d).heap.size = w.heap.size:=by simp [putRow,mapBlock,Sort.ahead]
 have hgr : ∀ k,k < w.heap.size → (grow (putRow (encStr) (Sort.ahead w n) g 0 d) os).heap[k]? = (putRow (encStr) (Sort.ahead w n) g 0 d).heap[k]?:=by
  intro k hk
  simp only [grow]
  rw [Array.getElem?_append_left (by rw [hsz]; exact hk)]
 constructor
 ·rw [hgr g hlt]
  simp [putRow,mapBlock,Sort.ahead,Array.getElem?_modify,h5,onCells]
 ·intro k hk hne
  rw [hgr k hk]
  simp [putRow,mapBlock,Sort.ahead,Array.getElem?_modify,Ne.symm hne]
theorem putCellsT_take (d : Array (List UInt8)) (cur : Array Value) (m : Nat) (hm : m ≤ d.size) (hd : d.size ≤ cur.size) : (putCells (encStr) 0 d cur).toList.take m = (d.toList.take m).map (encStr):=by
 apply List.ext_getElem?
 intro k
 rw [List.getElem?_take,List.getElem?_map,List.getElem?_take]
 split
 ·rename_i hk
  have h1 : k < cur.size:=by omega
  have h2 : k < d.size:=by omega
  simp [putCells,h1,h2]
 ·simp
theorem seq_putRowT {x : X} {H : Heap} {t g cap q : Nat} {e : TypeId} {zs : List (List UInt8)} (hi : Inv x ((t,.seq (.slice (some ⟨g,0,none⟩) zs.length cap) e 1 (zs.map rT)) :: H)) (d : List (List UInt8)) (hd : d.length = zs.length) (m : Nat) (hm : m ≤ d.length) (os : Array Obj) :
  ∃ y : X,y.w = grow (putRow (encStr) (Sort.ahead x.w q) g 0 d.toArray) os ∧ x.le y ∧ Inv y ((t,.seq (.slice (some ⟨g,0,none⟩) m cap) e 1 ((d.take m).map rT)) :: H):=by
 have hs:=hi.sat _ (List.mem_cons_self)
 rcases strs_own hs with ⟨h,_⟩ | ⟨g',cap',cur,h,h5,h6,h7,h8,h9⟩
 ·cases h
 ·cases h
  obtain ⟨b1,b2⟩:=putRowT_block (n:=q) h5 d.toArray os
  have hlt:=(Array.getElem?_eq_some_iff.1 h5).1
  have hsz : x.w.heap.size ≤ (grow (putRow (encStr) (Sort.ahead x.w q) g 0 d.toArray) os).heap.size:=by simp [grow,putRow,mapBlock,Sort.ahead]
  let y : X:=⟨grow (putRow (encStr) (Sort.ahead x.w q) g 0 d.toArray) os,x.ok⟩
  have hfin : x.le y ∧ Inv y ((t,.seq (.slice (some ⟨g,0,none⟩) m cap) e 1 ((d.take m).map rT)) :: H):=by
   refine hi.ofOwn (y:=y) (g':=t) (h':=.slice (some ⟨g,0,none⟩) m cap) (rows':=(d.take m).map rT) rfl ?_ ?_ ?_ ?_
   ·have hrl : ((d.take m).map rT).length = m:=by rw [List.length_map,List.length_take]; omega
    have hrv : ((d.take m).map (encStr)).length = m * 1:=by rw [List.length_map,List.length_take]; omega
    have hpt:=putCellsT_take d.toArray cur m (by simpa using hm) (by rw [List.size_toArray]; omega)
    have hps : (putCells (encStr) 0 d.toArray cur).size = cap * 1:=by simp [putCells,h8]
    refine ⟨(d.take m).map (encStr),⟨by rw [hrl]; exact hrv,.inr ⟨g,cap,_,by rw [hrl],Nat.zero_le _,b1,by rw [hrl]; omega,h7,hps,?_⟩⟩,rT_len,rT_Ds _⟩
    rw [hrl,Nat.mul_one]
    exact hpt
   ·refine ⟨rfl,rfl,rfl,hsz,?_⟩
    intro k hk hne
    exact b2 k hk fun e=>hne (by simp [Value.ownBlock,e])
   ·show x.w.drawn ≤ (grow (putRow (encStr) (Sort.ahead x.w q) g 0 d.toArray) os).drawn
    simp [grow,putRow,mapBlock,Sort.ahead]
   ·intro k hk
    simp only [Value.ownBlock,Option.some.injEq] at hk
    subst hk
    exact ⟨.inl rfl,Nat.lt_of_lt_of_le hlt hsz⟩
  exact ⟨y,rfl,hfin⟩
def sortT (zs : List (List UInt8)) : List (List UInt8):=zs.mergeSort fun x y=>decide (x ≤ y)
theorem sortT_len (zs : List (List UInt8)) : (sortT zs).length = zs.length:=by simp [sortT]
theorem sortT_s (Ly : Go.Proofs.Lays.n190 P ρ) (hc : Callable P (ρ.f 190)) {e t : Nat} {h : Value} {zs : List (List UInt8)} (hz : zs.length < 4611686018427387904) :
  CallS P (ρ.f 190) [.own t h] [(t,.seq h e 1 (zs.map rT))] fun r H'=>r = .tuple [] ∧ H' = [(t,.seq h e 1 ((sortT zs).map rT))]:=by
 refine ⟨hc,fun x args H0 hi hd=>?_⟩
 obtain rfl:=Ds_one hd
 have hs:=hi.sat _ (List.mem_cons_self)
 rcases strs_own hs with ⟨rfl,rfl⟩ | ⟨g,cap,cur,rfl,h5,h6,h7,h8,h9⟩
 ·refine (Any.slices_Sort_string_none Ly none 0 x.w).mono ?_
  rintro _ _ ⟨rfl,rfl⟩
  exact ⟨x,_,.tuple [],_,rfl,rfl,.refl x,by simpa [sortT] using hi,unit_D x,rfl,rfl⟩
 ·refine (Any.slices_Sort_string Ly g 0 cap zs x.w (strs_holds h5 h9) (Array.getElem?_eq_some_iff.1 h5).1 hz).mono ?_
  rintro _ _ ⟨rfl,n,os,rfl⟩
  obtain ⟨y,k1,k2,k3⟩:=seq_putRowT hi (q:=n) (sortT zs) (sortT_len zs) (sortT zs).length (Nat.le_refl _) os
  rw [List.take_length,sortT_len] at k3
  exact ⟨y,_,.tuple [],_,rfl,k1,k2,k3,unit_D y,rfl,rfl⟩
end Go.Proofs.YtpadinblmjlggaaGreatDoor
end

section
namespace Go.Proofs.YtpadinblmjlggaaGreatDoor
set_option maxRecDepth 100000
set_option maxHeartbeats 4000000
def sortTRen : Go.Shelf.Ren:=⟨fun | 125=>287 | 128=>317 | 129=>318 | 190=>241 | 258=>286 | 302=>308 | 303=>309 | 304=>310 | 305=>311 | 306=>312 | 307=>313 | 308=>314 | 309=>315 | 310=>316 | 329=>327 | 330=>328 | 333=>326 | 334=>329 | 335=>330 | 336=>331 | 344=>334 | n=>n,fun | 0=>0 | 3=>3 | 4=>4 | 5=>5 | 9=>9 | 31=>41 | 46=>350 | 51=>374 | 53=>356 | 131=>113 | 182=>367 | 183=>368 | 218=>379 | 222=>383 | 228=>385 | 229=>55 | n=>n,fun n=>n⟩
theorem sortTLays : Go.Proofs.Lays.n190 Tryz.prog sortTRen:={ 
 mixed:=by kernel_rfl,
 f125:=by kernel_rfl,
 f128:=by kernel_rfl,
 f129:=by kernel_rfl,
 f190:=by kernel_rfl,
 f258:=by kernel_rfl,
 f302:=by kernel_rfl,
 f303:=by kernel_rfl,
 f304:=by kernel_rfl,
 f305:=by kernel_rfl,
 f306:=by kernel_rfl,
 f307:=by kernel_rfl,
 f308:=by kernel_rfl,
 f309:=by kernel_rfl,
 f310:=by kernel_rfl,
 f329:=by kernel_rfl,
 f330:=by kernel_rfl,
 f333:=by kernel_rfl,
 f334:=by kernel_rfl,
 f335:=by kernel_rfl,
 f336:=by kernel_rfl,
 f344:=by kernel_rfl,
 t0:=Tryz.underlying0,
 a0:=Tryz.isAgg0,
 z0:=Tryz.sizeOf0,
 v0:=Tryz.zeroValue0,
 t3:=Tryz.underlying3,
 a3:=Tryz.isAgg3,
 z3:=Tryz.sizeOf3,
 v3:=Tryz.zeroValue3,
 t4:=Tryz.underlying4,
 a4:=Tryz.isAgg4,
 z4:=Tryz.sizeOf4,
 v4:=Tryz.zeroValue4,
 t5:=Tryz.underlying5,
 a5:=Tryz.isAgg5,
 z5:=Tryz.sizeOf5,
 v5:=Tryz.zeroValue5,
 t9:=Tryz.underlying9,
 a9:=Tryz.isAgg9,
 z9:=Tryz.sizeOf9,
 v9:=Tryz.zeroValue9,
 t31:=Tryz.underlying41,
 a31:=Tryz.isAgg41,
 z31:=Tryz.sizeOf41,
 v31:=Tryz.zeroValue41,
 t46:=Tryz.underlying350,
 a46:=Tryz.isAgg350,
 z46:=Tryz.sizeOf350,
 v46:=Tryz.zeroValue350,
 t51:=Tryz.underlying374,
 a51:=Tryz.isAgg374,
 z51:=Tryz.sizeOf374,
 v51:=Tryz.zeroValue374,
 t53:=Tryz.underlying356,
 a53:=Tryz.isAgg356,
 z53:=Tryz.sizeOf356,
 v53:=Tryz.zeroValue356,
 t131:=Tryz.underlying113,
 a131:=Tryz.isAgg113,
 z131:=Tryz.sizeOf113,
 v131:=Tryz.zeroValue113,
 t182:=Tryz.underlying367,
 a182:=Tryz.isAgg367,
 z182:=Tryz.sizeOf367,
 v182:=Tryz.zeroValue367,
 t183:=Tryz.underlying368,
 a183:=Tryz.isAgg368,
 z183:=Tryz.sizeOf368,
 v183:=Tryz.zeroValue368,
 t218:=Tryz.underlying379,
 a218:=Tryz.isAgg379,
 z218:=Tryz.sizeOf379,
 v218:=Tryz.zeroValue379,
 t222:=Tryz.underlying383,
 a222:=Tryz.isAgg383,
 z222:=Tryz.sizeOf383,
 v222:=Tryz.zeroValue383,
 t228:=Tryz.underlying385,
 a228:=Tryz.isAgg385,
 z228:=Tryz.sizeOf385,
 v228:=Tryz.zeroValue385,
 t229:=Tryz.underlying55,
 a229:=Tryz.isAgg55,
 z229:=Tryz.sizeOf55,
 v229:=Tryz.zeroValue55 }
end Go.Proofs.YtpadinblmjlggaaGreatDoor
end
