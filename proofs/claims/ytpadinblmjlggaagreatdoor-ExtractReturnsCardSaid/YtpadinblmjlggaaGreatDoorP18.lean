/- Texts joined by a program: Kw,Kx,Db,Ky,Fxp. -/
import Derived.OrdersIn
import Derived.Test.YtpadinblmjlggaaGreatDoorP17
import Derived.Test.YtpadinblmjlggaaGreatDoorP16
import Derived.Test.YtpadinblmjlggaaGreatDoorP12
import Derived.Test.YtpadinblmjlggaaGreatDoorP11
import Derived.Test.YtpadinblmjlggaaGreatDoorP15
set_option linter.unusedSimpArgs false
set_option linter.unusedVariables false

section
namespace Go.Proofs.YtpadinblmjlggaaGreatDoor
set_option maxHeartbeats 8000000
set_option maxRecDepth 10000
theorem head_around {c : Cir} {p : PortZ} (hc : CirR c) (hp : p ∈ allP c.parts) : ∃ r rest,aroundZ c p = r :: rest ∧ (r = p ↔ rootF c.pipes p = p):=by
 have hro:=rootF_ok c.pipes
 have hm : rootF c.pipes p ∈ aroundZ c p:=List.mem_filter.2 ⟨(root_all hc).1 hp,by simp [hro.idem]⟩
 have hpm : p ∈ aroundZ c p:=List.mem_filter.2 ⟨hp,by simp⟩
 have hs : (aroundZ c p).Pairwise fun a b=>beforeZ a b = true:=(allN_sorted c.parts _).sublist List.filter_sublist
 cases h : aroundZ c p with
 | nil=>rw [h] at hm; cases hm
 | cons r rest=>
  refine ⟨r,rest,rfl,?_⟩
  have hr : rootF c.pipes r = rootF c.pipes p:=by
   have : r ∈ aroundZ c p:=by rw [h]; simp
   simpa using (List.mem_filter.1 this).2
  have hle:=hro.le r
  rw [hr] at hle
  rw [h] at hm hs
  have hrr : rootF c.pipes p = r:=by
   rcases List.mem_cons.1 hm with e | hm
   ·exact e
   ·have:=(List.pairwise_cons.1 hs).1 _ hm
    rw [this] at hle
    cases hle
  rw [hrr]
theorem Joined_fn (c : Cir) (hc : CirR c) : CallFn Tryz.prog 95 [aCi c] (aNets (netsZ c)):=by
 have hkinds : ∀ p ∈ c.parts,0 ≤ p.kind ∧ p.kind < 14:=fun p hp=>partE_kindZ (hc.part p hp)
 have hallf:=AllR_fn c hkinds hc.few
 have haf:=fun p hp=>Around_fn c hc p hp
 have hhd:=fun p hp=>@head_around c p hc hp
 have hfew:=hc.few
 have hall448 : (allP c.parts).length ≤ 448:=by
  have:=allN_len c.parts c.parts.length
  unfold allP
  omega
 have hz : netsZ c = ((allP c.parts).filter fun r=>rootF c.pipes r == r).map (aroundZ c):=by
  unfold netsZ netsF
  apply List.map_congr_left
  intro r hr
  have:=(List.mem_filter.1 hr).2
  simp only [beq_iff_eq] at this
  unfold aroundZ
  rw [this]
 rw [hz]
 obtain ⟨ps,l⟩:=c
 simp only at hallf haf hhd hall448 ⊢
 generalize allP ps = all at *
 refine callFz_of Tryz.func95 rfl Tryz.ntmps95 (rs:=[.tmp 2]) rfl (by kernel_rfl) (by simp) (by kernel_rfl) ?_
 simp
 refine hallf.s ?_
 simp
 refine V.forI (σ:=Value) all.length [1,2,4] (by simp; exact rfl) (fun i g=>[(3,.own 50 g),(5,aI i)]) (fun i g=>[(50,.seq g 68 1 ((((all.take i).filter fun r=>rootF l r == r).map (aroundZ ⟨ps,l⟩)).map fun l=>[.dat (.sl (l.map encPo))]))]) (fun _ _=>True) (.slice none 0 0) trivial (by simp) ⟨by simp; exact rfl,by simp⟩ ?_ ?_
 ·rintro i g hi -
  obtain ⟨x,hx⟩ : ∃ x,all[i] = x:=⟨_,rfl⟩
  have hxo : all[i]? = some x:=by rw [List.getElem?_eq_getElem hi,hx]
  have ha:=haf x (List.mem_of_getElem? hxo)
  obtain ⟨r,rest,h1,h2⟩:=hhd x (List.mem_of_getElem? hxo)
  have hle : (((all.take i).filter fun r=>rootF l r == r).map (aroundZ ⟨ps,l⟩)).length ≤ 448:=by
   rw [List.length_map]
   refine Nat.le_trans (List.length_filter_le _ _) ?_
   rw [List.length_take]
   omega
  rw [take_snoc hxo,List.filter_append,List.map_append]
  generalize ((all.take i).filter fun r=>rootF l r == r).map (aroundZ ⟨ps,l⟩) = W at *
  obtain ⟨x1,x2⟩:=x
  obtain ⟨r1,r2⟩:=r
  rw [h1] at ha
  simp [hi,hx,hxo]
  refine V.drawX (fun t=>if t = 20 then some (.fn (.dat (.sl (((r1,r2) :: rest).map encPo)))) else none) (by kernel_rfl) (by kernel_rfl) (by simp) ?_
  simp [hi,hx,hxo]
  refine ⟨ha,?_⟩
  refine V.drawX (fun _=>none) (by kernel_rfl) (by kernel_rfl) (by simp) ?_
  simp [hi,hx,hxo]
  by_cases hr : rootF l (x1,x2) = (x1,x2)
  ·have e:=h2.2 hr
   simp only [Prod.mk.injEq] at e
   obtain ⟨rfl,rfl⟩:=e
   simp [hr,h1]
   omega
  ·have e : ¬ (r1 = x1 ∧ r2 = x2):=fun h=>hr (h2.1 (by rw [h.1,h.2]))
   simp [hr]
   exact ⟨fun a b=>e ⟨a,b⟩,fun _=>by omega⟩
 ·rintro g -
  rw [List.take_length]
  generalize (all.filter fun r=>rootF l r == r).map (aroundZ ⟨ps,l⟩) = W
  simp
end Go.Proofs.YtpadinblmjlggaaGreatDoor
end

section
namespace Go.Proofs.YtpadinblmjlggaaGreatDoor
set_option maxHeartbeats 8000000
set_option maxRecDepth 100000
abbrev encPs' (p : PassP) : List L:=[.str p.to,.sl (p.src.map encT),.bool p.all]
theorem pass_fn (a b : List UInt8) : CallFn Tryz.prog 299 [aT a,aT b] (.dat (.sl ([(⟨a,[b],false⟩ : PassP)].map encPs'))):=by
 refine callFz_of Tryz.func299 rfl Tryz.ntmps299 (rs:=[.tmp 4]) rfl (by kernel_rfl) (by simp) (by kernel_rfl) ?_
 simp
theorem nothing_fn (n : Nat) : CallFn Tryz.prog 266 [aI n] (.dat (.sl (([] : List PassP).map encPs'))):=by
 refine callFz_of Tryz.func266 rfl Tryz.ntmps266 (rs:=[.tmp 2]) rfl (by kernel_rfl) (by simp) (by kernel_rfl) ?_
 simp
theorem through_fn (n : Nat) : CallFn Tryz.prog 273 [aI n] (.dat (.sl ([(⟨[50],[[49]],false⟩ : PassP)].map encPs'))):=by
 have h:=pass_fn [50] [49]
 refine callFz_of Tryz.func273 rfl Tryz.ntmps273 (rs:=[.tmp 2]) rfl (by kernel_rfl) (by simp) (by kernel_rfl) ?_
 simp
 refine h.s ?_
 simp
theorem change_fn (n : Nat) (hn : n < 2) : CallFn Tryz.prog 268 [aI n] (.dat (.sl ([(⟨if n = 1 then [52] else [50],[[49]],false⟩ : PassP)].map encPs'))):=by
 have h0:=pass_fn [50] [49]
 have h1:=pass_fn [52] [49]
 have : n = 0 ∨ n = 1:=by omega
 refine callFz_of Tryz.func268 rfl Tryz.ntmps268 (rs:=[.tmp 2]) rfl (by kernel_rfl) (by simp) (by kernel_rfl) ?_
 rcases this with rfl | rfl
 ·simp
  refine h0.s ?_
  simp
 ·simp
  refine h1.s ?_
  simp
theorem gate1_fn (n : Nat) (o : Nat) : CallFn Tryz.prog 300 [aI n,.rptr [.int .i64 o]] (.dat (.sl ((if n = o then [(⟨[50],[[49]],false⟩ : PassP)] else []).map encPs'))):=by
 have h:=pass_fn [50] [49]
 refine callFz_of Tryz.func300 rfl Tryz.ntmps300 (rs:=[.tmp 3]) rfl (by kernel_rfl) (by simp) (by kernel_rfl) ?_
 by_cases e : n = o
 ·subst e
  simp
  refine h.s ?_
  simp
 ·have e2 : ¬ (n : Int) = o:=by omega
  simp [e,e2]
theorem merge1_fn (n : Nat) (b : Bool) : CallFn Tryz.prog 302 [aI n,.rptr [.bool b]] (.dat (.sl ([(⟨[50],[[49],[49,49]],b⟩ : PassP)].map encPs'))):=by
 refine callFz_of Tryz.func302 rfl Tryz.ntmps302 (rs:=[.tmp 3]) rfl (by kernel_rfl) (by simp) (by kernel_rfl) ?_
 simp
theorem row_pass : ∀ k,k < 14 → ∃ f caps,(rowOf k)[10]? = some (.fn f [] caps) ∧ ∀ n : Nat,n < 2 → CallFn Tryz.prog f (aI n :: caps) (.dat (.sl ((passK k n).map encPs'))):=by
 refine cat_cases ⟨?_,?_,?_,?_,?_,?_,?_,?_,?_,?_,?_,?_,?_,?_⟩
 ·exact ⟨_,_,rfl,fun n hn=>nothing_fn n⟩
 ·exact ⟨_,_,rfl,fun n hn=>nothing_fn n⟩
 ·exact ⟨_,_,rfl,fun n hn=>change_fn n hn⟩
 ·exact ⟨_,_,rfl,fun n hn=>change_fn n hn⟩
 ·exact ⟨_,_,rfl,fun n hn=>gate1_fn n 1⟩
 ·refine ⟨_,_,rfl,fun n hn=>?_⟩
  have:=gate1_fn n 0
  have e : (if n = 0 then [(⟨[50],[[49]],false⟩ : PassP)] else []) = passK 5 n:=by
   have : n = 0 ∨ n = 1:=by omega
   rcases this with rfl | rfl <;> rfl
  rwa [e] at this
 ·exact ⟨_,_,rfl,fun n hn=>gate1_fn n 1⟩
 ·exact ⟨_,_,rfl,fun n hn=>gate1_fn n 1⟩
 ·exact ⟨_,_,rfl,fun n hn=>merge1_fn n false⟩
 ·exact ⟨_,_,rfl,fun n hn=>merge1_fn n true⟩
 ·exact ⟨_,_,rfl,fun n hn=>through_fn n⟩
 ·exact ⟨_,_,rfl,fun n hn=>through_fn n⟩
 ·exact ⟨_,_,rfl,fun n hn=>gate1_fn n 1⟩
 ·exact ⟨_,_,rfl,fun n hn=>gate1_fn n 1⟩
theorem row_dat : ∀ k,k < 14 → (rowOf k)[7]? = some (.dat (.str (plusK k))) ∧ (rowOf k)[8]? = some (.dat (.str (minusK k))) ∧ (rowOf k)[9]? = some (aI (manyK k)):=by
 refine cat_cases ⟨?_,?_,?_,?_,?_,?_,?_,?_,?_,?_,?_,?_,?_,?_⟩
 all_goals exact ⟨rfl,rfl,rfl⟩
theorem cells_ok {R : List A} (hl : R.length = 12) (hc : R.all cellB = true) : R.length = 12 ∧ R.length ≤ 12 ∧ ∀ x ∈ R,(match x with
  | A.any=>false
  | A.undef=>false
  | A.record _=>false
  | A.agg _=>false
  | A.tuple _=>false
  | A.cond _ _=>false
  | A.nn _=>false
  | A.clip _=>false
  | _=>true) = true:=by
 refine ⟨hl,by omega,fun x hx=>?_⟩
 have hx2:=List.all_eq_true.1 hc x hx
 cases x <;> exact hx2
theorem Positions_k (k : Nat) (hk : k < 14) : CallFn Tryz.prog 89 [aI k] (.tuple [aI (manyK k),aI 0]):=by
 have hf:=find_fn k hk
 have hl:=row_len k hk
 have hc:=row_cell k hk
 obtain ⟨-,-,h9⟩:=row_dat k hk
 obtain ⟨h9l,h91⟩:=List.getElem?_eq_some_iff.1 h9
 refine callFz_of Tryz.func89 rfl Tryz.ntmps89 (rs:=[.tmp 2,.tmp 3]) rfl (by kernel_rfl) (by simp) (by kernel_rfl) ?_
 simp
 refine hf.s ?_
 generalize rowOf k = R at *
 simp
 intro b4
 refine ⟨cells_ok hl hc,?_⟩
 simp [hl,h9,h91]
theorem Pilots_k (k : Nat) (hk : k < 14) : CallFn Tryz.prog 130 [aI k] (.tuple [aT (plusK k),aT (minusK k),aI 0]):=by
 have hf:=find_fn k hk
 have hl:=row_len k hk
 have hc:=row_cell k hk
 obtain ⟨h7,h8,-⟩:=row_dat k hk
 obtain ⟨h7l,h71⟩:=List.getElem?_eq_some_iff.1 h7
 obtain ⟨h8l,h81⟩:=List.getElem?_eq_some_iff.1 h8
 refine callFz_of Tryz.func130 rfl Tryz.ntmps130 (rs:=[.tmp 2,.tmp 3,.tmp 4]) rfl (by kernel_rfl) (by simp) (by kernel_rfl) ?_
 simp
 refine hf.s ?_
 generalize rowOf k = R at *
 simp
 intro b4
 refine ⟨cells_ok hl hc,?_⟩
 refine V.drawX (fun _=>none) (by kernel_rfl) (by kernel_rfl) (by simp) ?_
 simp [hl,h7,h71,h8,h81]
theorem placed_k (k : Nat) (hk : k < 14) (n : Nat) (hn : n < manyK k) : CallFn Tryz.prog 192 [aI k,aI n] (.tuple [.agg (rowOf k),aI 0]):=by
 have hf:=find_fn k hk
 have hl:=row_len k hk
 have hc:=row_cell k hk
 obtain ⟨-,-,h9⟩:=row_dat k hk
 obtain ⟨h9l,h91⟩:=List.getElem?_eq_some_iff.1 h9
 have hz:=row_frz k hk
 have hnil:=row_nil k hk
 have hls:=row_ls k hk
 have hn2 : (n : Int) < manyK k:=by omega
 refine callFz_of Tryz.func192 rfl Tryz.ntmps192 (rs:=[.cell 4 226,.tmp 5]) rfl (by kernel_rfl) (by simp) (by kernel_rfl) ?_
 simp
 intro b4
 refine hf.s ?_
 generalize rowOf k = R at *
 generalize manyK k = m at *
 simp
 intro b6
 refine ⟨cells_ok hl hc,?_⟩
 have htk : List.take 12 R = R:=List.take_of_length_le (by omega)
 have hce:=(cells_ok hl hc).2.2
 simp [hl,h9,h91,hn2,hn,htk,hls]
 exact ⟨hce,hz _⟩
theorem Passes_k (k : Nat) (hk : k < 14) (n : Nat) (hn : n < manyK k) : CallFn Tryz.prog 175 [aI k,aI n] (.tuple [.dat (.sl ((passK k n).map encPs')),aI 0]):=by
 have hf:=placed_k k hk n hn
 have hl:=row_len k hk
 have hc:=row_cell k hk
 have hm : manyK k ≤ 2:=by revert k; exact fun k hk=>by intros; exact (show ∀ k,k < 14 → manyK k ≤ 2 by decide) k hk
 obtain ⟨f,caps,h10,hp⟩:=row_pass k hk
 have hp:=hp n (by omega)
 obtain ⟨h10l,h101⟩:=List.getElem?_eq_some_iff.1 h10
 refine callFz_of Tryz.func175 rfl Tryz.ntmps175 (rs:=[.tmp 4,.tmp 5]) rfl (by kernel_rfl) (by simp) (by kernel_rfl) ?_
 simp
 refine hf.s ?_
 generalize rowOf k = R at *
 simp
 intro b6
 refine ⟨cells_ok hl hc,?_⟩
 simp [hl,h10,h101]
 refine hp.s ?_
 simp
theorem row_roles : ∀ k,k < 14 → ∃ r0 r1 r2 r3 r4,rolesK k = [r0,r1,r2,r3,r4] ∧ List.take 5 (List.drop 2 (rowOf k)) = [aTs r0,aTs r1,aTs r2,aTs r3,aTs r4] ∧ r0.length ≤ 2 ∧ r1.length ≤ 2 ∧ r2.length ≤ 2 ∧ r3.length ≤ 2 ∧ r4.length ≤ 2:=
 cat_cases ⟨⟨_,_,_,_,_,rfl,rfl,by decide,by decide,by decide,by decide,by decide⟩,⟨_,_,_,_,_,rfl,rfl,by decide,by decide,by decide,by decide,by decide⟩,⟨_,_,_,_,_,rfl,rfl,by decide,by decide,by decide,by decide,by decide⟩,⟨_,_,_,_,_,rfl,rfl,by decide,by decide,by decide,by decide,by decide⟩,⟨_,_,_,_,_,rfl,rfl,by decide,by decide,by decide,by decide,by decide⟩,⟨_,_,_,_,_,rfl,rfl,by decide,by decide,by decide,by decide,by decide⟩,⟨_,_,_,_,_,rfl,rfl,by decide,by decide,by decide,by decide,by decide⟩,⟨_,_,_,_,_,rfl,rfl,by decide,by decide,by decide,by decide,by decide⟩,⟨_,_,_,_,_,rfl,rfl,by decide,by decide,by decide,by decide,by decide⟩,⟨_,_,_,_,_,rfl,rfl,by decide,by decide,by decide,by decide,by decide⟩,⟨_,_,_,_,_,rfl,rfl,by decide,by decide,by decide,by decide,by decide⟩,⟨_,_,_,_,_,rfl,rfl,by decide,by decide,by decide,by decide,by decide⟩,⟨_,_,_,_,_,rfl,rfl,by decide,by decide,by decide,by decide,by decide⟩,⟨_,_,_,_,_,rfl,rfl,by decide,by decide,by decide,by decide,by decide⟩⟩
theorem Role_k (k : Nat) (hk : k < 14) (t : List UInt8) : CallFn Tryz.prog 180 [aI k,aT t] (.tuple [aI ((roleK k t).getD 0 : Nat),aI (if (roleK k t).isSome = true then 0 else 6)]):=by
 have hf:=find_fn k hk
 have hl:=row_len k hk
 have hc:=row_cell k hk
 obtain ⟨r0,r1,r2,r3,r4,h3,h4,m0,m1,m2,m3,m4⟩:=row_roles k hk
 unfold roleK
 rw [h3]
 have c0:=containsT_fn r0 t (by unfold Sh; omega)
 have c1:=containsT_fn r1 t (by unfold Sh; omega)
 have c2:=containsT_fn r2 t (by unfold Sh; omega)
 have c3:=containsT_fn r3 t (by unfold Sh; omega)
 have c4:=containsT_fn r4 t (by unfold Sh; omega)
 refine callFz_cut 2 Tryz.func180 rfl Tryz.ntmps180 (rs:=[.tmp 4,.tmp 5]) rfl (by kernel_rfl) (by simp) (by kernel_rfl) ?_
 simp
 refine hf.s ?_
 generalize rowOf k = R at *
 simp
 intro b6
 refine ⟨cells_ok hl hc,?_⟩
 refine V.cutV [(1,aT t),(6,.ptr 6 b6 0),(7,aI 0),(4,aI 0),(5,aI 0)] (Hs:=[(6,.box b6 R)]) (by simp) (by simp [hl,List.take_of_length_le]) (V.of_vc ?_)
 simp [h4]
 refine ⟨by omega,?_⟩
 refine V.forI (σ:=Unit) 5 [1,19] (by simp; exact rfl) (fun i _=>[(4,aI 0),(5,aI 0),(20,aI i)]) (fun _ _=>[]) (fun i _=>NoF (fun l : List (List UInt8)=>l.any (t == ·)) ([r0,r1,r2,r3,r4].take i)) () (by simp) (by simp) ⟨by simp; exact rfl,by simp⟩ ?_ ?_
 ·rintro i - hi hI
  have : i = 0 ∨ i = 1 ∨ i = 2 ∨ i = 3 ∨ i = 4:=by omega
  rcases this with rfl | rfl | rfl | rfl | rfl
  ·simp
   refine c0.s ?_
   cases e : r0.any (t == ·)
   ·have hs:=(findIdx_step (p:=fun l : List (List UInt8)=>l.any (t == ·)) hI (show [r0,r1,r2,r3,r4][0]? = some r0 from rfl)).1 e
    simp
    exact hs
   ·have hs:=(findIdx_step (p:=fun l : List (List UInt8)=>l.any (t == ·)) hI (show [r0,r1,r2,r3,r4][0]? = some r0 from rfl)).2 e
    rw [hs]
    simp
  ·simp
   refine c1.s ?_
   cases e : r1.any (t == ·)
   ·have hs:=(findIdx_step (p:=fun l : List (List UInt8)=>l.any (t == ·)) hI (show [r0,r1,r2,r3,r4][1]? = some r1 from rfl)).1 e
    simp
    exact hs
   ·have hs:=(findIdx_step (p:=fun l : List (List UInt8)=>l.any (t == ·)) hI (show [r0,r1,r2,r3,r4][1]? = some r1 from rfl)).2 e
    rw [hs]
    simp
  ·simp
   refine c2.s ?_
   cases e : r2.any (t == ·)
   ·have hs:=(findIdx_step (p:=fun l : List (List UInt8)=>l.any (t == ·)) hI (show [r0,r1,r2,r3,r4][2]? = some r2 from rfl)).1 e
    simp
    exact hs
   ·have hs:=(findIdx_step (p:=fun l : List (List UInt8)=>l.any (t == ·)) hI (show [r0,r1,r2,r3,r4][2]? = some r2 from rfl)).2 e
    rw [hs]
    simp
  ·simp
   refine c3.s ?_
   cases e : r3.any (t == ·)
   ·have hs:=(findIdx_step (p:=fun l : List (List UInt8)=>l.any (t == ·)) hI (show [r0,r1,r2,r3,r4][3]? = some r3 from rfl)).1 e
    simp
    exact hs
   ·have hs:=(findIdx_step (p:=fun l : List (List UInt8)=>l.any (t == ·)) hI (show [r0,r1,r2,r3,r4][3]? = some r3 from rfl)).2 e
    rw [hs]
    simp
  ·simp
   refine c4.s ?_
   cases e : r4.any (t == ·)
   ·have hs:=(findIdx_step (p:=fun l : List (List UInt8)=>l.any (t == ·)) hI (show [r0,r1,r2,r3,r4][4]? = some r4 from rfl)).1 e
    simp
    exact hs
   ·have hs:=(findIdx_step (p:=fun l : List (List UInt8)=>l.any (t == ·)) hI (show [r0,r1,r2,r3,r4][4]? = some r4 from rfl)).2 e
    rw [hs]
    simp
 ·rintro - hI
  rw [findIdx_none hI]
  simp
end Go.Proofs.YtpadinblmjlggaaGreatDoor
end

section
namespace Go.Proofs.YtpadinblmjlggaaGreatDoor
set_option maxHeartbeats 2000000
set_option maxRecDepth 10000
theorem CallS.rt' {P : Program} {k : Nat} {g : FuncId} {az : List A} {H : Heap} {K : A → Heap → Prop} (h : CallS P g az H K) : CallS P g az (Go.Proofs.YtpadinblmjlggaaGreatDoor.rt k H) fun r H'=>∃ H2,H' = Go.Proofs.YtpadinblmjlggaaGreatDoor.rt k H2 ∧ K r H2:=by
 refine ⟨h.1,fun x args H0 hi hd=>(h.2 x args H0 (hi.ents (by simp [rt_snd])) hd).mono ?_⟩
 rintro _ _ ⟨y,v,r,H',a,b,c,d,e,g⟩
 exact ⟨y,v,r,Go.Proofs.YtpadinblmjlggaaGreatDoor.rt k H',a,b,c,d.ents (by simp [rt_snd]),e,H',rfl,g⟩
theorem get!_list (s : List UInt8) (i : Nat) (h : i < s.length) : (ByteArray.mk s.toArray).get! i = s[i]:=by
 simp [ByteArray.get!,h]
theorem decode_ascii {s : List UInt8} {i : Nat} (h : i < s.length) (hb : s[i].toNat < 128) : Utf8.decode ⟨s.toArray⟩ i = (s[i].toNat,1):=by
 simp [Utf8.decode,get!_list s i h,hb]
theorem decode_high {s : List UInt8} {i : Nat} (h : i < s.length) (hb : 128 ≤ s[i].toNat) : 128 ≤ (Utf8.decode ⟨s.toArray⟩ i).1 ∧ (Utf8.decode ⟨s.toArray⟩ i).1 ≤ 1114111:=by
 have hv : ∀ c : Nat,Utf8.valid c = true → c ≤ 1114111:=by
  intro c hc
  simp [Utf8.valid] at hc
  omega
 have hlt : s[i].toNat < 256:=s[i].toNat_lt
 simp only [Utf8.decode,Nat.add_zero,get!_list s i h,Utf8.runeError]
 rw [if_neg (by omega)]
 split
 ·split <;> simp <;> omega
 ·split
  ·split
   ·rename_i h1
    simp only [Bool.and_eq_true,decide_eq_true_eq] at h1
    exact ⟨by simp only []; omega,hv _ h1.2⟩
   ·simp
  ·split
   ·split
    ·rename_i h1
     simp only [Bool.and_eq_true,decide_eq_true_eq] at h1
     exact ⟨by simp only []; omega,hv _ h1.2⟩
    ·simp
   ·simp
theorem indexFuncS_fn (s : List UInt8) (hs : Sh s) (p : Int → Bool) (hp : ∀ r,128 ≤ r → p r = true) (f : FuncId) (first caps : List A)
  (hf : ∀ r,0 ≤ r → r ≤ 1114111 → CallFn Tryz.prog f (first ++ [.dat (.int .i32 r)] ++ caps) (aB (p r))) :
  CallFn Tryz.prog 324 [aT s,.fn f first caps,aB true] (aI (idxI (s.findIdx? fun b=>p b.toNat))):=by
 refine callFz_of Tryz.func324 rfl Tryz.ntmps324 (rs:=[.tmp 6]) rfl (by kernel_rfl) (by simp) (by kernel_rfl) ?_
 simp
 intro b
 refine V.forI (σ:=Unit) s.length [1,2,10] (by simp; exact rfl) (fun _ _=>[]) (fun i _=>[(10,.raw b (.stringIter ⟨s.toArray⟩ i))]) (fun i _=>NoF (fun b : UInt8=>p b.toNat) (s.take i)) () (by simp) (by simp) ⟨by simp; exact rfl,by simp⟩ ?_ ?_
 ·rintro i - hi hI
  have h1:=List.getElem?_eq_getElem hi
  have hs1:=findIdx_step (p:=fun b : UInt8=>p b.toNat) hI h1
  have hsz : i < (ByteArray.mk s.toArray).size:=by simpa [ByteArray.size] using hi
  rcases Nat.lt_or_ge s[i].toNat 128 with hb | hb
  ·have hd:=decode_ascii hi hb
   have hc:=hf s[i].toNat (by omega) (by omega)
   simp at hc
   simp [hsz,hd]
   refine hc.s ?_
   cases e : p s[i].toNat
   ·simp
    exact hs1.1 e
   ·rw [hs1.2 e]
    simp
  ·have hd:=decode_high hi hb
   have hc:=hf (Utf8.decode ⟨s.toArray⟩ i).1 (by omega) (by omega)
   have e1:=hp (Utf8.decode ⟨s.toArray⟩ i).1 (by omega)
   have e2:=hp s[i].toNat (by omega)
   simp at hc
   simp [hsz]
   refine hc.s ?_
   rw [e1,hs1.2 e2]
   simp
 ·rintro - hI
  rw [findIdx_none hI]
  have hsz : ¬ s.length < (ByteArray.mk s.toArray).size:=by simp [ByteArray.size]
  simp [hsz]
theorem IndexFuncS_fn (s : List UInt8) (hs : Sh s) (p : Int → Bool) (hp : ∀ r,128 ≤ r → p r = true) (f : FuncId) (first caps : List A)
  (hf : ∀ r,0 ≤ r → r ≤ 1114111 → CallFn Tryz.prog f (first ++ [.dat (.int .i32 r)] ++ caps) (aB (p r))) :
  CallFn Tryz.prog 298 [aT s,.fn f first caps] (aI (idxI (s.findIdx? fun b=>p b.toNat))):=by
 refine callFz_of Tryz.func298 rfl Tryz.ntmps298 (rs:=[.tmp 4]) rfl (by kernel_rfl) (by simp) (by kernel_rfl) ?_
 simp
 refine (indexFuncS_fn s hs p hp f first caps hf).s ?_
 simp
theorem ContainsFuncS_fn (s : List UInt8) (hs : Sh s) (p : Int → Bool) (hp : ∀ r,128 ≤ r → p r = true) (f : FuncId) (first caps : List A)
  (hf : ∀ r,0 ≤ r → r ≤ 1114111 → CallFn Tryz.prog f (first ++ [.dat (.int .i32 r)] ++ caps) (aB (p r))) :
  CallFn Tryz.prog 262 [aT s,.fn f first caps] (aB (s.any fun b=>p b.toNat)):=by
 refine callFz_of Tryz.func262 rfl Tryz.ntmps262 (rs:=[.tmp 4]) rfl (by kernel_rfl) (by simp) (by kernel_rfl) ?_
 simp
 refine (IndexFuncS_fn s hs p hp f first caps hf).s ?_
 simp
 rw [idxI_ge,List.findIdx?_isSome]
def badR (r : Int) : Bool:=decide (122 < r) || !partI r
theorem badR_fn (r : Int) (h0 : 0 ≤ r) (h1 : r ≤ 1114111) : CallFn Tryz.prog 263 [.dat (.int .i32 r)] (aB (badR r)):=by
 refine callFz_of Tryz.func263 rfl Tryz.ntmps263 (rs:=[.tmp 2]) rfl (by kernel_rfl) (by simp) (by kernel_rfl) ?_
 simp [reads]
 refine ⟨by omega,GCall.fn (aB (partI r)) (fun h=>⟨by omega,part_fn r h0 (by omega)⟩) ?_⟩
 simp [reads,badR]
def wordS (s : List UInt8) : Bool:=match s with
 | []=>false
 | b :: _=>decide (97 ≤ b.toNat) && decide (b.toNat ≤ 122) && s.all partB
def nameE (s : List UInt8) (seen : List (List UInt8)) : Int:=if wordS s = false then 3 else if s.length > 24 then 17 else if s ∈ seen then 7 else 0
theorem badR_part (b : UInt8) : badR b.toNat = !partB b:=by
 simp only [badR,partI,partB]
 have:=b.toNat_lt
 rw [Bool.eq_iff_iff]
 simp
 omega
theorem all_bad (s : List UInt8) : (s.any fun b=>badR b.toNat) = !s.all partB:=by
 simp only [badR_part]
 induction s with
 | nil=>rfl
 | cons b s ih=>simp [ih]
def mapOf (names : List (List UInt8)) : List (L × L):=names.zipIdx.map fun p=>(.str p.1,.int .i64 p.2)
theorem mget_of_aux (s : List UInt8) : ∀ (names : List (List UInt8)) (k : Nat),mget ((names.zipIdx k).map fun p=>(L.str p.1,L.int .i64 p.2)) (.str s) = (names.findIdx? (· == s)).map fun i=>.int .i64 (i + k : Nat)
 | [],_=>rfl
 | n :: ns,k=>by
  simp only [List.zipIdx_cons,List.map_cons,mget,leq,List.findIdx?_cons]
  by_cases h : n = s
  ·simp [h]
  ·simp only [beq_iff_eq,h,if_false,mget_of_aux s ns (k + 1)]
   cases ns.findIdx? (· == s) <;> simp
   omega
theorem mget_of (names : List (List UInt8)) (s : List UInt8) : mget (mapOf names) (.str s) = (names.findIdx? (· == s)).map fun i=>.int .i64 i:=by
 have:=mget_of_aux s names 0
 simpa [mapOf] using this
theorem mput_of_aux (s : List UInt8) (v : L) : ∀ (names : List (List UInt8)) (k : Nat),s ∉ names → mput ((names.zipIdx k).map fun p=>(L.str p.1,L.int .i64 p.2)) (.str s) v = (names.zipIdx k).map (fun p=>(L.str p.1,L.int .i64 p.2)) ++ [(.str s,v)]
 | [],_,_=>rfl
 | n :: ns,k,h=>by
  simp only [List.mem_cons,not_or] at h
  simp only [List.zipIdx_cons,List.map_cons,mput,leq,beq_iff_eq,Ne.symm h.1,if_false,mput_of_aux s v ns (k + 1) h.2,List.cons_append]
theorem mput_of {names : List (List UInt8)} {s : List UInt8} (h : s ∉ names) : mput (mapOf names) (.str s) (.int .i64 names.length) = mapOf (names ++ [s]):=by
 have:=mput_of_aux s (.int .i64 names.length) names 0 h
 simp only [mapOf,this,List.zipIdx_append,List.map_append]
 simp
@[simp] theorem mapOf_length (names : List (List UInt8)) : (mapOf names).length = names.length:=by simp [mapOf]
end Go.Proofs.YtpadinblmjlggaaGreatDoor
end

section
namespace Go.Proofs.YtpadinblmjlggaaGreatDoor
set_option maxHeartbeats 8000000
set_option maxRecDepth 10000
abbrev encDr (d : Drv) : List L:=[.int .i64 (d.1 : Nat),.int .i64 (d.2 : Nat)]
abbrev aNs (xs : List Nat) : A:=.dat (.sl (xs.map fun n : Nat=>[.int .i64 (n : Int)]))
structure PlS where
 ps : List Prt
 l : List PipeZ
 ns : List (List PortZ)
 m1 : Nat
 m2 : Nat
 b : Nat
 dr : A
 od : A
 bu : A
 va : A
 oE : List (KeyK × List L)
 lE : List (L × L)
abbrev PlS.cells (s : PlS) : List A:=[.dat (.sl (s.ps.map encPa)),.dat (.sl (s.l.map encPi)),aNets s.ns,.map 171 s.m1,s.dr,s.od,s.bu,s.va,.map 172 s.m2]
abbrev PlS.hp (s : PlS) : Heap:=[(170,.box s.b s.cells),(171,.mapK s.m1 false s.oE),(172,.map s.m2 (.int .i64) s.lE)]
structure PlS.OK (s : PlS) : Prop where
 few : s.ps.length ≤ 64
 kinds : ∀ p ∈ s.ps,0 ≤ p.kind ∧ p.kind < 14
 nets : s.ns.length ≤ 448
 net : ∀ l ∈ s.ns,l.length ≤ 448 ∧ l ≠ [] ∧ ∀ p ∈ l,p ∈ allP s.ps
 of : ∀ p ∈ allP s.ps,kget s.oE p = some [.int .i64 (netW s.ns p : Nat)] ∧ netW s.ns p < s.ns.length
theorem idxM_s (xs : List Int) (p : Int → Bool) (f : FuncId) (first caps : List A) (H : Heap) (hx : Sh xs) (hp : ∀ n ∈ xs,CallS Tryz.prog f (first ++ [aI n] ++ caps) H fun r H'=>r = aB (p n) ∧ H' = H) :
  CallS Tryz.prog 90 [aIs xs,.fn f first caps] H fun r H'=>r = aI (idxI (xs.findIdx? p)) ∧ H' = H:=by
 refine CallS.rt (k:=1000) (CallS.dropP (callS_of Tryz.func90 rfl Tryz.ntmps90 (rs:=[.tmp 4]) rfl (by kernel_rfl) (by simp) (by kernel_rfl) (K:=fun r H'=>r = aI (idxI (xs.findIdx? p)) ∧ subP (rt 1000 H) H') ?_) ?_)
 ·simp
  refine V.for' [0,1,7] (fun i : Nat=>[(8,aI i)]) (fun _=>rt 1000 H) (fun i=>i ≤ xs.length ∧ NoF p (xs.take i)) (fun i=>xs.length - i) 0 ⟨by simp,by simp,subP.refl _⟩ ?_
  rintro i ⟨hi,hI⟩
  by_cases hlt : i < xs.length
  ·have h1:=List.getElem?_eq_getElem hlt
   have hs:=findIdx_step (p:=p) hI h1
   have hc:=(hp xs[i] (List.getElem_mem hlt)).rt' (k:=1000)
   simp at hc
   simp [hlt,h1]
   refine hc.mono ?_
   rintro r H' ⟨H2,rfl,rfl,rfl⟩
   cases e : p xs[i]
   ·simp
    exact ⟨by omega,i + 1,⟨hlt,hs.1 e⟩,by omega,by simp,subP.refl _⟩
   ·rw [hs.2 e]
    simp
    exact subP.refl _
  ·obtain rfl : i = xs.length:=by omega
   rw [findIdx_none hI]
   simp
   exact subP.refl _
 ·rintro r H' ⟨rfl,h⟩
  exact ⟨_,h,_,rfl,rfl,rfl⟩
theorem idxDr_s (xs : List Drv) (p : Drv → Bool) (f : FuncId) (first caps : List A) (H : Heap) (hx : Sh xs) (hp : ∀ n ∈ xs,CallS Tryz.prog f (first ++ [.record (encDr n)] ++ caps) H fun r H'=>r = aB (p n) ∧ H' = H) :
  CallS Tryz.prog 79 [.dat (.sl (xs.map encDr)),.fn f first caps] H fun r H'=>r = aI (idxI (xs.findIdx? p)) ∧ H' = H:=by
 refine CallS.rt (k:=1000) (CallS.dropP (callS_of Tryz.func79 rfl Tryz.ntmps79 (rs:=[.tmp 4]) rfl (by kernel_rfl) (by simp) (by kernel_rfl) (K:=fun r H'=>r = aI (idxI (xs.findIdx? p)) ∧ subP (rt 1000 H) H') ?_) ?_)
 ·simp
  refine V.for' [0,1,7] (fun i : Nat=>[(8,aI i)]) (fun _=>rt 1000 H) (fun i=>i ≤ xs.length ∧ NoF p (xs.take i)) (fun i=>xs.length - i) 0 ⟨by simp,by simp,subP.refl _⟩ ?_
  rintro i ⟨hi,hI⟩
  by_cases hlt : i < xs.length
  ·have h1:=List.getElem?_eq_getElem hlt
   have hs:=findIdx_step (p:=p) hI h1
   have hc:=(hp xs[i] (List.getElem_mem hlt)).rt' (k:=1000)
   simp at hc
   simp [hlt,h1]
   refine hc.mono ?_
   rintro r H' ⟨H2,rfl,rfl,rfl⟩
   cases e : p xs[i]
   ·simp
    exact ⟨by omega,i + 1,⟨hlt,hs.1 e⟩,by omega,by simp,subP.refl _⟩
   ·rw [hs.2 e]
    simp
    exact subP.refl _
  ·obtain rfl : i = xs.length:=by omega
   rw [findIdx_none hI]
   simp
   exact subP.refl _
 ·rintro r H' ⟨rfl,h⟩
  exact ⟨_,h,_,rfl,rfl,rfl⟩
theorem driven1_fn (d : Drv) (i : Nat) : CallFn Tryz.prog 91 [.record (encDr d),.rptr [.int .i64 (i : Int)]] (aB (d.2 == i)):=by
 refine callFz_of Tryz.func91 rfl Tryz.ntmps91 (rs:=[.tmp 3]) rfl (by kernel_rfl) (by simp) (by kernel_rfl) ?_
 simp
 rw [Bool.eq_iff_iff]
 simp only [beq_iff_eq]
 omega
theorem kind_s {s : PlS} (h : s.OK) {i : Nat} (hi : i < s.ps.length) : CallS Tryz.prog 52 [.ptr 170 s.b 0,aI i] s.hp fun r H'=>r = aI (kindOf s.ps i) ∧ H' = s.hp:=by
 obtain ⟨p,hp⟩ : ∃ p,s.ps[i] = p:=⟨_,rfl⟩
 have hpo : s.ps[i]? = some p:=by rw [List.getElem?_eq_getElem hi,hp]
 have hk:=h.kinds p (List.mem_of_getElem? hpo)
 have hko : ((kindOf s.ps i : Nat) : Int) = p.kind:=by
  unfold kindOf
  rw [hpo]
  simp only
  omega
 refine callS_of Tryz.func52 rfl Tryz.ntmps52 (rs:=[.tmp 4]) rfl (by kernel_rfl) (by simp) (by kernel_rfl) ?_
 simp [hi,hp,hpo,hko]
theorem driven_s {s : PlS} (h : s.OK) {d : List Drv} (hd : s.dr = .dat (.sl (d.map encDr))) (hdl : d.length ≤ 1000) (i : Nat) : CallS Tryz.prog 51 [.ptr 170 s.b 0,aI i] s.hp fun r H'=>r = aI (idxI (drivenZ d i)) ∧ H' = s.hp:=by
 have hix:=idxDr_s d (fun q=>q.2 == i) 91 [] [.rptr [.int .i64 (i : Int)]] s.hp (by unfold Sh; omega) fun q hq=>by
  have:=driven1_fn q i
  exact this.s ⟨rfl,rfl⟩
 refine callS_of Tryz.func51 rfl Tryz.ntmps51 (rs:=[.tmp 4]) rfl (by kernel_rfl) (by simp) (by kernel_rfl) ?_
 simp [hd]
 refine hix.mono ?_
 rintro _ _ ⟨rfl,rfl⟩
 simp [drivenZ]
theorem idxPo_fn (xs : List PortZ) (p : PortZ) (hx : Sh xs) : CallFn Tryz.prog 292 [.dat (.sl (xs.map encPo)),.record (encPo p)] (aI (idxI (xs.findIdx? (p == ·)))):=by
 obtain ⟨p1,p2⟩:=p
 refine callFz_of Tryz.func292 rfl Tryz.ntmps292 (rs:=[.tmp 4]) rfl (by kernel_rfl) (by simp) (by kernel_rfl) ?_
 simp
 refine V.forI (σ:=Unit) xs.length [0,3,7] (by simp; exact rfl) (fun i _=>[(8,aI i)]) (fun _ _=>[]) (fun i _=>NoF ((p1,p2) == ·) (xs.take i)) () (by simp) (by simp) ⟨by simp; exact rfl,by simp⟩ ?_ ?_
 ·rintro i - hi hI
  obtain ⟨x,hxe⟩ : ∃ x,xs[i] = x:=⟨_,rfl⟩
  have hxo : xs[i]? = some x:=by rw [List.getElem?_eq_getElem hi,hxe]
  have hs:=findIdx_step (p:=((p1,p2) == ·)) hI hxo
  obtain ⟨x1,x2⟩:=x
  simp [hi,hxe,hxo]
  refine V.drawX (fun _=>none) (by kernel_rfl) (by kernel_rfl) (by simp) ?_
  simp [hi,hxe,hxo]
  by_cases e : p1 = x1 ∧ p2 = x2
  ·obtain ⟨rfl,rfl⟩:=e
   rw [hs.2 (by simp)]
   simp [idxI]
  ·have e2 : ((p1,p2) == (x1,x2)) = false:=by
    simp only [beq_eq_false_iff_ne,ne_eq,Prod.mk.injEq]
    exact e
   refine ⟨fun a b=>absurd ⟨a,b⟩ e,fun _=>⟨by omega,hs.1 e2⟩⟩
 ·rintro - hI
  rw [findIdx_none hI]
  simp [idxI]
theorem contPo_fn (xs : List PortZ) (p : PortZ) (hx : Sh xs) : CallFn Tryz.prog 252 [.dat (.sl (xs.map encPo)),.record (encPo p)] (aB (xs.any (p == ·))):=by
 have h:=idxPo_fn xs p hx
 obtain ⟨p1,p2⟩:=p
 refine callFz_of Tryz.func252 rfl Tryz.ntmps252 (rs:=[.tmp 4]) rfl (by kernel_rfl) (by simp) (by kernel_rfl) ?_
 simp
 refine h.s ?_
 simp
 rw [idxI_ge,List.findIdx?_isSome]
theorem PlS.OK.at {s : PlS} (h : s.OK) {p : PortZ} (hp : p ∈ allP s.ps) : ∃ l,s.ns[netW s.ns p]? = some l ∧ l.length ≤ 448 ∧ l ≠ [] ∧ netW s.ns p < s.ns.length ∧ kget s.oE p = some [.int .i64 (netW s.ns p : Nat)]:=by
 obtain ⟨h1,h2⟩:=h.of p hp
 refine ⟨s.ns[netW s.ns p],List.getElem?_eq_getElem h2,?_,?_,h2,h1⟩
 ·exact (h.net _ (List.getElem_mem h2)).1
 ·exact (h.net _ (List.getElem_mem h2)).2.1
theorem pair_s {s : PlS} (h : s.OK) {a b : Nat} {t : List UInt8} (hp : ((a : Int),t) ∈ allP s.ps) (hb : b ≤ 1000) : CallS Tryz.prog 191 [.ptr 170 s.b 0,aI a,aI b,aT t] s.hp fun r H'=>r = aB (pairZ s.ns a b t) ∧ H' = s.hp:=by
 obtain ⟨l,h1,h2,h3,h4,h5⟩:=h.at hp
 have hok:=okK_port (ps:=s.ps) (by have:=h.few; omega) hp
 have hpz : pairZ s.ns a b t = (decide (l.length = 2) && l.any (((b : Int),t) == ·)):=by
  unfold pairZ
  rw [List.getD_eq_getElem?_getD,h1]
  rfl
 rw [hpz]
 have hc:=contPo_fn l ((b : Int),t) (by unfold Sh; omega)
 obtain ⟨hl,hl1⟩:=List.getElem?_eq_some_iff.1 h1
 generalize netW s.ns ((a : Int),t) = k at *
 refine callS_of Tryz.func191 rfl Tryz.ntmps191 (rs:=[.tmp 8]) rfl (by kernel_rfl) (by simp) (by kernel_rfl) ?_
 simp
 refine V.drawX (fun _=>none) (by kernel_rfl) (by kernel_rfl) (by simp) ?_
 simp [h5,hl,hl1,h1]
 refine ⟨hok,?_⟩
 by_cases e : l.length = 2
 ·simp only [e,decide_true,Bool.true_and]
  refine GCall.fn (aB (l.any (((b : Int),t) == ·))) (fun h=>⟨h,hc⟩) ?_
  simp
 ·simp only [e,decide_false,Bool.false_and]
  refine GCall.fn (aB (l.any (((b : Int),t) == ·))) (fun h=>absurd h (by first | omega | simp [e])) ?_
  simp
  intro h
  omega
end Go.Proofs.YtpadinblmjlggaaGreatDoor
end

section
namespace Go.Proofs.YtpadinblmjlggaaGreatDoor
set_option maxHeartbeats 4000000
variable {P : Program}
def FoldR {ι σ δ : Type} (R : σ → ι → Except δ σ → Prop) : List ι → σ → Except δ σ → Prop
 | [],s,o=>o = .ok s
 | p :: ps,s,o=>∃ o1,R s p o1 ∧ match o1 with
  | .ok s1=>FoldR R ps s1 o
  | .error d=>o = .error d
def IterB (P : Program) (B : Heap) (f : FuncId) (first caps : List A) {ι : Type} (items : List ι) (enc : ι → List A) : Prop:=
 ∀ {σ δ : Type} (l : Nat) (Hc : σ → Heap) (Hd : δ → Heap) (I : List ι → σ → Prop) (R : σ → ι → Except δ σ → Prop) (s : σ),I items s →
  (∀ s p rest,I (p :: rest) s → p ∈ items → CallY P l (enc p) (B ++ Hc s) fun r H'=>∃ o,R s p o ∧ (∀ s',o = .ok s' → I rest s') ∧ yK (fun s=>B ++ Hc s) (fun d=>B ++ Hd d) o r H') →
  CallS P f (first ++ [.yld l] ++ caps) (B ++ Hc s) fun _ H'=>∃ o,FoldR R items s o ∧ match o with
   | .ok s'=>H' = B ++ Hc s'
   | .error e=>H' = B ++ Hd e
theorem V.rangeFoldB {n : Nat} {E : Env} {H : Heap} {Q : PostQ} {g : Operand} {ps : Array Tmp} {asg body : Code} {p : Prop} {f : FuncId} {first caps : List A} {ι σ δ : Type} {items : List ι} {enc : ι → List A} {B : Heap}
  (τ : Nat) (hg : st (ev E g) = (p,.fn f first caps)) (hp : p) (hit : IterB P B f first caps items enc) (Hb : σ → Heap) (Hx : δ → Heap) (jump : δ → Option Nat) (I : List ι → σ → Prop) (R : σ → ι → Except δ σ → Prop) (s0 : σ) (hI0 : I items s0)
  (hH : subP (B ++ Hb s0) H) (hlen : ∀ p ∈ items,(enc p).length = ps.size)
  (hbody : ∀ l s p rest,I (p :: rest) s → p ∈ items → vcC ⟨P,some l,n⟩ asg (bindP ps.toList (enc p) E) (B ++ Hb s) fun e E' H'=>match e with
   | .normal=>vcC ⟨P,some l,n⟩ body E' H' fun e _ H''=>∃ o,R s p o ∧ (∀ s',o = .ok s' → I rest s') ∧ match o with
    | .ok s'=>e = .normal ∧ subP (B ++ Hb s') H''
    | .error d=>e = jX (jump d) ∧ subP (B ++ Hx d) H''
   | _=>False)
  (hend : ∀ o,FoldR R items s0 o → match (generalizing:=false) o with
   | .ok s=>Q .normal E (B ++ Hb s)
   | .error d=>Q (jX (jump d)) E (B ++ Hx d)) : V ⟨P,none,n⟩ (.rangeFunc g ps asg body) E H Q:=by
 intro hf
 have key : V ⟨P,none,n⟩ (.rangeFunc g ps asg body) E (B ++ Hb s0) Q:=by
  refine V.rangeFunc τ hg hp fun l=>?_
  have hc:=hit l (fun s=>(τ,.loop l n .ready none ps asg body E) :: Hb s) (fun d=>(τ,.loop l n .done (some (jC (jump d))) ps asg body E) :: Hx d) I R s0 hI0 ?_
  ·refine (CallS.dropP (hc.perm List.perm_middle) (K':=fun r H'=>∃ o,FoldR R items s0 o ∧ match o with
    | .ok s'=>H' = (τ,.loop l n .ready none ps asg body E) :: (B ++ Hb s')
    | .error d=>H' = (τ,.loop l n .done (some (jC (jump d))) ps asg body E) :: (B ++ Hx d)) ?_).mono ?_
   ·rintro r H' ⟨o,ho,hk⟩
    cases o with
    | ok s=>
     subst hk
     exact ⟨_,⟨_,List.Sublist.refl _,List.perm_middle⟩,_,ho,rfl⟩
    | error d=>
     subst hk
     exact ⟨_,⟨_,List.Sublist.refl _,List.perm_middle⟩,_,ho,rfl⟩
   ·rintro _ H' ⟨o,ho,hk⟩
    have h2:=hend _ ho
    cases o with
    | ok s=>
     subst hk
     exact .inl ⟨_,rfl,h2⟩
    | error d=>
     subst hk
     simp only at h2
     cases hj : jump d with
     | none=>rw [hj] at h2; exact .inr (.inl ⟨_,rfl,h2⟩)
     | some i=>rw [hj] at h2; exact .inr (.inr ⟨_,i,rfl,h2⟩)
  ·intro s q rest hs hq
   have hb:=hbody l s q rest hs hq
   refine CallY.dropP (K:=fun r H''=>∃ o,R s q o ∧ (∀ s',o = .ok s' → I rest s') ∧ match o with
    | .ok s'=>r = .dat (.bool true) ∧ ∃ H3,H'' = (τ,.loop l n .ready none ps asg body E) :: H3 ∧ subP (B ++ Hb s') H3
    | .error d=>r = .dat (.bool false) ∧ ∃ H3,H'' = (τ,.loop l n .done (some (jC (jump d))) ps asg body E) :: H3 ∧ subP (B ++ Hx d) H3) ((callY_of (hlen q hq) hf ?_).perm List.perm_middle.symm) ?_
   ·have hf':=hf
    simp only [fitsC,Bool.and_eq_true] at hf'
    refine vcC_mono asg ?_ hb
    intro e E' H' h
    cases e with
    | normal=>
     refine vcC_mono body ?_ h
     rintro e E'' H'' ⟨o,ho,hoI,h⟩
     cases o with
     | ok s'=>
      obtain ⟨rfl,h⟩:=h
      exact ⟨_,ho,hoI,rfl,_,rfl,h⟩
     | error d=>
      obtain ⟨rfl,h⟩:=h
      cases hj : jump d with
      | none=>exact ⟨_,ho,hoI,rfl,_,by rw [hj]; rfl,h⟩
      | some i=>exact ⟨_,ho,hoI,rfl,_,by rw [hj]; rfl,h⟩
    | ret=>exact h
    | exit i=>exact h
    | goto t=>exact h
    | panic c=>exact h
    | outgrown=>exact h
   ·rintro r H'' ⟨o,ho,hoI,hk⟩
    have hmid : ∀ (e : Nat × Ent) (H1 H3 : Heap),subP (B ++ H1) H3 → subP (B ++ e :: H1) (e :: H3):=fun e H1 H3 h3=>by
     obtain ⟨L,k1,k2⟩:=h3.cc e
     exact ⟨L,k1,k2.trans List.perm_middle.symm⟩
    cases o with
    | ok s'=>
     obtain ⟨rfl,H3,rfl,h3⟩:=hk
     exact ⟨_,hmid _ _ _ h3,_,ho,hoI,rfl,rfl⟩
    | error d=>
     obtain ⟨rfl,H3,rfl,h3⟩:=hk
     exact ⟨_,hmid _ _ _ h3,_,ho,hoI,rfl,rfl⟩
 intro x act H0 ms hi he
 exact key hf x act H0 ms (subP_inv hH hi) he
theorem CallS.frzKeep {P : Program} {g : FuncId} {az : List A} {H : Heap} {K K' : A → Heap → Prop} (h : CallS P g az H K) (hk : ∀ r H',K r H' → ∃ Hf Hk : Heap,(Hf ++ Hk).Perm H' ∧ (Go.Proofs.YtpadinblmjlggaaGreatDoor.frz Hf r).1 ∧ K' (Go.Proofs.YtpadinblmjlggaaGreatDoor.frz Hf r).2 Hk) : CallS P g az H K':=by
 refine ⟨h.1,fun x args H0 hi hd=>(h.2 x args H0 hi hd).mono ?_⟩
 rintro _ _ ⟨y,v,r,H',rfl,rfl,hle,hi',hv,hkk⟩
 obtain ⟨Hf,Hk,hp,h1,h2⟩:=hk r H' hkk
 have hi2 : Inv y (Hf ++ (Hk ++ H0)):=by
  rw [← List.append_assoc]
  exact hi'.perm (hp.append_right H0)
 obtain ⟨z,hw,hle2,hi3,hok,_⟩:=hi2.freeze
 exact ⟨z,v,_,Hk,rfl,hw,hle.trans hle2,hi3,frz_ok hi2 hle2 hw hok r v hv h1,h2⟩
theorem CallS.frzTop {P : Program} {g : FuncId} {az : List A} {H Hk : Heap} {τ : Nat} {e : TypeId} {sz : Nat} {rows : List (List A)} {xs : List (List L)} (hd : allD rows = true) (hx : rowsD rows = xs)
  (h : CallS P g az H fun r H'=>∃ hd,r = .own τ hd ∧ subP ((τ,.seq hd e sz rows) :: Hk) H') : CallS P g az H fun r H'=>r = .dat (.sl xs) ∧ H' = Hk:=by
 have h2:=h.dropP (K':=fun r H'=>∃ hd,r = .own τ hd ∧ H' = (τ,.seq hd e sz rows) :: Hk) (fun r H' ⟨a,b,c⟩=>⟨_,c,a,b,rfl⟩)
 refine h2.frzKeep ?_
 rintro r H' ⟨a,rfl,rfl⟩
 refine ⟨[(τ,.seq a e sz rows)],Hk,List.Perm.refl _,?_,?_,rfl⟩
 ·simp [Go.Proofs.YtpadinblmjlggaaGreatDoor.frz,hget,hd]
 ·simp [Go.Proofs.YtpadinblmjlggaaGreatDoor.frz,hget,hx]
theorem CallY.rtB {P : Program} {k l : Nat} {az : List A} {B : Heap} {σ δ : Type} {Hc : σ → Heap} {Hd : δ → Heap} {s : σ} {W : Except δ σ → Prop} (h : CallY P l az (B ++ Hc s) fun r H'=>∃ o,W o ∧ yK (fun s=>B ++ Hc s) (fun d=>B ++ Hd d) o r H') :
  CallY P l az (B ++ Go.Proofs.YtpadinblmjlggaaGreatDoor.rt k (Hc s)) fun r H'=>∃ o,W o ∧ yK (fun s=>B ++ Go.Proofs.YtpadinblmjlggaaGreatDoor.rt k (Hc s)) (fun d=>B ++ Go.Proofs.YtpadinblmjlggaaGreatDoor.rt k (Hd d)) o r H':=by
 intro x args H0 hi hd
 obtain ⟨f,t,a,b,h1,h2⟩:=h x args H0 (hi.ents (by simp [rt_snd])) hd
 refine ⟨f,t,a,b,h1,h2.mono ?_⟩
 rintro _ _ ⟨y,v,r,H',a,b,c,d,e,o,w,g⟩
 cases o with
 | ok s'=>
  obtain ⟨g1,g2⟩:=g
  exact ⟨y,v,r,B ++ Go.Proofs.YtpadinblmjlggaaGreatDoor.rt k (Hc s'),a,b,c,d.ents (by rw [g2]; simp [rt_snd]),e,_,w,g1,rfl⟩
 | error e'=>
  obtain ⟨g1,g2⟩:=g
  exact ⟨y,v,r,B ++ Go.Proofs.YtpadinblmjlggaaGreatDoor.rt k (Hd e'),a,b,c,d.ents (by rw [g2]; simp [rt_snd]),e,_,w,g1,rfl⟩
theorem IterB.rt {P : Program} {B : Heap} {f : FuncId} {first caps : List A} {ι : Type} {items : List ι} {enc : ι → List A} (k : Nat)
  (h : ∀ {σ δ : Type} (l : Nat) (Hc : σ → Heap) (Hd : δ → Heap) (I : List ι → σ → Prop) (R : σ → ι → Except δ σ → Prop) (s : σ),I items s →
   (∀ s p rest,I (p :: rest) s → p ∈ items → CallY P l (enc p) (B ++ Go.Proofs.YtpadinblmjlggaaGreatDoor.rt k (Hc s)) fun r H'=>∃ o,(R s p o ∧ ∀ s',o = .ok s' → I rest s') ∧ yK (fun s=>B ++ Go.Proofs.YtpadinblmjlggaaGreatDoor.rt k (Hc s)) (fun d=>B ++ Go.Proofs.YtpadinblmjlggaaGreatDoor.rt k (Hd d)) o r H') →
   CallS P f (first ++ [.yld l] ++ caps) (B ++ Go.Proofs.YtpadinblmjlggaaGreatDoor.rt k (Hc s)) fun _ H'=>∃ o,FoldR R items s o ∧ match o with
    | .ok s'=>subP (B ++ Go.Proofs.YtpadinblmjlggaaGreatDoor.rt k (Hc s')) H'
    | .error e=>subP (B ++ Go.Proofs.YtpadinblmjlggaaGreatDoor.rt k (Hd e)) H') : IterB P B f first caps items enc:=by
 intro σ δ l Hc Hd I R s hI hy
 have h1:=h l Hc Hd I R s hI fun s p rest hs hp=>by
  have h2:=hy s p rest hs hp
  refine CallY.rtB (W:=fun o=>R s p o ∧ ∀ s',o = .ok s' → I rest s') (h2.mono ?_)
  rintro r H' ⟨o,a,b,c⟩
  exact ⟨o,⟨a,b⟩,c⟩
 refine ⟨h1.1,fun x args H0 hi hd=>(h1.2 x args H0 (hi.ents (by simp [rt_snd])) hd).mono ?_⟩
 rintro _ _ ⟨y,v,r,H',a,b,c,d,e,o,ho,g⟩
 cases o with
 | ok s'=>exact ⟨y,v,r,B ++ Hc s',a,b,c,(subP_inv g d).ents (by simp [rt_snd]),e,_,ho,rfl⟩
 | error e'=>exact ⟨y,v,r,B ++ Hd e',a,b,c,(subP_inv g d).ents (by simp [rt_snd]),e,_,ho,rfl⟩
theorem FoldR.fn {ι σ δ : Type} (step : σ → ι → Except δ σ) : ∀ (l : List ι) (s : σ) (o : Except δ σ),FoldR (fun s p o=>o = step s p) l s o → o = l.foldlM step s
 | [],s,o,h=>h
 | p :: l,s,o,h=>by
  obtain ⟨o1,rfl,h2⟩:=h
  rw [List.foldlM_cons]
  cases hs : step s p with
  | ok s1=>
   rw [hs] at h2
   exact FoldR.fn step l s1 o h2
  | error d=>
   rw [hs] at h2
   exact h2
theorem CallS.mid {P : Program} {g : FuncId} {az : List A} {H : Heap} {ρ : A} (h : CallS P g az H fun r H'=>r = ρ ∧ H' = H) (B D : Heap) : CallS P g az (B ++ (H ++ D)) fun r H'=>r = ρ ∧ H' = B ++ (H ++ D):=by
 refine (h.frame (H1:=D)).frameL.mono ?_
 rintro r H' ⟨_,⟨_,⟨rfl,rfl⟩,rfl⟩,rfl⟩
 exact ⟨rfl,rfl⟩
theorem D_nild {x : X} : ∀ v,D x .nils v → D x (.dat (.sl [])) v:=fun v hv=>by
 simp only [D] at hv
 subst hv
 simp [D,RdL]
theorem wpAny_fw {P : Program} {r : Option Nat} {ops : Array Oper} {Q : Exit → Act → World → Prop} (hnd : (ops.toList.all fun o=>!isDefer o.op) = true) (hp : ∀ c a w,¬ Q (.panic c) a w) (ho : ∀ a w,¬ Q .outgrown a w) :
  ∀ (fuel : Nat) (listed : Array Bool) (a : Act) (w : World),wpAny P .any ops Q fuel listed a w → wpAnyIn (fw r) 0 P .any ops Q fuel listed a w:=by
 intro fuel
 induction fuel with
 | zero=>intro listed a w h; exact h
 | succ fuel ih=>
  intro listed a w h
  refine ⟨h.1,fun i hi=>?_⟩
  have h2:=h.2 i hi
  unfold wpOp at h2
  unfold wpOpIn
  cases hoi : ops[i]? with
  | none=>
   rw [hoi] at h2
   exact ih _ _ _ h2
  | some o=>
   rw [hoi] at h2
   simp only at h2 ⊢
   by_cases hw : Region.wanted o (yielded ops a.tmps) = true
   ·rw [if_pos hw] at h2 ⊢
    have hmem : o ∈ ops.toList:=by
     obtain ⟨hl,he⟩:=Array.getElem?_eq_some_iff.1 hoi
     rw [← he]
     simp
    have hdf : isDefer o.op = false:=by simpa using List.all_eq_true.1 hnd o hmem
    have hwp : o.wp P a w (wpAny P .any ops Q fuel (listed.setIfInBounds i true)) Q:=by
     rcases h2 with h2 | ⟨_,a',w',h2⟩
     ·exact h2
     ·exact absurd h2 (ho _ _)
    unfold Oper.wp at hwp
    refine ⟨fun _ _=>trivial,?_⟩
    rw [semAt_exec _ _ hdf]
    generalize (execOp a.eval o).run P w = res at hwp ⊢
    cases res with
    | ok nx w'=>
     cases nx <;> simp only [Oper.upon,Oper.uponIn] at hwp ⊢
     ·exact ih _ _ _ hwp
     ·exact ih _ _ _ hwp
     ·refine ⟨fun hh=>by simp [fw] at hh,?_⟩
      refine CallsIn.mono (calls_fw hwp ?_) ?_
      ·intro e w' he
       cases e with
       | returned v=>exact ⟨v,rfl⟩
       | panicked c=>exact absurd he (hp _ _ _)
       | outgrown=>obtain ⟨a',w'',h3⟩:=he; exact absurd h3 (ho _ _)
      ·intro e w' he
       cases e with
       | returned v=>exact ih _ _ _ he
       | panicked c=>exact he
       | outgrown=>exact he
     ·exact ih _ _ _ hwp
     ·refine ⟨fun hh=>by simp [fw] at hh,?_⟩
      intro c cs _
      obtain ⟨v,w',h3,h4⟩:=hwp c cs
      exact ⟨v,w',ih _ _ _ h3,(StepsIn.of_steps h4).mono fun m _=>fenced_wide P m⟩
    | halt x w'=>cases x <;> simp only [Oper.upon,Oper.uponIn] at hwp ⊢ <;> exact hwp
   ·rw [if_neg hw] at h2 ⊢
    exact ⟨fun _ _=>trivial,ih _ _ _ h2⟩
theorem V.drawR {r : Option Nat} {n : Nat} {id : Nat} {ops : Array Oper} {E : Env} {H : Heap} {Q : PostQ} (ρ : Nat → Option CR) (hnd : (ops.toList.all fun o=>!isDefer o.op) = true) (hm : P.follows .mixedOrders = true) (hd : depB ops.toList = true) (hn : (H.map (·.1)).Nodup)
  (h : vcD P ρ ops.toList 0 [] ops.toList E H fun E' H'=>Q .normal E' H') : V ⟨P,r,n⟩ (.region id ops true) E H Q:=by
 intro hf x act H00 ms hi he
 generalize hH0 : marks ms ++ H00 = H0 at hi
 generalize hds : ms.map mk = ds at he
 have hlex:=fun ν=>vcD_lex (P:=P) (E0:=E) (G0:=fun t=>hget t H) (ν:=ν) ops.toList 0 [] E H (by simp) h rfl hn (fun k o hk=>by omega)
 have L : LexOK P ρ ops.toList E (fun t=>hget t H):=⟨hd,fun ν i o ho=>(hlex ν).1 i o (Nat.zero_le _) ho,
  fun ν i j oi oj t hij hoi hoj hc=>(hlex ν).2.1 i j oi oj t (Nat.zero_le _) hij hoi hoj hc⟩
 refine wpIn_mono (Q:=Post n H00 (fun e E H=>match e with
  | .normal=>Q .normal E H
  | _=>False) x) (wpIn_region_any hm (wpAny_fw hnd (by rintro c a w ⟨_,_,_,_,_,_,_,_,hq⟩; exact hq) (by rintro a w ⟨_,_,_,_,_,_,_,_,hq⟩; exact hq) _ _ _ _ ?_)) (by
  rintro e a w ⟨x',E',H',ms',h1,h2,h3,h4,hq⟩
  cases e with
  | normal=>exact ⟨x',E',H',ms',h1,h2,h3,h4,hq⟩
  | _=>exact hq.elim)
 have hi' : Inv x.drew (H ++ H0):=hi.grow (X.drew_grow x)
 have he' : EnvOK n ds x.drew act E:=he.mono (X.drew_grow x).le
 have hsz : ∀ k,(Array.replicate ops.size false).getD k false = false:=by
  intro k
  rw [Array.getD_eq_getD_getElem?]
  by_cases hk : k < ops.size
  ·simp [Array.getElem?_replicate,hk]
  ·simp [Array.getElem?_replicate,hk]
 have hfun : (fun k=>(Array.replicate ops.size false).getD k false) = fun _=>false:=funext hsz
 have hee : ∀ (r : Nat → Option (Prop × A × Option (Nat × Ent))) m,eeS ops.toList E r (fun _=>false) m = E:=by
  intro r m
  induction m with
  | zero=>rfl
  | succ m ih=>simp [eeS,ih]
 have hgg : ∀ (r : Nat → Option (Prop × A × Option (Nat × Ent))) m,ggS ops.toList (fun t=>hget t H) r (fun _=>false) m = fun t=>hget t H:=by
  intro r m
  induction m with
  | zero=>rfl
  | succ m ih=>simp [ggS,ih]
 have key:=region_any (H0:=H0) (x0:=x) (n:=n) (ds:=ds) (Q:=Post n H00 (fun e E H=>match e with
  | .normal=>Q .normal E H
  | _=>False) x) L (fitsOps_ok hf) (by
   intro ν y a Hc hle hy hey hg
   obtain ⟨Hn,q1,q2,q3⟩:=(hlex ν).2.2
   have hsub : ∀ t e,hget t Hn = some e → hget t Hc = some e:=fun t e ht=>by rw [hg t,q2]; exact ht
   exact ⟨y,_,Hn,ms,rfl,hle,by rw [hH0]; exact subH_inv (subH_of q3 hsub) hy,by rw [hds]; exact hey,q1⟩)
  ops.size (Array.replicate ops.size false) (fun _=>(.nilIface,0)) x.drew act H (List.range ops.size) (by simp) List.nodup_range (by intro k; rw [hsz k]; simp) (by simp) (by
   rw [hfun]; intro j i hj; cases hj) (X.drew_grow x).le hi' (by rw [hfun,hee]; exact he') (by intro t; rw [hfun,hgg])
 have key2 : wpAny P .any ops (Post n H00 (fun e E H=>match e with
  | .normal=>Q .normal E H
  | _=>False) x) ops.size (Array.replicate ops.size false) act x.drew.w:=by simpa using key
 exact key2
theorem V.drawXR {r : Option Nat} {n : Nat} {id : Nat} {ops : Array Oper} {E : Env} {H : Heap} {Q : PostQ} (ρ : Nat → Option CR) (hnd : (ops.toList.all fun o=>!isDefer o.op) = true) (hm : P.follows .mixedOrders = true) (hd : depB ops.toList = true) (hn : (H.map (·.1)).Nodup)
  (h : vcX P ρ ops.toList 0 [] [] ops.toList E H fun E' H'=>Q .normal E' H') : V ⟨P,r,n⟩ (.region id ops true) E H Q:=
 V.drawR ρ hnd hm hd hn ((vcX_D _ _ _ _ _ _ h).2 [] (by simp))
theorem CallS.frzCell {P : Program} {g : FuncId} {az : List A} {H : Heap} {K K' : A → Heap → Prop} (h : CallS P g az H K)
  (hk : ∀ r H',K r H' → ∃ (q τ b j t : Nat) (hd : Value) (e sz : Nat) (rows : List (List A)) (cs : List A),hget q (hdel τ H') = some (.box b cs) ∧ hget τ H' = some (.seq hd e sz rows) ∧ allD rows = true ∧ cs[j]? = some (.own t hd) ∧
   K' r (hset q (.box b (cs.set j (.dat (.sl (rowsD rows))))) (hdel τ H'))) : CallS P g az H K':=by
 refine ⟨h.1,fun x args H0 hi hd=>(h.2 x args H0 hi hd).mono ?_⟩
 rintro _ _ ⟨y,v,r,H',rfl,rfl,hle,hi',hv,hkk⟩
 obtain ⟨q,τ,b,j,t,hd,e,sz,rows,cs,h1,h2,h3,h4,h5⟩:=hk r H' hkk
 obtain ⟨z,hw,hle2,hi2,hrd⟩:=freeze1 h2 h3 hi'
 have hi3:=hi2.swap (e':=.box b (cs.set j (.dat (.sl (rowsD rows))))) h1 (fun ⟨c,ty,k1,k2⟩=>⟨c,ty,k1,Ds_set (fun v hv=>by simp only [D] at hv ⊢; rw [hv.1]; exact hrd) h4 k2⟩) (fun b hb=>hb)
 exact ⟨z,v,r,_,rfl,hw,hle.trans hle2,hi3,hv.mono hle2,h5⟩
theorem V.rest {f : Func} {k : Nat} {c : Code} {C : Cfg} {E : Env} {H : Heap} {Q : PostQ} (h : restF f k = some c) (hv : V C c E H Q) : V C (restC f k) E H Q:=by
 unfold restC
 rw [h]
 exact hv
theorem V.of_rest {f : Func} {k : Nat} {c : Code} {C : Cfg} {E : Env} {H : Heap} {Q : PostQ} (h : restF f k = some c) (hv : V C (restC f k) E H Q) : V C c E H Q:=by
 unfold restC at hv
 rw [h] at hv
 exact hv
end Go.Proofs.YtpadinblmjlggaaGreatDoor
end
