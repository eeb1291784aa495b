/- Texts joined by a program: Kz,Lo,Qa,Sdl,Qb,Qc. -/
import Derived.Shelf.Slices.Delete
import Derived.Test.YtpadinblmjlggaaGreatDoorProg
import Derived.KernelRfl
import Derived.Test.YtpadinblmjlggaaGreatDoorP18
import Derived.Test.YtpadinblmjlggaaGreatDoorP11
import Derived.Test.YtpadinblmjlggaaGreatDoorP15
import Derived.Test.YtpadinblmjlggaaGreatDoorP13
set_option linter.unusedSimpArgs false
set_option linter.unusedVariables false

section
namespace Go.Proofs.YtpadinblmjlggaaGreatDoor
set_option maxHeartbeats 8000000
set_option maxRecDepth 10000
theorem CallY.args {P : Program} {l : Nat} {az az' : List A} {H : Heap} {K : A → Heap → Prop} (ha : ∀ x vs,Ds x az vs → Ds x az' vs) (h : CallY P l az' H K) : CallY P l az H K:=
 fun x args H0 hi hd=>h x args H0 hi (ha x _ hd)
theorem GCall.sure {P : Program} {q p : Prop} {g : FuncId} {az : List A} {H : Heap} {K : A → Heap → Prop} (h : p ∧ CallS P g az H K) (hq : q) : GCall P q p g az H K:=.inr ⟨fun _=>h,fun hn=>absurd hq hn⟩
theorem GCall.never {P : Program} {q p : Prop} {g : FuncId} {az : List A} {H : Heap} {K : A → Heap → Prop} (hq : ¬ q) (r : A) (h : K r H) : GCall P q p g az H K:=.inr ⟨fun h=>absurd h hq,fun _=>⟨r,h⟩⟩
abbrev rN (n : Nat) : List A:=[.dat (.int .i64 (n : Int))]
abbrev encN (n : Nat) : List L:=[.int .i64 (n : Int)]
theorem rowsD_n (xs : List Nat) : rowsD (xs.map rN) = xs.map encN:=by unfold rowsD; rw [List.map_map]; rfl
theorem allD_n (xs : List Nat) : allD (xs.map rN) = true:=by simp [allD,isD]
attribute [simp] rowsD_n allD_n
theorem port_of {ps : List Prt} {i : Nat} {t : List UInt8} (hi : i < ps.length) (ht : t ∈ portsK (kindOf ps i)) : ((i : Int),t) ∈ allP ps:=by
 unfold allP
 rw [mem_allN]
 refine ⟨i,ps[i],hi,List.getElem?_eq_getElem hi,rfl,?_⟩
 unfold kindOf at ht
 rw [List.getElem?_eq_getElem hi] at ht
 exact ht
theorem kindOf_lt {ps : List Prt} {i : Nat} (h : kindOf ps i ≠ 0) : i < ps.length:=by
 rcases Nat.lt_or_ge i ps.length with hi | hi
 ·exact hi
 ·unfold kindOf at h
  rw [List.getElem?_eq_none hi] at h
  exact absurd rfl h
theorem indices_fn (n : Nat) (hn : n ≤ 1000) : CallFn Tryz.prog 189 [aI n] (aNs (List.range n)):=by
 refine callFz_of Tryz.func189 rfl Tryz.ntmps189 (rs:=[.tmp 2]) rfl (by kernel_rfl) (by simp) (by kernel_rfl) ?_
 simp
 refine V.forI (σ:=Value) n [2,5] (by simp; exact rfl) (fun i g=>[(3,.own 50 g),(6,aI i)]) (fun i g=>[(50,.seq g 3 1 ((List.range i).map rN))]) (fun _ _=>True) (.slice none 0 0) trivial (by simp) ⟨by simp; exact rfl,by simp⟩ ?_ ?_
 ·rintro i g hi -
  simp [hi,List.range_succ]
  omega
 ·rintro g -
  simp
theorem valve1_s {s : PlS} (h : s.OK) {i v b2 : Nat} (hi : kindOf s.ps i = 1) (hv : v < s.ps.length) :
  CallS Tryz.prog 190 [aI v,.ptr 2 b2 0,.rptr [.int .i64 (i : Int)]] ((2,.box b2 [.ptr 170 s.b 0]) :: s.hp) fun r H'=>r = aB (drvB s.ps s.ns i v) ∧ H' = (2,.box b2 [.ptr 170 s.b 0]) :: s.hp:=by
 have hk:=kind_s h hv
 have hil:=kindOf_lt (ps:=s.ps) (i:=i) (by omega)
 have h2:=pair_s h (a:=i) (b:=v) (t:=[50]) (port_of hil (by rw [hi]; decide)) (by have:=h.few; omega)
 have h4:=pair_s h (a:=i) (b:=v) (t:=[52]) (port_of hil (by rw [hi]; decide)) (by have:=h.few; omega)
 unfold drvB
 generalize kindOf s.ps v = k at *
 refine callS_of Tryz.func190 rfl Tryz.ntmps190 (rs:=[.tmp 4]) rfl (by kernel_rfl) (by simp) (by kernel_rfl) ?_
 simp
 refine hk.c1.mono ?_
 rintro r H' ⟨_,⟨rfl,rfl⟩,rfl⟩
 simp
 by_cases hk2 : (k : Int) = 2 ∨ (k : Int) = 3
 ·have e : (k == 2 || k == 3) = true:=by simp; omega
  rw [e]
  refine GCall.sure ⟨hk2,h2.c1.mono ?_⟩ hk2
  rintro r H' ⟨_,⟨rfl,rfl⟩,rfl⟩
  simp [hk2]
  cases e2 : pairZ s.ns i v [50]
  ·refine GCall.never (by simp) (aB false) ?_
   simp [hk2]
  ·refine GCall.sure ⟨by simp [hk2],h4.c1.mono ?_⟩ (by simp [hk2])
   rintro r H' ⟨_,⟨rfl,rfl⟩,rfl⟩
   simp [hk2]
 ·have e : (k == 2 || k == 3) = false:=by simp; omega
  rw [e]
  refine GCall.never hk2 (aB false) ?_
  simp [hk2]
  refine GCall.never (by simp [hk2]) (aB false) ?_
  simp [hk2]
theorem valve_s {s : PlS} (h : s.OK) {i : Nat} (hi : kindOf s.ps i = 1) : CallS Tryz.prog 129 [.ptr 170 s.b 0,aI i] s.hp fun r H'=>r = aI (idxI (valveZ s.ps s.ns i)) ∧ H' = s.hp:=by
 have hf:=h.few
 have hin:=indices_fn s.ps.length (by omega)
 refine CallS.dropP (callS_of Tryz.func129 rfl Tryz.ntmps129 (rs:=[.tmp 4]) rfl (by kernel_rfl) (by simp) (by kernel_rfl) (K:=fun r H'=>r = aI (idxI (valveZ s.ps s.ns i)) ∧ subP s.hp H') ?_) (fun _ _ ⟨h1,h2⟩=>⟨_,h2,h1,rfl⟩)
 simp
 intro b2
 refine hin.s ?_
 simp
 have hx:=idxM_s ((List.range s.ps.length).map fun n : Nat=>(n : Int)) (fun n=>drvB s.ps s.ns i n.toNat) 190 [] [.ptr 2 b2 0,.rptr [.int .i64 (i : Int)]] ((2,.box b2 [.ptr 170 s.b 0]) :: s.hp) (by unfold Sh; simp; omega) (fun n hn=>by
  obtain ⟨v,hv,rfl⟩:=List.mem_map.1 hn
  exact valve1_s h hi (List.mem_range.1 hv))
 rw [List.findIdx?_map] at hx
 have e : ((fun n : Int=>drvB s.ps s.ns i n.toNat) ∘ fun n : Nat=>(n : Int)) = drvB s.ps s.ns i:=by funext n; simp
 rw [e] at hx
 have e2 : aIs ((List.range s.ps.length).map fun n : Nat=>(n : Int)) = aNs (List.range s.ps.length):=by
  unfold aIs aNs
  rw [List.map_map]
  rfl
 rw [e2] at hx
 refine hx.mono ?_
 rintro r H' ⟨rfl,rfl⟩
 simp
 exact ⟨rfl,(subP.refl _).c _⟩
theorem counts_s {s : PlS} (h : s.OK) {i : Nat} (hi : i < s.ns.length) : CallS Tryz.prog 202 [.ptr 170 s.b 0,aI i] s.hp fun r H'=>r = aB (countsI s.ps s.ns i) ∧ H' = s.hp:=by
 obtain ⟨l,hl⟩ : ∃ l,s.ns[i] = l:=⟨_,rfl⟩
 have hlo : s.ns[i]? = some l:=by rw [List.getElem?_eq_getElem hi,hl]
 obtain ⟨h1,h2,h3⟩:=h.net l (List.mem_of_getElem? hlo)
 obtain ⟨q,l2,rfl⟩:=List.exists_cons_of_ne_nil h2
 obtain ⟨q1,q2⟩:=q
 obtain ⟨j,p,hj,hp,hq1,hq2⟩:=mem_allN.1 (h3 (q1,q2) (by simp))
 simp only at hq1
 subst hq1
 have hk:=kind_s h hj
 have hkl : kindOf s.ps j < 14:=by
  unfold kindOf
  rw [hp]
  have:=h.kinds p (List.mem_of_getElem? hp)
  simp only
  omega
 have hr:=Role_k (kindOf s.ps j) hkl q2
 have hc : countsI s.ps s.ns i = (decide (1 < ((↑j,q2) :: l2 : List PortZ).length) || roleK (kindOf s.ps j) q2 == some 3):=by
  unfold countsI countsZ
  rw [List.getD_eq_getElem?_getD,hlo]
  simp
 rw [hc]
 generalize kindOf s.ps j = k at *
 refine callS_of Tryz.func202 rfl Tryz.ntmps202 (rs:=[.tmp 4]) rfl (by kernel_rfl) (by simp) (by kernel_rfl) ?_
 simp [hi,hl,hlo]
 refine V.drawX (fun t=>if t = 21 then some (.ro (aI k)) else if t = 26 then some (.fn (.tuple [aI ((roleK k q2).getD 0 : Nat),aI (if (roleK k q2).isSome = true then 0 else 6)])) else none) (by kernel_rfl) (by kernel_rfl) (by simp) ?_
 simp [hi,hl,hlo]
 refine ⟨hk,hr,?_,?_⟩
 ·intro h1
  exact ⟨h1,fun h2=>⟨h1,h2⟩⟩
 ·rw [show decide (1 < (l2.length : Int) + 1) = decide (0 < l2.length) from by rw [decide_eq_decide]; omega]
  congr 1
  cases roleK k q2 with
  | none=>rfl
  | some n=>
   simp
   rw [Bool.eq_iff_iff]
   simp
   omega
abbrev encGf (g : Gift) : List L:=[.int .i64 (g.part : Int),.int .i64 (g.pos : Int),.str g.pass.to,.sl (g.pass.src.map encT),.bool g.pass.all]
theorem kindOf_at {ps : List Prt} {j : Nat} {p : Prt} (hp : ps[j]? = some p) : kindOf ps j = p.kind.toNat:=by unfold kindOf; rw [hp]
theorem PlS.OK.klt {s : PlS} (h : s.OK) (i : Nat) : kindOf s.ps i < 14:=by
 unfold kindOf
 cases hp : s.ps[i]? with
 | none=>simp
 | some p=>
  have:=h.kinds p (List.mem_of_getElem? hp)
  simp only
  omega
abbrev rGf (g : Gift) : List A:=(encGf g).map A.dat
theorem rowsD_Gf (xs : List Gift) : rowsD (xs.map rGf) = xs.map encGf:=by unfold rowsD; rw [List.map_map]; rfl
theorem allD_Gf (xs : List Gift) : allD (xs.map rGf) = true:=by simp [allD,isD]
attribute [simp] rowsD_Gf allD_Gf
theorem passK_len (k n : Nat) : (passK k n).length ≤ 1:=by
 unfold passK
 repeat' split
 all_goals simp
theorem gvN_len (k j : Nat) (t : List UInt8) (i : Nat) : ((List.range i).flatMap fun pos=>((passK k pos).filter fun y=>y.to == t).map fun y=>(⟨j,pos,y⟩ : Gift)).length ≤ i:=by
 induction i with
 | zero=>simp
 | succ i ih=>
  rw [List.range_succ,List.flatMap_append,List.length_append]
  have h1:=List.length_filter_le (fun y : PassP=>y.to == t) (passK k i)
  have h2:=passK_len k i
  simp only [List.flatMap_cons,List.flatMap_nil,List.append_nil,List.length_map]
  omega
theorem given_s {s : PlS} (h : s.OK) {j : Nat} {t : List UInt8} (hj : j < s.ps.length) : CallS Tryz.prog 258 [.ptr 170 s.b 0,.record (encPo ((j : Int),t))] s.hp fun r H'=>r = .dat (.sl ((givenZ s.ps ((j : Int),t)).map encGf)) ∧ H' = s.hp:=by
 have hk:=kind_s h hj
 have hkl:=h.klt j
 have hpo:=Positions_k (kindOf s.ps j) hkl
 have hpa:=fun n hn=>Passes_k (kindOf s.ps j) hkl n hn
 unfold givenZ
 simp only [Int.toNat_natCast]
 generalize kindOf s.ps j = k at *
 refine CallS.frzTop (τ:=50) (e:=275) (sz:=5) (rows:=((List.range (manyK k)).flatMap fun pos=>((passK k pos).filter fun y=>y.to == t).map fun y=>(⟨j,pos,y⟩ : Gift)).map rGf) (allD_Gf _) (rowsD_Gf _) (callS_of Tryz.func258 rfl Tryz.ntmps258 (rs:=[.tmp 4]) rfl (by kernel_rfl) (by simp) (by kernel_rfl) ?_)
 ·simp
  refine hk.mono ?_
  rintro r H' ⟨rfl,rfl⟩
  simp
  refine hpo.s ?_
  simp
  refine V.forI (σ:=Value) (manyK k) [0,3,4,21] (by simp; exact rfl) (fun i g=>[(5,.own 50 g),(22,aI i)]) (fun i g=>(50,.seq g 275 5 (((List.range i).flatMap fun pos=>((passK k pos).filter fun y=>y.to == t).map fun y=>(⟨j,pos,y⟩ : Gift)).map rGf)) :: s.hp) (fun _ _=>True) (.slice none 0 0) trivial (by simp) ⟨by simp; exact rfl,by simp⟩ ?_ ?_
  ·rintro i g hi -
   have hp2:=hpa i hi
   have hm2 : manyK k ≤ 2:=by unfold manyK; split <;> omega
   simp [hi]
   refine hk.c1.mono ?_
   rintro r H' ⟨_,⟨rfl,rfl⟩,rfl⟩
   simp
   refine hp2.s ?_
   simp
   have hW:=gvN_len k j t i
   have hF:=passK_len k i
   rw [List.range_succ,List.flatMap_append]
   generalize ((List.range i).flatMap fun pos=>((passK k pos).filter fun y=>y.to == t).map fun y=>(⟨j,pos,y⟩ : Gift)) = W at hW ⊢
   generalize hFe : passK k i = F at hp2 hF ⊢
   refine V.forI (σ:=Value) F.length [0,3,4,8,21,22,34,35] (by simp; exact rfl) (fun n g=>[(5,.own 50 g),(36,aI n)]) (fun n g=>(50,.seq g 275 5 ((W ++ ((F.take n).filter fun y=>y.to == t).map fun y=>(⟨j,i,y⟩ : Gift)).map rGf)) :: s.hp) (fun _ _=>True) g trivial (by simp) ⟨by simp; exact rfl,by simp⟩ ?_ ?_
   ·rintro n g2 hn -
    obtain ⟨x,hx⟩ : ∃ x,F[n] = x:=⟨_,rfl⟩
    have hxo : F[n]? = some x:=by rw [List.getElem?_eq_getElem hn,hx]
    rw [List.take_add_one,hxo]
    have hle:=List.length_filter_le (fun y : PassP=>y.to == t) (F.take n)
    rw [List.length_take] at hle
    simp [hn,hx,hxo]
    refine ⟨fun e=>⟨by omega,by omega,?_⟩,fun e=>⟨by omega,e⟩⟩
    simp [e]
   ·rintro g2 -
    simp
    refine ⟨by omega,?_⟩
    rw [hFe]
  ·rintro g -
   simp
   exact subP.refl _
theorem gifts_s {s : PlS} (i : Nat) : CallS Tryz.prog 207 [.ptr 170 s.b 0,aI i] s.hp fun r H'=>∃ bg,r = .fn 257 [] [.ptr 175 bg 0,.rptr [.int .i64 (i : Int)]] ∧ H' = (175,.box bg [.ptr 170 s.b 0]) :: s.hp:=by
 refine CallS.res (K:=fun r H'=>∃ bg,r = .fn 257 [] [.ptr 2 bg 0,.rptr [.int .i64 (i : Int)]] ∧ H' = (2,.box bg [.ptr 170 s.b 0]) :: s.hp) (callS_of Tryz.func207 rfl Tryz.ntmps207 (rs:=[.tmp 4]) rfl (by kernel_rfl) (by simp) (by kernel_rfl) ?_) ?_
 ·simp
 ·rintro r H' ⟨bg,rfl,rfl⟩
  refine ⟨_,_,fun x H0 h=>?_,fun x v hv=>?_,bg,rfl,rfl⟩
  ·exact Inv.ents (by simp) h
  ·exact D_fn Ds_i (Ds_c D_tag Ds_i) _ hv
abbrev gfB (s : PlS) (bg : Nat) : Heap:=(175,.box bg [.ptr 170 s.b 0]) :: s.hp
abbrev encGs (ps : List Prt) (d : List Drv) (x : PortZ) : List A:=[.record (encPo x),.dat (.sl ((giftsZ ps d x).map encGf))]
theorem gifts_iter {s : PlS} (h : s.OK) {d : List Drv} (hd : s.dr = .dat (.sl (d.map encDr))) (hdl : d.length ≤ 1000) {i : Nat} {l : List PortZ} (hl : s.ns[i]? = some l) (bg : Nat) :
  IterB Tryz.prog (gfB s bg) 257 [] [.ptr 175 bg 0,.rptr [.int .i64 (i : Int)]] l (encGs s.ps d):=by
 refine IterB.rt 1000 ?_
 intro σ δ lp Hc Hd I R st0 hI0 hy
 obtain ⟨hil,hi1⟩:=List.getElem?_eq_some_iff.1 hl
 obtain ⟨n1,n2,n3⟩:=h.net l (List.mem_of_getElem? hl)
 refine callS_of Tryz.func257 rfl Tryz.ntmps257 (rs:=[]) rfl (by kernel_rfl) (by simp) (by kernel_rfl) ?_
 simp
 refine V.frame (H1:=gfB s bg) ?_
 refine V.drawX (fun _=>none) (by kernel_rfl) (by kernel_rfl) (by simp) ?_
 simp [hil,hi1,hl]
 refine V.for' [0,1,13,14] (fun p : Nat × σ=>[(15,aI p.1)]) (fun p=>gfB s bg ++ rt 1000 (Hc p.2))
  (fun p=>p.1 ≤ l.length ∧ I (l.drop p.1) p.2 ∧ ∀ o,FoldR R (l.drop p.1) p.2 o → FoldR R l st0 o) (fun p=>l.length - p.1) (0,st0) ⟨⟨by simp,hI0,fun o ho=>ho⟩,by simp,subP.refl _⟩ ?_
 rintro ⟨n,st⟩ ⟨hn,hIst,hinv⟩
 simp only at hn hIst hinv
 by_cases hlt : n < l.length
 ·obtain ⟨y,hy1⟩ : ∃ y,l[n] = y:=⟨_,rfl⟩
  have hyo : l[n]? = some y:=by rw [List.getElem?_eq_getElem hlt,hy1]
  have hym:=List.mem_of_getElem? hyo
  rw [List.drop_eq_getElem_cons hlt,hy1] at hinv hIst
  obtain ⟨y1,y2⟩:=y
  obtain ⟨j,p,hj,hp,hq1,hq2⟩:=mem_allN.1 (n3 _ hym)
  simp only at hq1
  subst hq1
  simp [hlt,hy1,hyo]
  intro b5
  have hdv:=driven_s h hd hdl j
  have hgv:=given_s h (t:=y2) hj
  have hyy:=hy st ((j : Int),y2) _ hIst hym
  have hgi : giftsZ s.ps d ((j : Int),y2) = if (drivenZ d j).isSome = true then [] else givenZ s.ps ((j : Int),y2):=rfl
  have hy2:=hyy.c1 (e:=(5,.box b5 [aI j,aT y2]))
  simp [encGs,hgi] at hy2
  refine (hdv.mid [(5,_),(175,_)] (rt 1000 (Hc st))).mono ?_
  rintro r H' ⟨rfl,rfl⟩
  have hfin : ∀ r H',(∃ H2,(∃ o,(R st ((j : Int),y2) o ∧ ∀ s',o = .ok s' → I (l.drop (n + 1)) s') ∧ yK (fun s'=>gfB s bg ++ rt 1000 (Hc s')) (fun e=>gfB s bg ++ rt 1000 (Hd e)) o r H2) ∧ H' = (5,.box b5 [aI j,aT y2]) :: H2) →
    (∃ st',I (l.drop (n + 1)) st' ∧ r = aB true ∧ H' = (5,.box b5 [aI j,aT y2]) :: (gfB s bg ++ rt 1000 (Hc st')) ∧ ∀ o,FoldR R (l.drop (n + 1)) st' o → FoldR R l st0 o) ∨
    ∃ e,FoldR R l st0 (.error e) ∧ r = aB false ∧ H' = (5,.box b5 [aI j,aT y2]) :: (gfB s bg ++ rt 1000 (Hd e)):=by
   rintro r H' ⟨H2,⟨o,⟨h1,h2⟩,hk⟩,rfl⟩
   cases o with
   | ok st'=>
    obtain ⟨rfl,rfl⟩:=hk
    exact .inl ⟨st',h2 _ rfl,rfl,rfl,fun o ho=>hinv o ⟨_,h1,ho⟩⟩
   | error e=>
    obtain ⟨rfl,rfl⟩:=hk
    exact .inr ⟨e,hinv _ ⟨_,h1,rfl⟩,rfl,rfl⟩
  simp
  cases hv : drivenZ d j with
  | some v=>
   rw [hv] at hy2
   simp at hy2 ⊢
   refine ⟨fun h=>absurd h (by omega),?_⟩
   refine CallY.args (az':=[A.record (encPo ((j : Int),y2)),A.dat (L.sl [])]) (fun x vs=>Ds_c D_i (Ds_c D_nild Ds_i) vs) ?_
   refine hy2.mono fun r H' hk=>?_
   rcases hfin r H' hk with ⟨st',e1,rfl,rfl,e2⟩ | ⟨e,e1,rfl,rfl⟩
   ·simp
    refine ⟨by omega,n + 1,st',⟨by omega,e1,e2⟩,by omega,by simp,?_⟩
    exact (subP.refl _).c _
   ·simp
    exact ⟨.error e,e1,(subP.refl _).c _⟩
  | none=>
   rw [hv] at hy2
   simp [idxI] at hy2 ⊢
   refine (hgv.mid [(5,_),(175,_)] (rt 1000 (Hc st))).mono ?_
   rintro r H' ⟨rfl,rfl⟩
   simp
   refine hy2.mono fun r H' hk=>?_
   rcases hfin r H' hk with ⟨st',e1,rfl,rfl,e2⟩ | ⟨e,e1,rfl,rfl⟩
   ·simp
    refine ⟨by omega,n + 1,st',⟨by omega,e1,e2⟩,by omega,by simp,?_⟩
    exact (subP.refl _).c _
   ·simp
    exact ⟨.error e,e1,(subP.refl _).c _⟩
 ·obtain rfl : n = l.length:=by omega
  rw [List.drop_length] at hinv
  simp
  exact ⟨.ok st,hinv _ rfl,subP.refl _⟩
end Go.Proofs.YtpadinblmjlggaaGreatDoor
end

section
namespace Go.Proofs.YtpadinblmjlggaaGreatDoor
set_option maxHeartbeats 4000000
set_option maxRecDepth 10000
theorem idxI_fn (xs : List Int) (v : Int) (hx : Sh xs) : CallFn Tryz.prog 70 [aIs xs,aI v] (aI (idxI (xs.findIdx? (v == ·)))):=by
 refine callFz_of Tryz.func70 rfl Tryz.ntmps70 (rs:=[.tmp 4]) rfl (by kernel_rfl) (by simp) (by kernel_rfl) ?_
 simp
 refine V.forI (σ:=Unit) xs.length [0,1,7] (by simp; exact rfl) (fun i _=>[(8,aI i)]) (fun _ _=>[]) (fun i _=>NoF (v == ·) (xs.take i)) () (by simp) (by simp) ⟨by simp; exact rfl,by simp⟩ ?_ ?_
 ·rintro i - hi hI
  have h1:=List.getElem?_eq_getElem hi
  have hs:=findIdx_step (p:=(v == ·)) hI h1
  simp [hi,h1]
  cases e : (v == xs[i])
  ·simp at e
   simp [e]
   exact ⟨by omega,hs.1 (by simp [e])⟩
  ·have e2:=hs.2 e
   simp at e
   rw [e2]
   simp [e]
 ·rintro - hI
  rw [findIdx_none hI]
  simp
theorem containsI_fn (xs : List Int) (v : Int) (hx : Sh xs) : CallFn Tryz.prog 37 [aIs xs,aI v] (aB (decide (v ∈ xs))):=by
 refine callFz_of Tryz.func37 rfl Tryz.ntmps37 (rs:=[.tmp 4]) rfl (by kernel_rfl) (by simp) (by kernel_rfl) ?_
 simp
 refine (idxI_fn xs v hx).s ?_
 simp
 rw [← decide_eq_true_iff (p:=0 ≤ _),idxI_ge,List.findIdx?_isSome]
 simp
end Go.Proofs.YtpadinblmjlggaaGreatDoor
end

section
namespace Go.Proofs.YtpadinblmjlggaaGreatDoor
set_option maxHeartbeats 8000000
set_option maxRecDepth 10000
theorem passK_src {k : Nat} (hk : k < 14) {n : Nat} (hn : n < 2) {y : PassP} (hy : y ∈ passK k n) {t : List UInt8} (ht : t ∈ y.src) : t ∈ portsK k:=by
 have key : ((List.range 14).all fun k=>(List.range 2).all fun n=>(passK k n).all fun y=>y.src.all fun t=>(portsK k).any (t == ·)) = true:=by decide
 have h1:=List.all_eq_true.1 (List.all_eq_true.1 (List.all_eq_true.1 (List.all_eq_true.1 key k (List.mem_range.2 hk)) n (List.mem_range.2 hn)) y hy) t ht
 obtain ⟨u,hu,e⟩:=List.any_eq_true.1 h1
 rw [eq_of_beq e]
 exact hu
theorem passK_srcl (k n : Nat) : ∀ y ∈ passK k n,y.src.length ≤ 2:=by
 intro y hy
 unfold passK at hy
 repeat' split at hy
 all_goals (simp at hy; try (subst hy; simp))
theorem manyK_le (k : Nat) : manyK k ≤ 2:=by unfold manyK; split <;> omega
theorem given_mem {ps : List Prt} {x : PortZ} {g : Gift} (h : g ∈ givenZ ps x) : g.part = x.1.toNat ∧ g.pos < manyK (kindOf ps x.1.toNat) ∧ g.pass ∈ passK (kindOf ps x.1.toNat) g.pos:=by
 unfold givenZ at h
 obtain ⟨n,hn,h2⟩:=List.mem_flatMap.1 h
 obtain ⟨y,hy,rfl⟩:=List.mem_map.1 h2
 exact ⟨rfl,List.mem_range.1 hn,(List.mem_filter.1 hy).1⟩
theorem gifts_mem {ps : List Prt} {d : List Drv} {x : PortZ} {g : Gift} (h : g ∈ giftsZ ps d x) : g ∈ givenZ ps x:=by
 unfold giftsZ at h
 split at h
 ·simp at h
 ·exact h
theorem gift_port {s : PlS} (h : s.OK) {d : List Drv} {x : PortZ} (hx : x ∈ allP s.ps) {g : Gift} (hg : g ∈ giftsZ s.ps d x) {t : List UInt8} (ht : t ∈ g.pass.src) : ((g.part : Int),t) ∈ allP s.ps:=by
 obtain ⟨h1,h2,h3⟩:=given_mem (gifts_mem hg)
 obtain ⟨i,p,hi,hp,hx1,_⟩:=mem_allN.1 hx
 have e : x.1.toNat = i:=by omega
 rw [e] at h1 h2 h3
 rw [h1]
 exact port_of hi (passK_src (h.klt i) (Nat.lt_of_lt_of_le h2 (manyK_le _)) h3 ht)
abbrev ordE (go : Value) (order : List Nat) : Nat × Ent:=(173,.seq go 3 1 (order.map rN))
theorem any_nat (l : List Nat) (n : Nat) : decide ((n : Int) ∈ l.map fun k : Nat=>(k : Int)) = l.any (n == ·):=by
 rw [Bool.eq_iff_iff]
 simp only [decide_eq_true_eq,List.mem_map,List.any_eq_true,beq_iff_eq]
 constructor
 ·rintro ⟨a,h1,h2⟩; exact ⟨a,h1,by omega⟩
 ·rintro ⟨a,h1,h2⟩; exact ⟨a,h1,by omega⟩
theorem containsN_fn (xs : List Nat) (n : Nat) (hx : Sh xs) : CallFn Tryz.prog 37 [aNs xs,aI n] (aB (xs.any (n == ·))):=by
 have h:=containsI_fn (xs.map fun k : Nat=>(k : Int)) n (by unfold Sh at hx ⊢; simpa using hx)
 rw [any_nat] at h
 have e2 : aIs (xs.map fun k : Nat=>(k : Int)) = aNs xs:=by
  unfold aIs aNs
  rw [List.map_map]
  rfl
 rw [e2] at h
 exact h
def okT (s : PlS) (d : List Drv) (order : List Nat) (G : Gift) : Bool:=G.pass.src.all fun t=>!takesZ s.ps s.ns order G t
theorem fold_all {α : Type} (p : α → Bool) : ∀ l : List α,(l.foldlM (fun (_ : Unit) x=>if p x = true then (Except.ok () : Except Unit Unit) else .error ()) ()) = if l.all p = true then .ok () else .error ()
 | []=>rfl
 | x :: l=>by
  rw [List.foldlM_cons,List.all_cons]
  cases h : p x
  ·rfl
  ·simp only [Bool.true_and]
   exact fold_all p l
theorem ready_s {s : PlS} (h : s.OK) {d : List Drv} (hd : s.dr = .dat (.sl (d.map encDr))) (hdl : d.length ≤ 1000) {order : List Nat} {go : Value} (ho : s.od = .own 173 go) (hol : order.length ≤ 1000) {i : Nat} (hi : i < s.ns.length) :
  CallS Tryz.prog 203 [.ptr 170 s.b 0,aI i] (s.hp ++ [ordE go order]) fun r H'=>r = aB (readyZ s.ps d s.ns order i) ∧ H' = s.hp ++ [ordE go order]:=by
 have hl : s.ns[i]? = some s.ns[i]:=List.getElem?_eq_getElem hi
 have hr : readyZ s.ps d s.ns order i = s.ns[i].all fun x=>(giftsZ s.ps d x).all (okT s d order):=by
  unfold readyZ okT
  rw [List.getD_eq_getElem?_getD,hl]
  rfl
 have hnet:=h.net _ (List.mem_of_getElem? hl)
 rw [hr]
 generalize s.ns[i] = l at hl hnet ⊢
 refine CallS.dropP (callS_of Tryz.func203 rfl Tryz.ntmps203 (rs:=[.cell 4 4]) rfl (by kernel_rfl) (by simp) (by kernel_rfl) (K:=fun r H'=>r = aB (l.all fun x=>(giftsZ s.ps d x).all (okT s d order)) ∧ subP (s.hp ++ [ordE go order]) H') ?_) (fun _ _ ⟨h1,h2⟩=>⟨_,h2,h1,rfl⟩)
 simp
 intro b2 b4
 have hg:=(gifts_s (s:=s) i).frame (H1:=[ordE go order]) |>.frameL (H1:=[(4,.box b4 [aB false]),(2,.box b2 [.ptr 170 s.b 0])])
 refine hg.mono ?_
 rintro r H' ⟨_,⟨_,⟨bg,rfl,rfl⟩,rfl⟩,rfl⟩
 simp
 refine V.rangeFoldB (σ:=Unit) (δ:=Unit) (items:=l) (enc:=encGs s.ps d) (B:=gfB s bg) 100 (by simp) trivial (gifts_iter h hd hdl hl bg)
  (fun _=>[(4,.box b4 [aB false]),(2,.box b2 [.ptr 170 s.b 0]),ordE go order]) (fun _=>[(4,.box b4 [aB false]),(2,.box b2 [.ptr 170 s.b 0]),ordE go order])
  (fun _=>none) (fun _ _=>True) (fun _ x o=>o = if (giftsZ s.ps d x).all (okT s d order) = true then .ok () else .error ()) () trivial (by
   refine ⟨_,List.Sublist.refl _,?_⟩
   exact List.Perm.append_right [ordE go order] (List.perm_append_comm (l₁:=[(4,.box b4 [aB false]),(2,.box b2 [.ptr 170 s.b 0])]) (l₂:=gfB s bg))) (by simp [encGs]) ?_ ?_
 ·rintro lp ⟨⟩ x _ - hx
  have hxa:=hnet.2.2 x hx
  have hgp:=fun G hG t ht=>gift_port h (d:=d) hxa (g:=G) hG (t:=t) ht
  have hgs:=fun G hG=>passK_srcl _ _ _ (given_mem (gifts_mem (ps:=s.ps) (d:=d) (g:=G) (x:=x) hG)).2.2
  have hgl : (giftsZ s.ps d x).length ≤ 2:=by
   unfold giftsZ
   split
   ·simp
   ·exact Nat.le_trans (gvN_len _ _ _ _) (manyK_le _)
  simp [encGs]
  generalize giftsZ s.ps d x = GS at *
  refine V.forI (σ:=Unit) GS.length [2,4,17,18] (by simp; exact rfl) (fun n _=>[(19,aI n)]) (fun _ _=>gfB s bg ++ [(4,.box b4 [aB false]),(2,.box b2 [.ptr 170 s.b 0]),ordE go order]) (fun n _=>(GS.take n).all (okT s d order) = true) () (by simp) (by simp) ⟨by simp; exact rfl,by simp⟩ ?_ ?_
  ·rintro n ⟨⟩ hn hI
   obtain ⟨G,hG⟩ : ∃ G,GS[n] = G:=⟨_,rfl⟩
   have hGo : GS[n]? = some G:=by rw [List.getElem?_eq_getElem hn,hG]
   have hGm:=List.mem_of_getElem? hGo
   have hp:=hgp G hGm
   have hsl:=hgs G hGm
   rw [List.take_add_one,hGo]
   simp [hn,hG,hGo]
   intro b8
   refine V.forI (σ:=Unit) G.pass.src.length [2,4,8,17,18,19,25,26] (by simp; exact rfl) (fun m _=>[(27,aI m)]) (fun _ _=>(8,.box b8 ((encGf G).map A.dat)) :: (gfB s bg ++ [(4,.box b4 [aB false]),(2,.box b2 [.ptr 170 s.b 0]),ordE go order])) (fun m _=>((G.pass.src.take m).all fun t=>!takesZ s.ps s.ns order G t) = true) () (by simp) (by simp) ⟨by simp; exact rfl,by simp⟩ ?_ ?_
   ·rintro m ⟨⟩ hm hJ
    obtain ⟨t,ht⟩ : ∃ t,G.pass.src[m] = t:=⟨_,rfl⟩
    have hto : G.pass.src[m]? = some t:=by rw [List.getElem?_eq_getElem hm,ht]
    have htm:=List.mem_of_getElem? hto
    have hpa:=hp t htm
    obtain ⟨w1,w2⟩:=h.of _ hpa
    have hok:=okK_port (ps:=s.ps) (by have:=h.few; omega) hpa
    have hcs:=counts_s h w2
    have hcn:=containsN_fn order (netW s.ns ((G.part : Int),t)) (by unfold Sh; omega)
    have htk : takesZ s.ps s.ns order G t = (countsI s.ps s.ns (netW s.ns ((G.part : Int),t)) && !(order.any (netW s.ns ((G.part : Int),t) == ·))):=rfl
    rw [List.take_add_one,hto]
    simp [hm,ht,hto]
    refine V.drawXR (fun _=>none) (by kernel_rfl) (by kernel_rfl) (by kernel_rfl) (by simp) ?_
    simp [hm,ht,hto,w1]
    refine ⟨hok,(hcs.mid [(8,_),(175,_)] [(4,_),(2,_),ordE go order]).mono ?_⟩
    rintro r H' ⟨rfl,rfl⟩
    simp [ho]
    generalize netW s.ns ((G.part : Int),t) = k at *
    cases hc : countsI s.ps s.ns k
    ·refine GCall.never (by simp) (aB false) ?_
     rw [hc] at htk
     simp [htk]
     simp at hJ
     exact ⟨by omega,hJ⟩
    ·refine GCall.sure ⟨by simp,hcn.lend (by simp [frzs,frz,ordE]) rfl ?_⟩ (by simp)
     rw [hc] at htk
     simp [htk]
     refine ⟨fun hno=>?_,fun hkx=>⟨by omega,by simpa using hJ,hkx⟩⟩
     have hbad : takesZ s.ps s.ns order G t = true:=by
      rw [htk]
      simp
      exact hno
     rw [if_neg (fun hall=>by
      have:=hall G hGm
      unfold okT at this
      have:=List.all_eq_true.1 this t htm
      rw [hbad] at this
      cases this)]
     refine ⟨rfl,?_⟩
     exact (subP.refl _).c _
   ·rintro ⟨⟩ hJ
    simp at hJ hI
    simp
    refine ⟨by omega,hI,?_⟩
    unfold okT
    simpa using hJ
  ·rintro ⟨⟩ hI
   simp at hI ⊢
   rw [if_pos hI]
   simp
   exact subP.refl _
 ·intro o hof
  have hof:=FoldR.fn (fun (_ : Unit) x=>if (giftsZ s.ps d x).all (okT s d order) = true then (Except.ok () : Except Unit Unit) else .error ()) _ _ _ hof
  rw [fold_all] at hof
  cases hall : l.all fun x=>(giftsZ s.ps d x).all (okT s d order)
  ·rw [hall] at hof
   subst hof
   simp [jX]
   exact ((((((subP.refl _).c _).c _).cc _).cc _).cc _).c _
  ·rw [hall] at hof
   subst hof
   simp
   exact ((((((subP.refl _).c _).c _).cc _).cc _).cc _).c _
end Go.Proofs.YtpadinblmjlggaaGreatDoor
end

section
namespace Go.Proofs.YtpadinblmjlggaaGreatDoor
set_option maxRecDepth 100000
set_option maxHeartbeats 4000000
def deRen : Go.Shelf.Ren:=⟨fun | 23=>204 | n=>n,fun | 0=>0 | 3=>3 | 4=>4 | 22=>26 | n=>n,fun n=>n⟩
theorem deLays : Go.Proofs.Lays2.n23 Tryz.prog deRen:={ 
 mixed:=by kernel_rfl,
 f23:=by kernel_rfl,
 t0:=Tryz.underlying0,
 a0:=Tryz.isAgg0,
 z0:=Tryz.sizeOf0,
 v0:=Tryz.zeroValue0,
 t3:=Tryz.underlying3,
 a3:=Tryz.isAgg3,
 z3:=Tryz.sizeOf3,
 v3:=Tryz.zeroValue3,
 t4:=Tryz.underlying4,
 a4:=Tryz.isAgg4,
 z4:=Tryz.sizeOf4,
 v4:=Tryz.zeroValue4,
 t22:=Tryz.underlying26,
 a22:=Tryz.isAgg26,
 z22:=Tryz.sizeOf26,
 v22:=Tryz.zeroValue26,
 i3:=by kernel_rfl }
end Go.Proofs.YtpadinblmjlggaaGreatDoor
end

section
namespace Go.Proofs.YtpadinblmjlggaaGreatDoor
open Go.Sort Go.Lib
set_option maxHeartbeats 8000000
set_option maxRecDepth 10000
theorem Ds_three {x : X} {t : Nat} {h : Value} {i j : Int} {args : Array Value} (hd : Ds x [.own t h,aI i,aI j] args.toList) : args = #[h,.int .i64 i,.int .i64 j]:=by
 rcases args with ⟨l⟩
 rcases l with _ | ⟨a,_ | ⟨b,_ | ⟨c,_ | ⟨d,l⟩⟩⟩⟩ <;> simp [Ds,D,RdL] at hd
 obtain ⟨h1,h2,h3⟩:=hd
 rw [h1.1,h2,h3]
theorem deleteI_s {e t : Nat} {h : Value} {zs : List Int} {i j : Nat} (hij : i ≤ j) (hj : j ≤ zs.length) (h0 : 0 < zs.length) :
  CallS Tryz.prog 204 [.own t h,aI i,aI j] [(t,.seq h e 1 (zs.map rI))] fun r H'=>∃ h2,r = .own t h2 ∧ H' = [(t,.seq h2 e 1 ((zs.take i ++ zs.drop j).map rI))]:=by
 refine ⟨⟨_,Tryz.func204,by kernel_rfl,by kernel_rfl⟩,fun x args H0 hi hd=>?_⟩
 obtain rfl:=Ds_three hd
 have hs:=hi.sat _ (List.mem_cons_self)
 rcases ints_own hs with ⟨rfl,rfl⟩ | ⟨g,cap,cur,rfl,h5,h6,h7,h8,h9⟩
 ·simp at h0
 ·refine (Any.slices_Delete_int deLays g 0 cap i j zs x.w (ints_holds h5 h9) h6 (Nat.le_trans h7 (by decide)) hij hj).mono ?_
  rintro _ _ ⟨rfl,q,rfl⟩
  have hl : (zs.take i ++ zs.drop j).length = zs.length - (j - i):=by simp; omega
  obtain ⟨y,k1,k2,k3⟩:=seq_putRow hi (q:=q) (zs.take i ++ zs.drop j ++ List.replicate (j - i) 0) (by simp; omega) (zs.take i ++ zs.drop j).length (by simp) #[]
  rw [List.take_left,hl] at k3
  exact ⟨y,_,.own t (.slice (some ⟨g,0,none⟩) (zs.length - (j - i)) cap),_,rfl,by rw [k1,grow_empty],k2,k3,by simp [D],_,rfl,rfl⟩
theorem clear_row {w : World} {g k : Nat} {zs : List Int} (hH : Holds (Value.int .i64) w g 0 zs.toArray) (hk : k ≤ zs.length) :
  w.setCells g (0 + k) (List.replicate (zs.length - k) (.int .i64 0)) = putRow (Value.int .i64) (Sort.ahead w 0) g 0 (zs.take k ++ List.replicate (zs.length - k) 0).toArray:=by
 have h1:=putRow_setCells (Value.int .i64) (Sort.ahead w 0) g 0 (List.replicate (zs.length - k) (0 : Int)) zs.toArray k (by simp; omega)
 rw [List.map_replicate,show putRow (Value.int .i64) (Sort.ahead w 0) g 0 zs.toArray = w from putRow_self _ w g 0 _ hH] at h1
 rw [h1]
 congr 1
 apply Array.ext_getElem?
 intro t
 rw [lay_get? _ _ _ _ (by simp; omega)]
 simp only [List.length_replicate,List.getElem?_toArray,List.getElem?_append,List.length_take,List.getElem?_take,List.getElem?_replicate]
 by_cases a : k ≤ t ∧ t < k + (zs.length - k)
 ·have hm : min k zs.length = k:=by omega
  rw [if_pos a,hm,if_neg (by omega : ¬ t < k)]
 ·rw [if_neg a]
  by_cases b : t < min k zs.length
  ·rw [if_pos b,if_pos (by omega)]
  ·rw [if_neg b,if_neg (by omega)]
   exact List.getElem?_eq_none (by omega)
theorem step_val {r : Option Nat} {P : Program} {ops : Array Oper} {Q : Exit → Act → World → Prop} {o : Oper} {rest : List Oper} {act : Act} {w w' : World} {v : Value} (hg : o.guard = none) (hdf : isDefer o.op = false)
  (hrun : (execOp act.eval o).run P w = .ok (.value v) w') (hn : wpListIn (fw r) 0 P ops Q rest (act.put o.dst v) w') : wpListIn (fw r) 0 P ops Q (o :: rest) act w:=by
 simp only [wpListIn]
 rw [if_pos (by simp [Region.wanted,hg])]
 refine ⟨fun _ _=>trivial,?_⟩
 rw [semAt_exec _ _ hdf,hrun]
 exact hn
theorem V.clearTail {r : Option Nat} {n id : Nat} {o1 o2 o3 o4 : Oper} {s i a b c : Nat} {E : Env} {H : Heap} {Q : PostQ} {τ : Nat} {h : Value} {e : TypeId} {zs : List Int} {k : Nat}
  (q1 : o1.op = .move (.tmp s)) (d1 : o1.dst = some a) (g1 : o1.guard = none) (q2 : o2.op = .move (.tmp i)) (d2 : o2.dst = some b) (g2 : o2.guard = none)
  (q3 : o3.op = .slice 26 (.tmp a) (some (.tmp b)) none none) (d3 : o3.dst = some c) (g3 : o3.guard = none)
  (q4 : o4.op = .call { callee:=.builtin .clear,args:=#[.tmp c],argTypes:=#[26] }) (d4 : o4.dst = none) (g4 : o4.guard = none)
  (hab : a ≠ b) (his : i ≠ a)
  (hs : E s = .own τ h) (hi : E i = aI k) (hH : hget τ H = some (.seq h e 1 (zs.map rI))) (hk : k < zs.length)
  (hq : Q .normal (put (put (put E (some a) (.own τ h)) (some b) (aI k)) (some c) .any) (hset τ (.seq h e 1 ((zs.take k ++ List.replicate (zs.length - k) 0).map rI)) H)) : V ⟨Tryz.prog,r,n⟩ (.region id #[o1,o2,o3,o4] false) E H Q:=by
 intro hf x act H0 ms hI he
 have hfo:=fitsOps_ok (n:=n) (ops:=[o1,o2,o3,o4]) (by simpa [fitsC] using hf)
 have f1:=hfo o1 (by simp)
 have f2:=hfo o2 (by simp)
 have f3:=hfo o3 (by simp)
 rw [d1] at f1
 rw [d2] at f2
 rw [d3] at f3
 have hI1:=hI.perm (hdel_perm (hget_app (H0:=marks ms ++ H0) hH)).symm
 have v0 : D x (.own τ h) (act.eval (.tmp s)):=by
  have:=ev_ok he (.tmp s)
  simp only [ev] at this
  rwa [hs] at this
 have v1 : D x (aI k) (act.eval (.tmp i)):=by
  have:=ev_ok he (.tmp i)
  simp only [ev] at this
  rwa [hi] at this
 have e0 : act.eval (.tmp s) = h:=by simp only [D] at v0; exact v0.1
 have e1 : act.eval (.tmp i) = .int .i64 k:=by simpa [D,RdL] using v1
 rcases ints_own (hI1.sat (τ,.seq h e 1 (zs.map rI)) (by simp)) with ⟨rfl,rfl⟩ | ⟨g,cap,cur,rfl,h5,h6,h7,h8,h9⟩
 ·simp at hk
 ·have hHo:=ints_holds h5 h9
  obtain ⟨y,k1,k2,k3⟩:=seq_putRow hI1 (q:=0) (zs.take k ++ List.replicate (zs.length - k) 0) (by simp; omega) zs.length (by simp; omega) #[]
  rw [List.take_of_length_le (by simp; omega)] at k3
  have hcw:=clear_row hHo (Nat.le_of_lt hk)
  have r1 : (execOp act.eval o1).run Tryz.prog x.w = .ok (.value (.slice (some ⟨g,0,none⟩) zs.length cap)) x.w:=by
   obtain ⟨dst,op,type,pos,after,guard⟩:=o1
   simp only at q1
   subst q1
   simp [execOp,e0]
  let a1:=act.put (some a) (.slice (some ⟨g,0,none⟩) zs.length cap)
  have he1 : EnvOK n (ms.map mk) x a1 (put E (some a) (.own τ (.slice (some ⟨g,0,none⟩) zs.length cap))):=by
   have:=he.put f1 (a:=.own τ (.slice (some ⟨g,0,none⟩) zs.length cap)) (v:=.slice (some ⟨g,0,none⟩) zs.length cap) (by simp [D])
   exact this
  have e2 : a1.eval (.tmp i) = .int .i64 k:=by
   have:=ev_ok he1 (.tmp i)
   simp only [ev,put,upd] at this
   rw [if_neg his,hi] at this
   simpa [D,RdL] using this
  have r2 : (execOp a1.eval o2).run Tryz.prog x.w = .ok (.value (.int .i64 k)) x.w:=by
   obtain ⟨dst,op,type,pos,after,guard⟩:=o2
   simp only at q2
   subst q2
   simp [execOp,e2]
  let a2:=a1.put (some b) (.int .i64 k)
  have he2 : EnvOK n (ms.map mk) x a2 (put (put E (some a) (.own τ (.slice (some ⟨g,0,none⟩) zs.length cap))) (some b) (aI k)):=by
   have:=he1.put f2 (a:=aI k) (v:=.int .i64 k) (by simp [D,RdL])
   exact this
  have e3 : a2.eval (.tmp a) = .slice (some ⟨g,0,none⟩) zs.length cap:=by
   have:=ev_ok he2 (.tmp a)
   simp only [ev,put,upd] at this
   rw [if_neg hab,if_pos trivial] at this
   simp only [D] at this
   exact this.1
  have e4 : a2.eval (.tmp b) = .int .i64 k:=by
   have:=ev_ok he2 (.tmp b)
   simp only [ev,put,upd] at this
   rw [if_pos trivial] at this
   simpa [D,RdL] using this
  have r3 : (execOp a2.eval o3).run Tryz.prog x.w = .ok (.value (.slice (some ⟨g,0 + k,none⟩) (zs.length - k) (cap - k))) x.w:=by
   obtain ⟨dst,op,type,pos,after,guard⟩:=o3
   simp only at q3
   subst q3
   show (execOp a2.eval { dst,op:=.slice 26 (.tmp a) (some (.tmp b)) none none,type,pos,after,guard }).run Tryz.prog x.w = _
   have hsl : slT Tryz.prog 26 = some 3:=by kernel_rfl
   have hrun : (Instr.sliceAt 26 (a2.eval (.tmp a)) (some (a2.eval (.tmp b))) none none).run Tryz.prog x.w = .ok (.slice (some ⟨g,0 + k,none⟩) (zs.length - k) (cap - k)) x.w:=by
    rw [e3,e4]
    simp only [Instr.sliceAt,Instr.slice,Sem.run_bind,run_underlying (slT_und hsl),Result.andThen_ok]
    rw [run_sliceBounds x.w (.inr ⟨_,rfl⟩) (.inl ⟨rfl,rfl⟩) (Nat.le_of_lt hk) h6]
    simp only [Result.andThen_ok,Sem.run_pure]
    rw [run_sizeOf' (show tk Tryz.prog 3 ≠ 0 by decide)]
    have hz : szT Tryz.prog 3 = 1:=by kernel_rfl
    rw [hz]
    simp only [Result.andThen_ok]
    rw [if_neg (by omega)]
    simp [Addr.add]
    exact fun h=>h.symm
   simp [execOp,hrun]
  let a3:=a2.put (some c) (.slice (some ⟨g,0 + k,none⟩) (zs.length - k) (cap - k))
  have he3 : EnvOK n (ms.map mk) x a3 (put (put (put E (some a) (.own τ (.slice (some ⟨g,0,none⟩) zs.length cap))) (some b) (aI k)) (some c) .any):=by
   have:=he2.put f3 (a:=.any) (v:=.slice (some ⟨g,0 + k,none⟩) (zs.length - k) (cap - k)) (by simp [D])
   exact this
  have e5 : a3.eval (.tmp c) = .slice (some ⟨g,0 + k,none⟩) (zs.length - k) (cap - k):=by
   have h:=he2.put f3 (a:=.own 0 (.slice (some ⟨g,0 + k,none⟩) (zs.length - k) (cap - k))) (v:=.slice (some ⟨g,0 + k,none⟩) (zs.length - k) (cap - k)) (by simp [D])
   have:=ev_ok h (.tmp c)
   simp only [ev,put,upd] at this
   rw [if_pos trivial] at this
   simp only [D] at this
   exact this.1
  have r4 : (execOp a3.eval o4).run Tryz.prog x.w = .ok (.value (.tuple #[])) y.w:=by
   have hcl:=fun ty=>run_clear_slice (P:=Tryz.prog) x.w 26 3 ty (.int .i64 0) (by kernel_rfl) (by intro w; rfl) rfl rfl g (0 + k) (zs.length - k) (cap - k) (by omega) (fun j hj=>by rw [show 0 + k + j = 0 + (k + j) by omega,(hHo (k + j) (by simp; omega)).1]; rfl) (fun j hj=>by rw [show 0 + k + j = 0 + (k + j) by omega]; exact (hHo (k + j) (by simp; omega)).2)
   rw [hcw] at hcl
   simp only [Nat.zero_add,ahead_zero] at hcl
   obtain ⟨dst,op,type,pos,after,guard⟩:=o4
   simp only at q4
   subst q4
   simp [execOp,resolve,invoke,e5,builtin,hcl,k1,grow_empty]
  refine wpIn_region_list ?_
  refine step_val g1 (by rw [q1]; rfl) r1 ?_
  rw [d1]
  refine step_val g2 (by rw [q2]; rfl) r2 ?_
  rw [d2]
  refine step_val g3 (by rw [q3]; rfl) r3 ?_
  rw [d3]
  refine step_val g4 (by rw [q4]; rfl) r4 ?_
  refine ⟨y,_,_,ms,rfl,k2,?_,?_,hq⟩
  ·have k4:=k3.perm (hset_perm (hget_app (H0:=marks ms ++ H0) hH)).symm
   rwa [hset_app hH] at k4
  ·have:=he3.mono k2
   rw [d4]
   exact this
theorem CallS.rtT {P : Program} {k : Nat} {g : FuncId} {az : List A} {B H : Heap} {K : A → Heap → Prop} (h : CallS P g az (B ++ Go.Proofs.YtpadinblmjlggaaGreatDoor.rt k H) fun r H'=>∃ B',subP (B' ++ Go.Proofs.YtpadinblmjlggaaGreatDoor.rt k H) H' ∧ K r B') : CallS P g az (B ++ H) fun r H'=>∃ B',H' = B' ++ H ∧ K r B':=by
 refine ⟨h.1,fun x args H0 hi hd=>(h.2 x args H0 (hi.ents (by simp [rt_snd])) hd).mono ?_⟩
 rintro _ _ ⟨y,v,r,H',a,b,c,d,e,B',g1,g2⟩
 exact ⟨y,v,r,B' ++ H,a,b,c,(subP_inv g1 d).ents (by simp [rt_snd]),e,B',rfl,g2⟩
theorem CallS.rtC {P : Program} {k : Nat} {g : FuncId} {az : List A} {H : Heap} {ρ : A} (h : CallS P g az H fun r H'=>r = ρ ∧ H' = H) : CallS P g az (Go.Proofs.YtpadinblmjlggaaGreatDoor.rt k H) fun r H'=>r = ρ ∧ H' = Go.Proofs.YtpadinblmjlggaaGreatDoor.rt k H:=by
 refine (h.rt' (k:=k)).mono ?_
 rintro r H' ⟨_,rfl,rfl,rfl⟩
 exact ⟨rfl,rfl⟩
theorem idxMo_s (zs : List Int) (p : Int → Bool) (f : FuncId) (first caps : List A) (H : Heap) (h : Value) (hx : Sh zs) (hp : ∀ n ∈ zs,CallS Tryz.prog f (first ++ [aI n] ++ caps) H fun r H'=>r = aB (p n) ∧ H' = H) :
  CallS Tryz.prog 90 [.own 174 h,.fn f first caps] ([(174,.seq h 3 1 (zs.map rI))] ++ H) fun r H'=>∃ B',H' = B' ++ H ∧ r = aI (idxI (zs.findIdx? p)) ∧ B' = [(174,.seq h 3 1 (zs.map rI))]:=by
 refine CallS.rtT (k:=1000) (callS_of Tryz.func90 rfl Tryz.ntmps90 (rs:=[.tmp 4]) rfl (by kernel_rfl) (by simp) (by kernel_rfl) ?_)
 simp
 refine V.for' [0,1,7] (fun i : Nat=>[(8,aI i)]) (fun _=>(174,.seq h 3 1 (zs.map rI)) :: rt 1000 H) (fun i=>i ≤ zs.length ∧ NoF p (zs.take i)) (fun i=>zs.length - i) 0 ⟨by simp,by simp,subP.refl _⟩ ?_
 rintro i ⟨hi,hI⟩
 by_cases hlt : i < zs.length
 ·have h1:=List.getElem?_eq_getElem hlt
  have hs:=findIdx_step (p:=p) hI h1
  have hc:=((hp zs[i] (List.getElem_mem hlt)).rtC (k:=1000)).mid [(174,.seq h 3 1 (zs.map rI))] []
  simp at hc
  simp [hlt,h1]
  refine hc.mono ?_
  rintro r H' ⟨rfl,rfl⟩
  cases e : p zs[i]
  ·simp
   exact ⟨by omega,i + 1,⟨hlt,hs.1 e⟩,by omega,by simp,subP.refl _⟩
  ·rw [hs.2 e]
   simp
   exact subP.refl _
 ·obtain rfl : i = zs.length:=by omega
  rw [findIdx_none hI]
  simp
  exact subP.refl _
structure KeptI (zs : List Int) (p : Int → Bool) (j i : Nat) (cur : List Int) : Prop where
 len : cur.length = zs.length
 lt : i < j
 le : j ≤ zs.length
 pre : cur.take i = (zs.take j).filter fun n=>!p n
 post : cur.drop j = zs.drop j
theorem delF_s (zs : List Int) (p : Int → Bool) (f : FuncId) (first caps : List A) (H : Heap) (h : Value) (hx : Sh zs) (hp : ∀ n ∈ zs,CallS Tryz.prog f (first ++ [aI n] ++ caps) H fun r H'=>r = aB (p n) ∧ H' = H) :
  CallS Tryz.prog 200 [.own 174 h,.fn f first caps] ([(174,.seq h 3 1 (zs.map rI))] ++ H) fun r H'=>∃ B',H' = B' ++ H ∧ ∃ h2,r = .own 174 h2 ∧ B' = [(174,.seq h2 3 1 ((zs.filter fun n=>!p n).map rI))]:=by
 have hix:=idxMo_s zs p f first caps (rt 1000 H) h hx fun n hn=>(hp n hn).rtC
 refine CallS.rtT (k:=1000) (callS_cut 4 Tryz.func200 rfl Tryz.ntmps200 (rs:=[.tmp 4]) rfl (by kernel_rfl) (by simp) (by kernel_rfl) ?_)
 simp
 refine hix.mono ?_
 rintro _ _ ⟨_,rfl,rfl,rfl⟩
 cases hfi : zs.findIdx? p with
 | none=>
  have hall:=List.findIdx?_eq_none_iff.1 hfi
  have hfe : (zs.filter fun n=>!p n) = zs:=List.filter_eq_self.2 fun n hn=>by simpa using hall n hn
  simp [idxI]
  rw [hfe]
  exact subP.refl _
 | some i0=>
  obtain ⟨hlt0,hpt,hpf⟩:=List.findIdx?_eq_some_iff_getElem.1 hfi
  simp
  refine ⟨by omega,?_⟩
  refine V.for' [0,1,4] (fun q : Nat × Nat × List Int=>[(5,aI q.2.1),(6,aI q.1)]) (fun q=>(174,.seq h 3 1 (q.2.2.map rI)) :: rt 1000 H) (fun q=>KeptI zs p q.1 q.2.1 q.2.2) (fun q=>zs.length - q.1) (i0 + 1,i0,zs) ⟨?_,by simp,subP.refl _⟩ ?_
  ·refine ⟨rfl,by simp,hlt0,?_,rfl⟩
   simp only
   rw [List.take_add_one,List.getElem?_eq_getElem hlt0,List.filter_append]
   simp only [Option.toList,List.filter_cons,hpt,Bool.not_true,List.filter_nil,Bool.false_eq_true,if_false,List.append_nil]
   refine (List.filter_eq_self.2 fun n hn=>?_).symm
   obtain ⟨j,hj,rfl⟩:=List.getElem_of_mem hn
   rw [List.length_take] at hj
   rw [List.getElem_take]
   have:=hpf j (by omega)
   simpa using this
  ·rintro ⟨j,i,cur⟩ hK
   simp only at hK
   obtain ⟨k1,k2,k3,k4,k5⟩:=hK
   by_cases hlt : j < zs.length
   ·have hj1 : cur[j]? = some zs[j]:=by
     have h1:=congrArg (fun l=>l[0]?) k5
     simp only [List.getElem?_drop,Nat.add_zero] at h1
     rw [h1,List.getElem?_eq_getElem hlt]
    obtain ⟨hjc,hj2⟩:=List.getElem?_eq_some_iff.1 hj1
    obtain ⟨v,hv⟩ : ∃ v,zs[j] = v:=⟨_,rfl⟩
    rw [hv] at hj1 hj2
    have hvm : v ∈ zs:=by rw [← hv]; exact List.getElem_mem hlt
    have hic : i < cur.length:=by omega
    have hc:=((hp v hvm).rtC (k:=1000)).mid [(174,.seq h 3 1 (cur.map rI))] []
    simp at hc
    simp [k1,hlt,hj1,hj2]
    refine hc.mono ?_
    rintro r H' ⟨rfl,rfl⟩
    have hio : cur[i]? = some cur[i]:=List.getElem?_eq_getElem hic
    have htk : zs.take (j + 1) = zs.take j ++ [v]:=by rw [List.take_add_one,List.getElem?_eq_getElem hlt,hv]; rfl
    have hpost : ∀ (l : List Int),l.drop j = zs.drop j → l.drop (j + 1) = zs.drop (j + 1):=fun l hl=>by
     have:=congrArg (List.drop 1) hl
     simpa [List.drop_drop,Nat.add_comm] using this
    cases e : p v
    ·have hset : ((cur.map rI).set i [aI v]) = (cur.set i v).map rI:=by rw [List.map_set]
     simp [hic,hio]
     refine ⟨by omega,by omega,j + 1,i + 1,cur.set i v,⟨by simp [k1],by omega,by omega,?_,?_⟩,by omega,⟨by omega,by omega⟩,?_⟩
     ·rw [htk,List.filter_append,← k4,List.take_add_one]
      simp [e,List.getElem?_set,hic,List.take_set]
      exact List.set_eq_of_length_le (by simp; omega)
     ·refine hpost _ ?_
      rw [List.drop_set,if_pos (by omega)]
      exact k5
     ·rw [← hset]
      exact subP.refl _
    ·simp
     refine ⟨by omega,j + 1,i,cur,⟨k1,by omega,by omega,?_,hpost _ k5⟩,by omega,⟨rfl,by omega⟩,subP.refl _⟩
     rw [htk,List.filter_append,← k4]
     simp [e]
   ·have hj : j = zs.length:=by omega
    subst hj
    simp [k1]
    refine V.seqV (V.clearTail (s:=0) (i:=5) (a:=36) (b:=37) (c:=38) (τ:=174) (h:=h) (e:=3) (zs:=cur) (k:=i) rfl rfl rfl rfl rfl rfl rfl rfl rfl rfl rfl rfl (by decide) (by decide) (by simp) (by simp) (by simp) (by omega) ?_)
    refine V.of_vc ?_
    simp
    intro u
    refine ⟨by omega,?_⟩
    have hfin : List.take i (List.take i (List.map rI cur) ++ List.replicate (cur.length - i) (rI 0)) = List.map rI (List.filter (fun n=>!p n) zs):=by
     rw [List.take_append_of_le_length (by simp; omega),List.take_take,Nat.min_self,← List.map_take,k4,List.take_length]
    rw [hfin]
    exact subP.refl _
end Go.Proofs.YtpadinblmjlggaaGreatDoor
end

section
namespace Go.Proofs.YtpadinblmjlggaaGreatDoor
set_option maxHeartbeats 4000000
theorem find_idx {α : Type} (p : α → Bool) : ∀ l : List α,l.find? p = (l.findIdx? p).bind fun k=>l[k]?
 | []=>rfl
 | x :: l=>by
  rw [List.find?_cons,List.findIdx?_cons]
  cases p x
  ·simp only [Bool.false_eq_true,if_false]
   rw [find_idx p l]
   cases l.findIdx? p <;> simp
  ·simp
theorem filter_ne {α : Type} [BEq α] [LawfulBEq α] : ∀ (l : List α) (k : Nat) (hk : k < l.length),l.Nodup → (l.filter fun y=>!(l[k] == y)) = l.take k ++ l.drop (k + 1)
 | [],k,hk,_=>by simp at hk
 | x :: l,0,_,hn=>by
  simp only [List.getElem_cons_zero,List.take_zero,List.nil_append,List.drop_succ_cons,List.drop_zero]
  rw [List.filter_cons]
  simp only [BEq.rfl,Bool.not_true,Bool.false_eq_true,if_false]
  refine List.filter_eq_self.2 fun y hy=>?_
  have:=(List.nodup_cons.1 hn).1
  simp only [Bool.not_eq_true',beq_eq_false_iff_ne,ne_eq]
  rintro rfl
  exact this hy
 | x :: l,k + 1,hk,hn=>by
  have hk' : k < l.length:=by simpa using hk
  have hn':=List.nodup_cons.1 hn
  simp only [List.getElem_cons_succ,List.take_succ_cons,List.cons_append,List.drop_succ_cons]
  rw [List.filter_cons,if_pos (by
   simp only [Bool.not_eq_true',beq_eq_false_iff_ne,ne_eq]
   rintro e
   exact hn'.1 (e ▸ List.getElem_mem hk')),filter_ne l k hk' hn'.2]
theorem restZ_nodup (ps : List Prt) (nets : List (List PortZ)) (order : List Nat) : (restZ ps nets order).Nodup:=List.Nodup.sublist List.filter_sublist List.nodup_range
theorem restZ_app (ps : List Prt) (nets : List (List PortZ)) (order : List Nat) {k : Nat} (hk : k < (restZ ps nets order).length) :
  restZ ps nets (order ++ [(restZ ps nets order)[k]]) = (restZ ps nets order).take k ++ (restZ ps nets order).drop (k + 1):=by
 rw [← filter_ne _ k hk (restZ_nodup ps nets order)]
 generalize (restZ ps nets order)[k] = a
 unfold restZ
 rw [List.filter_filter]
 congr 1
 funext i
 rw [List.any_append]
 simp only [List.any_cons,List.any_nil,Bool.or_false,Bool.not_or]
 have e : (i == a) = (a == i):=by rw [Bool.eq_iff_iff]; simp only [beq_iff_eq]; exact eq_comm
 rw [e]
 cases countsI ps nets i <;> cases (order.any fun x=>i == x) <;> cases (a == i) <;> rfl
structure OrdI (ps : List Prt) (d : List Drv) (nets : List (List PortZ)) (n : Nat) (order rest : List Nat) : Prop where
 ord : order = orderN ps d nets n
 rst : rest = restZ ps nets order
 len : order.length = n
 all : n + rest.length = manyC ps nets
theorem OrdI.zero (ps : List Prt) (d : List Drv) (nets : List (List PortZ)) : OrdI ps d nets 0 [] (restZ ps nets []):=⟨rfl,rfl,rfl,by simp [manyC]⟩
theorem OrdI.next {ps : List Prt} {d : List Drv} {nets : List (List PortZ)} {n : Nat} {order rest : List Nat} (h : OrdI ps d nets n order rest) {k : Nat} (hk : rest.findIdx? (readyZ ps d nets order) = some k) :
  ∃ hkl : k < rest.length,OrdI ps d nets (n + 1) (order ++ [rest[k]]) (rest.take k ++ rest.drop (k + 1)):=by
 obtain ⟨h1,h2,h3,h4⟩:=h
 obtain ⟨hkl,_⟩:=List.findIdx?_eq_some_iff_getElem.1 hk
 have hnx : nextZ ps d nets order = some rest[k]:=by
  unfold nextZ
  rw [← h2,find_idx,hk]
  simp [hkl]
 refine ⟨hkl,?_,?_,by simp [h3],?_⟩
 ·show _ = match nextZ ps d nets (orderN ps d nets n) with
   | some i=>orderN ps d nets n ++ [i]
   | none=>orderN ps d nets n
  rw [← h1,hnx]
 ·subst h2
  rw [restZ_app ps nets order hkl]
 ·rw [List.length_append,List.length_take,List.length_drop]
  omega
theorem OrdI.stop {ps : List Prt} {d : List Drv} {nets : List (List PortZ)} {n : Nat} {order rest : List Nat} (h : OrdI ps d nets n order rest) (hk : rest.findIdx? (readyZ ps d nets order) = none) : ∀ m,orderN ps d nets (n + m) = order
 | 0=>h.ord.symm
 | m + 1=>by
  have ih:=OrdI.stop h hk m
  have hnx : nextZ ps d nets order = none:=by
   unfold nextZ
   rw [← h.rst,find_idx,hk]
   rfl
  show (match nextZ ps d nets (orderN ps d nets (n + m)) with
   | some i=>orderN ps d nets (n + m) ++ [i]
   | none=>orderN ps d nets (n + m)) = order
  rw [ih,hnx]
def sortE (ps : List Prt) (d : List Drv) (nets : List (List PortZ)) : Int:=if (orderN ps d nets (manyC ps nets)).length = manyC ps nets then 0 else 20
theorem OrdI.fail {ps : List Prt} {d : List Drv} {nets : List (List PortZ)} {n : Nat} {order rest : List Nat} (h : OrdI ps d nets n order rest) (hr : rest ≠ []) (hk : rest.findIdx? (readyZ ps d nets order) = none) :
  orderN ps d nets (manyC ps nets) = order ∧ sortE ps d nets = 20:=by
 have h1:=h.stop hk (manyC ps nets - n)
 have h2:=h.all
 have h3:=List.length_pos_iff.2 hr
 rw [show n + (manyC ps nets - n) = manyC ps nets by omega] at h1
 refine ⟨h1,?_⟩
 unfold sortE
 rw [h1,if_neg]
 have:=h.len
 omega
theorem OrdI.done {ps : List Prt} {d : List Drv} {nets : List (List PortZ)} {n : Nat} {order : List Nat} (h : OrdI ps d nets n order []) : orderN ps d nets (manyC ps nets) = order ∧ sortE ps d nets = 0:=by
 have h2:=h.all
 simp only [List.length_nil,Nat.add_zero] at h2
 have h1 : orderN ps d nets (manyC ps nets) = order:=by rw [← h2]; exact h.ord.symm
 refine ⟨h1,?_⟩
 unfold sortE
 rw [h1,if_pos]
 have:=h.len
 omega
end Go.Proofs.YtpadinblmjlggaaGreatDoor
end
