/- Texts joined by a program: Qn,Dc,Dd,De,Df,Qp. -/
import Derived.Test.YtpadinblmjlggaaGreatDoorP20
import Derived.Test.YtpadinblmjlggaaGreatDoorP18
import Derived.Test.YtpadinblmjlggaaGreatDoorP21
set_option linter.unusedSimpArgs false
set_option linter.unusedVariables false

section
namespace Go.Proofs.YtpadinblmjlggaaGreatDoor
set_option maxHeartbeats 8000000
set_option maxRecDepth 10000
abbrev rDr (d : Drv) : List A:=[.dat (.int .i64 (d.1 : Nat)),.dat (.int .i64 (d.2 : Nat))]
theorem rowsD_Dr (xs : List Drv) : rowsD (xs.map rDr) = xs.map encDr:=by unfold rowsD; rw [List.map_map]; rfl
theorem allD_Dr (xs : List Drv) : allD (xs.map rDr) = true:=by simp [allD,isD]
def pairE (c : Cir) : Int:=if cirE c ≠ 0 then cirE c else drvE c.parts (netsZ c)
structure PlS.Raw (s : PlS) (c : Cir) : Prop where
 ok : s.OK
 ps : s.ps = c.parts
 ns : s.ns = netsZ c
 dr : s.dr = .dat (.sl ((drvN c.parts (netsZ c) c.parts.length).map encDr))
 od : s.od = .nils
 bu : s.bu = .nils
 va : s.va = .nils
 lE : s.lE = []
abbrev pS (c : Cir) (m1 m2 b : Nat) (dr : A) (oE : List (KeyK × List L)) : PlS:=⟨c.parts,c.pipes,netsZ c,m1,m2,b,dr,.nils,.nils,.nils,oE,[]⟩
theorem pS_ok {c : Cir} (hr : CirR c) {oE : List (KeyK × List L)} (h : OfD (netsZ c) (netsZ c).length 0 oE) (m1 m2 b : Nat) (dr : A) : (pS c m1 m2 b dr oE).OK:=
 ⟨hr.few,fun p hp=>part_kind (hr.part p hp),netsZ_few hr,netsZ_net hr,h.all hr⟩
abbrev drE (v : Value) (l : List Drv) : Nat × Ent:=(173,.seq v 71 2 (l.map rDr))
theorem CallS.frzOr {P : Program} {g : FuncId} {az : List A} {H : Heap} {K K' : A → Heap → Prop} (h : CallS P g az H K)
  (hk : ∀ r H',K r H' → K' r H' ∨ ∃ (q τ b j t : Nat) (hd : Value) (e sz : Nat) (rows : List (List A)) (cs : List A),hget q (hdel τ H') = some (.box b cs) ∧ hget τ H' = some (.seq hd e sz rows) ∧ allD rows = true ∧ cs[j]? = some (.own t hd) ∧
   K' r (hset q (.box b (cs.set j (.dat (.sl (rowsD rows))))) (hdel τ H'))) : CallS P g az H K':=by
 refine ⟨h.1,fun x args H0 hi hd=>(h.2 x args H0 hi hd).mono ?_⟩
 rintro _ _ ⟨y,v,r,H',rfl,rfl,hle,hi',hv,hkk⟩
 rcases hk r H' hkk with h0 | ⟨q,τ,b,j,t,hd,e,sz,rows,cs,h1,h2,h3,h4,h5⟩
 ·exact ⟨y,v,r,H',rfl,rfl,hle,hi',hv,h0⟩
 ·obtain ⟨z,hw,hle2,hi2,hrd⟩:=freeze1 h2 h3 hi'
  have hi3:=hi2.swap (e':=.box b (cs.set j (.dat (.sl (rowsD rows))))) h1 (fun ⟨c,ty,k1,k2⟩=>⟨c,ty,k1,Ds_set (fun v hv=>by simp only [D] at hv ⊢; rw [hv.1]; exact hrd) h4 k2⟩) (fun b hb=>hb)
  exact ⟨z,v,r,_,rfl,hw,hle.trans hle2,hi3,hv.mono hle2,h5⟩
abbrev PrK (c : Cir) (m1 m2 b : Nat) (r : A) (H' : Heap) : Prop:=if drvE c.parts (netsZ c) = 0 then ∃ v oE,r = .tuple [.ptr 170 b 0,aI 0] ∧ subP ((pS c m1 m2 b (.own 173 v) oE).hp ++ [drE v (drvN c.parts (netsZ c) c.parts.length)]) H' ∧ OfD (netsZ c) (netsZ c).length 0 oE else r = .tuple [.nilp,aI (drvE c.parts (netsZ c))]
abbrev prE (c : Cir) (b : Nat) : List (Nat × A):=[(1,.rptr (encCi c)),(2,.nilp),(3,aI 0),(4,aNets (netsZ c)),(6,.ptr 170 b 0)]
abbrev prF (c : Cir) (b : Nat) : List (Nat × A):=[(1,.rptr (encCi c)),(2,.nilp),(3,aI 0),(6,.ptr 170 b 0)]
theorem paired_b {c : Cir} (hr : CirR c) (m1 m2 b : Nat) (q : List (KeyK × List L)) (hq : OfD (netsZ c) (netsZ c).length 0 q) : V ⟨Tryz.prog,none,83⟩ (restC Tryz.f78 5) (hdE (prF c b) []) ((pS c m1 m2 b (.own 173 (.slice none 0 0)) q).hp ++ [drE (.slice none 0 0) []]) (RetV Tryz.prog [.tmp 2,.tmp 3] fun r H'=>∃ m1 m2 b,PrK c m1 m2 b r H'):=by
 refine V.rest rfl ?_
 refine V.of_vcN 1 ?_
 have hfew:=hr.few
 simp
 refine V.forI (σ:=Value) c.parts.length [2,3,6,50] (by simp; exact rfl) (fun i _=>[(51,aI i)]) (fun i v=>(pS c m1 m2 b (.own 173 v) q).hp ++ [drE v (drvN c.parts (netsZ c) i)]) (fun i _=>∀ j,j < i → kindOf c.parts j = 1 → (valveZ c.parts (netsZ c) j).isSome = true) (.slice none 0 0) (by simp) (by simp) ⟨by simp; exact rfl,by simp [drvN,cylsN]⟩ ?_ ?_
 ·rintro i v hi hI
  have hok:=pS_ok hr hq m1 m2 b (.own 173 v)
  have hk:=kind_s hok (i:=i) hi
  have hdl:=drvN_len c.parts (netsZ c) i
  simp [hi]
  refine (hk.mid [] [_]).mono ?_
  rintro r H' ⟨rfl,rfl⟩
  by_cases h1 : kindOf c.parts i = 1
  ·have hv:=valve_s hok (i:=i) h1
   simp [h1]
   refine (hv.mid [] [_]).mono ?_
   rintro r H' ⟨rfl,rfl⟩
   cases hz : valveZ c.parts (netsZ c) i with
   | none=>
    simp [idxI]
    refine ⟨m1,m2,b,?_⟩
    unfold PrK
    rw [drvE_bad hi h1 hz,if_neg (by decide)]
   | some k=>
    simp [idxI]
    refine ⟨fun hh=>by omega,by omega,⟨by omega,by omega⟩,fun j hj hk1=>?_,?_⟩
    ·by_cases e : j = i
     ·rw [e,hz]; rfl
     ·exact hI j (by omega) hk1
    ·rw [drvN_succ,if_pos h1,hz]
     simp
  ·have h1' : ¬ ((kindOf c.parts i : Nat) : Int) = 1:=by omega
   simp [h1']
   refine ⟨⟨by omega,by omega⟩,fun j hj hk1=>?_,?_⟩
   ·by_cases e : j = i
    ·rw [e] at hk1; exact absurd hk1 h1
    ·exact hI j (by omega) hk1
   ·rw [drvN_succ,if_neg h1]
    simp
 ·rintro v hI
  simp
  refine V.of_vc ?_
  have he:=drvE_end hI
  simp
  refine ⟨fun h0=>?_,fun h0=>?_⟩
  ·refine ⟨m1,m2,b,?_⟩
   unfold PrK
   rw [he,if_pos h0,if_neg (by decide)]
  ·refine ⟨m1,m2,b,?_⟩
   unfold PrK
   rw [he,if_neg h0,if_pos rfl]
   exact ⟨v,q,rfl,subP.refl _,hq⟩
theorem paired_a {c : Cir} (hr : CirR c) (m1 m2 b : Nat) : V ⟨Tryz.prog,none,83⟩ (restC Tryz.f78 4) (hdE (prE c b) []) ((pS c m1 m2 b (.own 173 (.slice none 0 0)) []).hp ++ [drE (.slice none 0 0) []]) (RetV Tryz.prog [.tmp 2,.tmp 3] fun r H'=>∃ m1 m2 b,PrK c m1 m2 b r H'):=by
 refine V.rest rfl ?_
 refine V.of_vcN 1 ?_
 have hfew:=netsZ_few hr
 simp
 refine V.forI (σ:=List (KeyK × List L)) (netsZ c).length [1,2,3,6,27,28] (by simp; exact rfl) (fun i _=>[(29,aI i)]) (fun _ q=>(pS c m1 m2 b (.own 173 (.slice none 0 0)) q).hp ++ [drE (.slice none 0 0) []]) (fun i q=>OfD (netsZ c) i 0 q) [] (OfD.zero _) (by simp) ⟨by simp; exact rfl,by simp⟩ ?_ ?_
 ·rintro i q hi hI
  obtain ⟨l,hl⟩ : ∃ l,(netsZ c)[i] = l:=⟨_,rfl⟩
  have hlo : (netsZ c)[i]? = some l:=by rw [List.getElem?_eq_getElem hi,hl]
  obtain ⟨n1,n2,n3⟩:=netsZ_net hr l (List.mem_of_getElem? hlo)
  simp [hi,hl,hlo]
  refine V.forI (σ:=List (KeyK × List L)) l.length [1,2,3,6,7,8,27,28,29,34,35] (by simp; exact rfl) (fun j _=>[(36,aI j)]) (fun _ q=>(pS c m1 m2 b (.own 173 (.slice none 0 0)) q).hp ++ [drE (.slice none 0 0) []]) (fun j q=>OfD (netsZ c) i j q) q hI (by simp) ⟨by simp; exact rfl,by simp⟩ ?_ ?_
  ·rintro j q hj hI
   obtain ⟨x,hx⟩ : ∃ x,l[j] = x:=⟨_,rfl⟩
   have hxo : l[j]? = some x:=by rw [List.getElem?_eq_getElem hj,hx]
   have hok:=okK_port (ps:=c.parts) (by have:=hr.few; omega) (n3 x (List.mem_of_getElem? hxo))
   simp [hj,hx,hxo]
   intro b10
   refine V.drawX (fun _=>none) (by kernel_rfl) (by kernel_rfl) (by simp) ?_
   simp
   exact ⟨hok,⟨by omega,by omega⟩,hI.put hlo hxo⟩
  ·rintro q hI
   simp
   exact ⟨⟨by omega,by omega⟩,hI.next hlo⟩
 ·rintro q hI
  simp
  exact V.cutV (Hs:=(pS c m1 m2 b (.own 173 (.slice none 0 0)) q).hp ++ [drE (.slice none 0 0) []]) (prF c b) (by simp) (by simp) (V.of_rest rfl (paired_b hr m1 m2 b q hI))
theorem paired_s (c : Cir) (hs : c.parts.length ≤ 64 → ∀ p ∈ c.parts,p.name.length ≤ 1000) (hl : Sh c.parts) (hl2 : Sh c.pipes) :
  CallS Tryz.prog 78 [aCi c] [] fun r H'=>if pairE c = 0 then ∃ s : PlS,r = .tuple [.ptr 170 s.b 0,aI 0] ∧ H' = s.hp ∧ s.Raw c else r = .tuple [.nilp,aI (pairE c)] ∧ H' = []:=by
 have hn:=Nets_fn c hs hl hl2
 by_cases h0 : cirE c = 0
 ·have hr:=cirR_of h0
  have hpe : pairE c = drvE c.parts (netsZ c):=by unfold pairE; rw [if_neg (by simp [h0])]
  rw [hpe]
  rw [h0] at hn
  refine CallS.frzOr (CallS.dropP (callS_cut 4 Tryz.func78 rfl Tryz.ntmps78 (rs:=[.tmp 2,.tmp 3]) rfl (by kernel_rfl) (by simp) (by kernel_rfl) (K:=fun r H'=>∃ m1 m2 b,PrK c m1 m2 b r H') ?_) (K':=fun r H'=>if drvE c.parts (netsZ c) = 0 then ∃ m1 m2 b v oE,r = .tuple [.ptr 170 b 0,aI 0] ∧ H' = (pS c m1 m2 b (.own 173 v) oE).hp ++ [drE v (drvN c.parts (netsZ c) c.parts.length)] ∧ OfD (netsZ c) (netsZ c).length 0 oE else r = .tuple [.nilp,aI (drvE c.parts (netsZ c))] ∧ H' = []) ?_) ?_
  ·simp
   refine hn.s ?_
   simp
   intro m1 m2 b
   refine V.cutIN 0 (Hs:=(pS c m1 m2 b (.own 173 (.slice none 0 0)) []).hp ++ [drE (.slice none 0 0) []]) (prE c b) ?_ ?_ ?_
   ·intro p hp x v hv
    simp only [List.mem_cons,List.not_mem_nil,or_false] at hp
    rcases hp with rfl | rfl | rfl | rfl | rfl
    ·simpa using hv
    ·simpa using hv
    ·simpa using hv
    ·simpa using hv
    ·simpa [D] using hv
   ·intro x H0 hi
    have h0:=hi.perm (H':=[(26,Ent.box b [.dat (.sl (c.parts.map encPa)),.dat (.sl (c.pipes.map encPi)),aNets (netsZ c),.map 23 m1,.nils,.nils,.nils,.nils,.map 24 m2]),(23,.mapK m1 false []),(24,.map m2 (.int .i64) [])] ++ H0) ((List.Perm.cons _ (List.Perm.swap _ _ _)))
    have h1 : Inv x ([(170,Ent.box b [.dat (.sl (c.parts.map encPa)),.dat (.sl (c.pipes.map encPi)),aNets (netsZ c),.map 23 m1,.nils,.nils,.nils,.nils,.map 24 m2]),(171,.mapK m1 false []),(172,.map m2 (.int .i64) [])] ++ H0):=h0.ents (by simp)
    have h2:=Inv.swap (g:=170) (e':=.box b (pS c m1 m2 b (.own 173 (.slice none 0 0)) []).cells) rfl (box_sat (Ds_c D_i (Ds_c D_i (Ds_c D_i (Ds_c D_mtag (Ds_c D_nilo (Ds_c D_i (Ds_c D_i (Ds_c D_i (Ds_c D_mtag Ds_i)))))))))) (fun _ h=>h) h1
    have h3:=Inv.nil (t:=173) (e:=.seq (.slice none 0 0) 71 2 []) h2 ⟨rfl,rfl⟩
    refine h3.perm ?_
    rw [List.append_assoc]
    exact List.perm_middle (l₁:=[_,_,_])
   ·exact paired_a hr m1 m2 b
  ·rintro r H' ⟨m1,m2,b,hk⟩
   unfold PrK at hk
   by_cases hd : drvE c.parts (netsZ c) = 0
   ·rw [if_pos hd] at hk
    obtain ⟨v,oE,h1,h2,h3⟩:=hk
    refine ⟨_,h2,?_⟩
    rw [if_pos hd]
    exact ⟨m1,m2,b,v,oE,h1,rfl,h3⟩
   ·rw [if_neg hd] at hk
    refine ⟨[],⟨[],List.nil_sublist _,List.Perm.refl _⟩,?_⟩
    rw [if_neg hd]
    exact ⟨hk,rfl⟩
  ·intro r H' hk
   by_cases hd : drvE c.parts (netsZ c) = 0
   ·rw [if_pos hd] at hk ⊢
    obtain ⟨m1,m2,b,v,oE,rfl,rfl,h3⟩:=hk
    refine .inr ⟨170,173,b,4,173,v,71,2,(drvN c.parts (netsZ c) c.parts.length).map rDr,(pS c m1 m2 b (.own 173 v) oE).cells,rfl,rfl,allD_Dr _,rfl,?_⟩
    rw [if_pos hd]
    refine ⟨pS c m1 m2 b (.dat (.sl ((drvN c.parts (netsZ c) c.parts.length).map encDr))) oE,rfl,?_,⟨pS_ok hr h3 _ _ _ _,rfl,rfl,rfl,rfl,rfl,rfl,rfl⟩⟩
    rw [rowsD_Dr]
    rfl
   ·rw [if_neg hd] at hk ⊢
    exact .inl hk
 ·have hpe : pairE c = cirE c:=by unfold pairE; rw [if_pos h0]
  rw [hpe]
  refine callS_of Tryz.func78 rfl Tryz.ntmps78 (rs:=[.tmp 2,.tmp 3]) rfl (by kernel_rfl) (by simp) (by kernel_rfl) ?_
  simp
  refine hn.s ?_
  simp [h0]
end Go.Proofs.YtpadinblmjlggaaGreatDoor
end

section
namespace Go.Proofs.YtpadinblmjlggaaGreatDoor
set_option maxHeartbeats 2000000
set_option maxRecDepth 10000
abbrev chkBox (b r : Nat) (c : Control) : Nat × Ent:=(32,.box b [.dat (.int .i64 c.actuators),.dat (.sl (c.inputs.map encT)),.dat (.sl (c.signals.map encS)),.dat (.sl (c.plus.map encI)),.dat (.sl (c.minus.map encI)),.map 30 r,
 .fn 211 [.ptr 32 b 0] [],.fn 212 [.ptr 32 b 0] [],.fn 213 [.ptr 32 b 0] []])
abbrev chkMap (r : Nat) (names : List (List UInt8)) : Nat × Ent:=(30,.map r .string (mapOf names))
theorem cname_s (b r : Nat) (c : Control) (s : List UInt8) (hs : Sh s) (names : List (List UInt8)) (hn : names.length ≤ 1000000) : CallS Tryz.prog 215 [.ptr 32 b 0,aT s] [chkBox b r c,chkMap r names]
  fun rr H'=>rr = aI (nameE s names) ∧ H' = [chkBox b r c,chkMap r (if nameE s names = 0 then names ++ [s] else names)]:=by
 refine CallS.dropP (callS_of Tryz.func215 rfl Tryz.ntmps215 (rs:=[.tmp 4]) rfl (by kernel_rfl) (by simp) (by kernel_rfl) (K:=fun rr H'=>rr = aI (nameE s names) ∧ subP [chkBox b r c,chkMap r (if nameE s names = 0 then names ++ [s] else names)] H') ?_) ?_
 ·cases s with
  | nil=>
   simp [reads]
   refine GCall.fn (aB false) (by simp) ?_
   simp [nameE,wordS,subP.refl]
  | cons b0 s'=>
   simp [reads]
   refine GCall.fn (aB (!(b0 :: s').all partB)) (fun h=>⟨h,?_⟩) ?_
   ·rw [← all_bad]
    exact ContainsFuncS_fn (b0 :: s') hs badR (by intro r h; simp [badR]; omega) _ [] [] (fun r h0 h1=>by simpa using badR_fn r h0 h1)
   ·simp [reads]
    have hlen : (b0 :: s').length = s'.length + 1:=rfl
    refine ⟨fun h=>?_,fun h1 h2 h3 h4=>?_⟩
    ·have e : nameE (b0 :: s') names = 3:=by
      rw [nameE,if_pos]
      simp [wordS]
      intro g1 g2 g3
      rcases h with (h | h) | h | h
      ·omega
      ·omega
      ·rw [h] at g3; cases g3
      ·exact h
     simp [e,subP.refl]
    ·have hw : wordS (b0 :: s') = true:=by
      simp [wordS]
      exact ⟨⟨by omega,by omega⟩,h3,h4⟩
     refine ⟨fun h5=>?_,fun h5=>⟨fun h6=>?_,fun h6=>?_⟩⟩
     ·have e : nameE (b0 :: s') names = 17:=by simp [nameE,hw]; omega
      simp [e,subP.refl]
     ·rw [mget_of] at h6
      have hm : (b0 :: s') ∈ names:=by
       simp [List.findIdx?_isSome] at h6
       exact h6
      have e : nameE (b0 :: s') names = 7:=by simp [nameE,hw,hm]; omega
      simp [e,subP.refl]
     ·rw [mget_of] at h6
      have hm : (b0 :: s') ∉ names:=by
       simp at h6
       intro hm
       exact h6 _ hm rfl
      have e : nameE (b0 :: s') names = 0:=by simp [nameE,hw,hm]; omega
      refine V.draw (fun _=>none) (by kernel_rfl) (by kernel_rfl) (by simp) ?_
      simp [e]
      rw [mput_of hm]
      exact subP.refl _
 ·rintro rr H' ⟨h1,h2⟩
  exact ⟨_,h2,h1,rfl⟩
mutual
def varsE : Expr → List Int
 | ⟨op,ix,args⟩=>(if op = 1 then [ix] else []) ++ varsL args
def varsL : List Expr → List Int
 | []=>[]
 | x :: xs=>varsE x ++ varsL xs
end
theorem varsE_eq (x : Expr) : varsE x = (if x.op = 1 then [x.index] else []) ++ varsL x.args:=by cases x; simp [varsE]
theorem varsL_mem {n : Int} {y : Expr} (hn : n ∈ varsE y) : ∀ {l : List Expr},y ∈ l → n ∈ varsL l
 | [],h=>by simp at h
 | z :: l,h=>by
  simp only [varsL,List.mem_append]
  rcases List.mem_cons.1 h with rfl | h
  ·exact .inl hn
  ·exact .inr (varsL_mem hn h)
theorem visitV_s {σ : Type} {b3 b4 : Nat} {f : FuncId} {first caps : List A} {Hc : σ → Heap} {step : σ → Int → σ} : ∀ (N : Nat) (x : Expr),SizeOf.sizeOf x < N → OkE x → ∀ (s : σ),
  (∀ s,∀ n ∈ varsE x,CallS Tryz.prog f (first ++ aI n :: caps) (Hc s) fun _ H'=>H' = Hc (step s n)) →
  CallS Tryz.prog 297 [aE x,.ptr 3 b3 0,.ptr 4 b4 0] ((4,.box b4 [.fn 297 [] [.ptr 3 b3 0,.ptr 4 b4 0]]) :: (3,.box b3 [.fn f first caps]) :: rt 1000 (Hc s))
   fun _ H'=>H' = (4,.box b4 [.fn 297 [] [.ptr 3 b3 0,.ptr 4 b4 0]]) :: (3,.box b3 [.fn f first caps]) :: rt 1000 (Hc ((varsE x).foldl step s))
 | 0,_,h,_,_,_=>absurd h (Nat.not_lt_zero _)
 | N + 1,x,hN,hx,s,hf=>by
  refine CallS.dropP (callS_of Tryz.func297 rfl Tryz.ntmps297 (rs:=[]) rfl (by kernel_rfl) (by simp) (by kernel_rfl) (K:=fun _ H'=>subP ((4,.box b4 [.fn 297 [] [.ptr 3 b3 0,.ptr 4 b4 0]]) :: (3,.box b3 [.fn f first caps]) :: rt 1000 (Hc ((varsE x).foldl step s))) H') ?_) (fun _ _ h=>⟨_,h,rfl⟩)
  have hset : ∃ s1 : σ,s1 = (if x.op = 1 then step s x.index else s) ∧ (varsL x.args).foldl step s1 = (varsE x).foldl step s:=by
   refine ⟨_,rfl,?_⟩
   rw [varsE_eq]
   by_cases h : x.op = 1 <;> simp [h]
  obtain ⟨s1,hs1,he⟩:=hset
  by_cases hop : x.op = 1
  all_goals simp [hop]
  ·rw [if_pos hop] at hs1
   refine ((hf s x.index (by rw [varsE_eq]; simp [hop])).rt'.c1.c1).mono ?_
   rintro r H' ⟨_,⟨_,⟨H1,rfl,rfl⟩,rfl⟩,rfl⟩
   rw [← hs1]
   simp
   refine V.for' [2,14,15] (fun p=>[(16,.dat (.int .i64 (p.1 : Nat)))]) (fun p=>(4,.box b4 [.fn 297 [] [.ptr 3 b3 0,.ptr 4 b4 0]]) :: (3,.box b3 [.fn f first caps]) :: rt 1000 (Hc p.2))
    (fun p : Nat × σ=>p.1 ≤ x.args.length ∧ (varsL (x.args.drop p.1)).foldl step p.2 = (varsE x).foldl step s) (fun p=>x.args.length - p.1) (0,s1) ⟨by simp [he],by simp,subP.refl _⟩ ?_
   rintro ⟨i,s2⟩ ⟨hi,hinv⟩
   simp only at hi hinv
   have hlen:=hx.len
   by_cases hlt : i < x.args.length
   ·obtain ⟨y,hy1⟩ : ∃ y,x.args[i]'hlt = y:=⟨_,rfl⟩
    have hmem : y ∈ x.args:=by rw [← hy1]; exact List.getElem_mem hlt
    rw [List.drop_eq_getElem_cons hlt,hy1,varsL,List.foldl_append] at hinv
    simp [hlt,hy1,encE_eq]
    intro b
    have ih:=visitV_s (b3:=b3) (b4:=b4) (Hc:=Hc) (step:=step) (f:=f) (first:=first) (caps:=caps) N y (by have:=Expr.lt_of_mem hmem; omega) (hx.args y hmem) s2 (fun s n hn=>hf s n (by rw [varsE_eq]; exact List.mem_append.2 (.inr (varsL_mem hn hmem))))
    refine ih.c1.mono ?_
    rintro r H' ⟨H2,rfl,rfl⟩
    simp
    exact ⟨by omega,i + 1,_,⟨hlt,hinv⟩,by omega,by simp,(subP.refl _).c _⟩
   ·have hie : i = x.args.length:=by omega
    subst hie
    simp [varsL] at hinv
    simp [hinv]
    exact subP.refl _
  ·rw [if_neg hop] at hs1
   refine V.for' [2,14,15] (fun p=>[(16,.dat (.int .i64 (p.1 : Nat)))]) (fun p=>(4,.box b4 [.fn 297 [] [.ptr 3 b3 0,.ptr 4 b4 0]]) :: (3,.box b3 [.fn f first caps]) :: rt 1000 (Hc p.2))
    (fun p : Nat × σ=>p.1 ≤ x.args.length ∧ (varsL (x.args.drop p.1)).foldl step p.2 = (varsE x).foldl step s) (fun p=>x.args.length - p.1) (0,s1) ⟨by simp [he],by simp,by rw [hs1]; exact subP.refl _⟩ ?_
   rintro ⟨i,s2⟩ ⟨hi,hinv⟩
   simp only at hi hinv
   have hlen:=hx.len
   by_cases hlt : i < x.args.length
   ·obtain ⟨y,hy1⟩ : ∃ y,x.args[i]'hlt = y:=⟨_,rfl⟩
    have hmem : y ∈ x.args:=by rw [← hy1]; exact List.getElem_mem hlt
    rw [List.drop_eq_getElem_cons hlt,hy1,varsL,List.foldl_append] at hinv
    simp [hlt,hy1,encE_eq]
    intro b
    have ih:=visitV_s (b3:=b3) (b4:=b4) (Hc:=Hc) (step:=step) (f:=f) (first:=first) (caps:=caps) N y (by have:=Expr.lt_of_mem hmem; omega) (hx.args y hmem) s2 (fun s n hn=>hf s n (by rw [varsE_eq]; exact List.mem_append.2 (.inr (varsL_mem hn hmem))))
    refine ih.c1.mono ?_
    rintro r H' ⟨H2,rfl,rfl⟩
    simp
    exact ⟨by omega,i + 1,_,⟨hlt,hinv⟩,by omega,by simp,(subP.refl _).c _⟩
   ·have hie : i = x.args.length:=by omega
    subst hie
    simp [varsL] at hinv
    simp [hinv]
    exact subP.refl _
theorem each_s {σ : Type} {f : FuncId} {first caps : List A} {Hc : σ → Heap} {step : σ → Int → σ} (x : Expr) (hx : OkE x) (s : σ) (hf : ∀ s,∀ n ∈ varsE x,CallS Tryz.prog f (first ++ aI n :: caps) (Hc s) fun _ H'=>H' = Hc (step s n)) :
  CallS Tryz.prog 259 [aE x,.fn f first caps] (Hc s) fun _ H'=>H' = Hc ((varsE x).foldl step s):=by
 refine CallS.rt (k:=1000) (CallS.dropP (callS_of Tryz.func259 rfl Tryz.ntmps259 (rs:=[]) rfl (by kernel_rfl) (by simp) (by kernel_rfl) (K:=fun _ H'=>subP (rt 1000 (Hc ((varsE x).foldl step s))) H') ?_) ?_)
 ·simp
  intro b3 b4
  refine (visitV_s (SizeOf.sizeOf x + 1) x (by omega) hx s hf).mono ?_
  rintro r H' rfl
  simp
  exact ((subP.refl _).c _).c _
 ·rintro r H' h
  exact ⟨_,h,_,rfl,rfl⟩
end Go.Proofs.YtpadinblmjlggaaGreatDoor
end

section
namespace Go.Proofs.YtpadinblmjlggaaGreatDoor
set_option maxHeartbeats 2000000
set_option maxRecDepth 10000
def kindAt (c : Control) (k : Int) : Int:=((c.signals[k.toNat]?).map (·.kind)).getD 0
def lateStep (c : Control) (i : Int) (late : Bool) (line : Int) : Bool:=late || (decide (i ≤ line - firstC c) && kindAt c (line - firstC c) == 0)
def lateC (c : Control) (i : Int) (x : Expr) : Bool:=(varsE x).foldl (lateStep c i) false
theorem gate1_s (b r b2 b5 b6 : Nat) (c : Control) (h : Sm c) (s5 : List A) (i : Int) (h0 : 0 ≤ i ∧ i < c.signals.length) (late : Bool) (line : Int) (hl : 0 ≤ line ∧ line < countC c) :
  CallS Tryz.prog 260 [aI line,.ptr 2 b2 0,.ptr 6 b6 0,.rptr [.int .i64 i]] [(6,.box b6 [.dat (.bool late)]),(5,.box b5 s5),(2,.box b2 [.ptr 32 b 0]),chkBox b r c]
   fun _ H'=>H' = [(6,.box b6 [.dat (.bool (lateStep c i late line))]),(5,.box b5 s5),(2,.box b2 [.ptr 32 b 0]),chkBox b r c]:=by
 have hs:=h
 obtain ⟨g1,g2,g3⟩:=h
 have hcn : countC c = firstC c + c.signals.length:=rfl
 have hfc : firstC c = 2 * c.actuators + c.inputs.length:=rfl
 refine CallS.dropP (callS_of Tryz.func260 rfl Tryz.ntmps260 (rs:=[]) rfl (by kernel_rfl) (by simp) (by kernel_rfl) (K:=fun _ H'=>subP [(6,.box b6 [.dat (.bool (lateStep c i late line))]),(5,.box b5 s5),(2,.box b2 [.ptr 32 b 0]),chkBox b r c] H') ?_) (fun _ _ h=>⟨_,h,rfl⟩)
 simp
 refine (first_fn c hs).s ?_
 simp
 refine ⟨by omega,?_⟩
 obtain ⟨y,hy⟩ : ∃ y,c.signals[(line - firstC c).toNat]? = some y:=⟨_,List.getElem?_eq_getElem (by omega)⟩
 by_cases hk : i ≤ line - firstC c
 ·simp [hk,hy]
  refine ⟨fun h=>⟨h,by omega,by omega⟩,?_⟩
  have e : lateStep c i late line = (late || y.kind == 0):=by simp [lateStep,hk,kindAt,hy]
  rw [e]
  exact subP.refl _
 ·simp [hk,hy]
  have e : lateStep c i late line = late:=by simp [lateStep,hk]
  rw [e]
  exact subP.refl _
abbrev sigA (s : Signal) : List A:=[.dat (.str s.name),.dat (.int .i64 s.kind),.dat (.int .i64 s.on.op),.dat (.int .i64 s.on.index),.dat (.sl (s.on.args.map encE)),.dat (.int .i64 s.off.op),.dat (.int .i64 s.off.index),.dat (.sl (s.off.args.map encE)),.dat (.int .i64 s.delay),.dat (.bool s.init)]
def gateE (c : Control) (i : Int) (s : Signal) : Int:=if lateC c i s.on then 9 else if !zeroE s.off || s.init || s.delay != 0 then 3 else 0
def memE (c : Control) (s : Signal) : Int:=if checkE s.off (countC c) ≠ 0 then checkE s.off (countC c) else if s.delay ≠ 0 then 3 else 0
def timE (s : Signal) : Int:=if s.delay < 1 ∨ s.delay > 1000000 then 2 else if !zeroE s.off || s.init then 3 else 0
theorem gate_s (b r : Nat) (c : Control) (h : Sm c) (i : Nat) (s : Signal) (hi : c.signals[i]? = some s) (hx : OkS s) (hv : ∀ n ∈ varsE s.on,0 ≤ n ∧ n < countC c) : CallS Tryz.prog 211 [.ptr 32 b 0,aI i] [chkBox b r c] fun rr H'=>rr = aI (gateE c i s) ∧ H' = [chkBox b r c]:=by
 have hs:=h
 obtain ⟨g1,g2,g3⟩:=h
 obtain ⟨hlt,hy1⟩:=List.getElem?_eq_some_iff.1 hi
 refine CallS.dropP (callS_of Tryz.func211 rfl Tryz.ntmps211 (rs:=[.tmp 4]) rfl (by kernel_rfl) (by simp) (by kernel_rfl) (K:=fun rr H'=>rr = aI (gateE c i s) ∧ subP [chkBox b r c] H') ?_) (fun _ _ h=>⟨_,h.2,h.1,rfl⟩)
 simp
 intro b2
 refine V.draw (fun _=>none) (by kernel_rfl) (by kernel_rfl) (by simp) ?_
 simp [hy1,hlt]
 intro b5 b6
 refine (each_s (σ:=Bool) (f:=260) (first:=[]) (caps:=[.ptr 2 b2 0,.ptr 6 b6 0,.rptr [.int .i64 i]]) (Hc:=fun late=>[(6,.box b6 [.dat (.bool late)]),(5,.box b5 (sigA s)),(2,.box b2 [.ptr 32 b 0]),chkBox b r c]) (step:=lateStep c i) s.on hx.on false (fun late n hn=>by simpa using gate1_s b r b2 b5 b6 c hs (sigA s) i ⟨by omega,by omega⟩ late n (hv n hn))).mono ?_
 rintro rr H' rfl
 simp
 have e : lateC c i s.on = (varsE s.on).foldl (lateStep c i) false:=rfl
 rw [← e]
 cases hlate : lateC c i s.on
 ·simp
  refine (zero_fn s.off).s ?_
  simp [gateE,hlate]
  have hsub : subP [chkBox b r c] [(6,.box b6 [.dat (.bool false)]),(5,.box b5 (sigA s)),(2,.box b2 [.ptr 32 b 0]),chkBox b r c]:=(((subP.refl _).c _).c _).c _
  refine ⟨fun h=>⟨fun h1 h2 h3=>?_,hsub⟩,fun h1 h2 h3=>⟨⟨⟨h1,h2⟩,h3⟩,hsub⟩⟩
  rcases h with (h | h) | h <;> simp_all
 ·simp [gateE,hlate]
  exact (((subP.refl _).c _).c _).c _
theorem memory_s (b r : Nat) (c : Control) (h : Sm c) (i : Nat) (s : Signal) (hi : c.signals[i]? = some s) (hx : OkS s) : CallS Tryz.prog 212 [.ptr 32 b 0,aI i] [chkBox b r c] fun rr H'=>rr = aI (memE c s) ∧ H' = [chkBox b r c]:=by
 obtain ⟨hlt,hy1⟩:=List.getElem?_eq_some_iff.1 hi
 refine CallS.dropP (callS_of Tryz.func212 rfl Tryz.ntmps212 (rs:=[.tmp 4]) rfl (by kernel_rfl) (by simp) (by kernel_rfl) (K:=fun rr H'=>rr = aI (memE c s) ∧ subP [chkBox b r c] H') ?_) (fun _ _ h=>⟨_,h.2,h.1,rfl⟩)
 simp
 refine V.draw (fun t=>if t = 19 then some (.fn (aI (countC c))) else if t = 20 then some (.fn (aI (checkE s.off (countC c)))) else none) (by kernel_rfl) (by kernel_rfl) (by simp) ?_
 have e1:=count_c c h
 have e2:=check_fn s.off hx.off (countC c)
 simp [hy1,hlt] at e1 e2 ⊢
 refine ⟨e1,e2,fun hc=>?_,fun hc=>⟨fun hd=>?_,fun hd=>?_⟩⟩
 ·simp [memE,hc,subP.refl]
 ·simp [memE,hc,hd,subP.refl]
 ·simp [memE,hc,hd,subP.refl]
theorem timer_s (b r : Nat) (c : Control) (i : Nat) (s : Signal) (hi : c.signals[i]? = some s) (hx : OkS s) : CallS Tryz.prog 213 [.ptr 32 b 0,aI i] [chkBox b r c] fun rr H'=>rr = aI (timE s) ∧ H' = [chkBox b r c]:=by
 obtain ⟨hlt,hy1⟩:=List.getElem?_eq_some_iff.1 hi
 refine CallS.dropP (callS_of Tryz.func213 rfl Tryz.ntmps213 (rs:=[.tmp 4]) rfl (by kernel_rfl) (by simp) (by kernel_rfl) (K:=fun rr H'=>rr = aI (timE s) ∧ subP [chkBox b r c] H') ?_) (fun _ _ h=>⟨_,h.2,h.1,rfl⟩)
 simp [hy1,hlt]
 intro b5
 have hsub : ∀ l,subP [chkBox b r c] [(5,.box b5 l),chkBox b r c]:=fun l=>(subP.refl _).c _
 refine ⟨fun hd=>?_,fun h1 h2=>?_⟩
 ·simp [timE,hsub]
  omega
 ·refine (zero_fn s.off).s ?_
  cases hz : zeroE s.off <;> cases hi2 : s.init <;> simp [timE,hz,hi2,hsub] <;> omega
def signalE (c : Control) (i : Int) (s : Signal) (names : List (List UInt8)) : Int:=
 if nameE s.name names ≠ 0 then nameE s.name names
 else if s.kind < 0 ∨ s.kind ≥ 3 then 1
 else if checkE s.on (countC c) ≠ 0 then checkE s.on (countC c)
 else if s.kind = 0 then gateE c i s else if s.kind = 1 then memE c s else timE s
theorem signal_s (b r : Nat) (c : Control) (h : Sm c) (i : Nat) (s : Signal) (hi : c.signals[i]? = some s) (hx : OkS s) (names : List (List UInt8)) (hn : names.length ≤ 1000000) (hv : checkE s.on (countC c) = 0 → ∀ n ∈ varsE s.on,0 ≤ n ∧ n < countC c) :
  CallS Tryz.prog 216 [.ptr 32 b 0,aI i] [chkBox b r c,chkMap r names] fun rr H'=>rr = aI (signalE c i s names) ∧ H' = [chkBox b r c,chkMap r (if nameE s.name names = 0 then names ++ [s.name] else names)]:=by
 obtain ⟨hlt,hy1⟩:=List.getElem?_eq_some_iff.1 hi
 refine CallS.dropP (callS_of Tryz.func216 rfl Tryz.ntmps216 (rs:=[.tmp 4]) rfl (by kernel_rfl) (by simp) (by kernel_rfl) (K:=fun rr H'=>rr = aI (signalE c i s names) ∧ subP [chkBox b r c,chkMap r (if nameE s.name names = 0 then names ++ [s.name] else names)] H') ?_) (fun _ _ h=>⟨_,h.2,h.1,rfl⟩)
 simp [hy1,hlt]
 intro b5
 refine (cname_s b r c s.name hx.name names hn).c1.mono ?_
 rintro rr H' ⟨_,⟨rfl,rfl⟩,rfl⟩
 by_cases hne : nameE s.name names = 0
 ·have hsub : ∀ l,subP [chkBox b r c,chkMap r (names ++ [s.name])] [(5,.box b5 l),chkBox b r c,chkMap r (names ++ [s.name])]:=fun l=>(subP.refl _).c _
  simp [hne]
  refine ⟨fun hk=>?_,fun hk0 hk3=>?_⟩
  ·simp [signalE,hne,hsub]
   omega
  ·refine V.draw (fun t=>if t = 37 then some (.fn (aI (countC c))) else if t = 38 then some (.fn (aI (checkE s.on (countC c)))) else none) (by kernel_rfl) (by kernel_rfl) (by simp) ?_
   have e1:=count_c c h
   have e2:=check_fn s.on hx.on (countC c)
   simp at e1 e2 ⊢
   refine ⟨e1,e2,fun hc=>?_,fun hc=>?_⟩
   ·simp [signalE,hne,hc,hsub,Int.not_lt.2 hk0]
    omega
   ·obtain hk | hk | hk : s.kind = 0 ∨ s.kind = 1 ∨ s.kind = 2:=by omega
    ·have e : signalE c i s names = gateE c i s:=by simp [signalE,hne,hc,hk]
     refine V.draw (fun t=>if t = 50 then some (.ro (aI (signalE c i s names))) else none) (by kernel_rfl) (by kernel_rfl) (by simp) ?_
     simp [hk,hsub]
     rw [e]
     exact ⟨gate_s b r c h i s hi hx (hv hc),by rw [if_pos hne]; exact hsub _⟩
    ·have e : signalE c i s names = memE c s:=by simp [signalE,hne,hc,hk]
     refine V.draw (fun t=>if t = 50 then some (.ro (aI (signalE c i s names))) else none) (by kernel_rfl) (by kernel_rfl) (by simp) ?_
     simp [hk,hsub]
     rw [e]
     exact ⟨memory_s b r c h i s hi hx,by rw [if_pos hne]; exact hsub _⟩
    ·have e : signalE c i s names = timE s:=by simp [signalE,hne,hc,hk]
     refine V.draw (fun t=>if t = 50 then some (.ro (aI (signalE c i s names))) else none) (by kernel_rfl) (by kernel_rfl) (by simp) ?_
     simp [hk,hsub]
     rw [e]
     exact ⟨timer_s b r c i s hi hx,by rw [if_pos hne]; exact hsub _⟩
 ·have hsub : ∀ l,subP [chkBox b r c,chkMap r names] [(5,.box b5 l),chkBox b r c,chkMap r names]:=fun l=>(subP.refl _).c _
  simp [hne,signalE,hsub]
end Go.Proofs.YtpadinblmjlggaaGreatDoor
end

section
namespace Go.Proofs.YtpadinblmjlggaaGreatDoor
set_option maxHeartbeats 2000000
set_option maxRecDepth 10000
theorem grow_o (n : Int) (h0 : 0 ≤ n) (h1 : n ≤ 4294967296) : CallOwn Tryz.prog 265 [.nils,aI n] 3 1 []:=by
 refine callO_of Tryz.func265 rfl Tryz.ntmps265 (rs:=[.tmp 4]) rfl (by kernel_rfl) (by simp) (by kernel_rfl) ?_
 by_cases hn : 0 < n
 ·simp [hn,Int.not_lt.2 h0]
  omega
 ·have e : n = 0:=by omega
  subst e
  simp
def sumL (xss : List (List Int)) : Nat:=(xss.map List.length).sum
theorem concat_o (xss : List (List Int)) (h : sumL xss ≤ 4294967296) (h1 : xss.length ≤ 4294967296) : CallOwn Tryz.prog 217 [.dat (.sl (xss.map fun xs=>[.sl (xs.map encI)]))] 3 1 (xss.flatten.map rI):=by
 refine callO_of Tryz.func217 rfl Tryz.ntmps217 (rs:=[.tmp 2]) rfl (by kernel_rfl) (by simp) (by kernel_rfl) ?_
 have hle : ∀ i,(xss.take i).flatten.length ≤ sumL xss:=by
  intro i
  have e : xss = xss.take i ++ xss.drop i:=(List.take_append_drop i xss).symm
  have : sumL xss = sumL (xss.take i) + sumL (xss.drop i):=by
   unfold sumL
   conv=>lhs; rw [e]
   rw [List.map_append,List.sum_append]
  rw [List.length_flatten]
  unfold sumL at this ⊢
  omega
 have hst : ∀ i y,xss[i]? = some y → (xss.take (i + 1)).flatten = (xss.take i).flatten ++ y:=by
  intro i y hy
  rw [List.take_add_one,hy]
  simp
 obtain ⟨L,hL⟩ : ∃ L : Nat → Nat,∀ i,L i = (xss.take i).flatten.length:=⟨_,fun _=>rfl⟩
 have hL0 : L 0 = 0:=by simp [hL]
 have hLs : ∀ i y,xss[i]? = some y → L (i + 1) = L i + y.length:=by
  intro i y hy
  rw [hL,hL,hst i y hy,List.length_append]
 have hLm : ∀ i,L i ≤ sumL xss:=fun i=>by rw [hL]; exact hle i
 simp
 refine V.forI (σ:=Unit) xss.length [0,2,9,10] (by simp; exact rfl) (fun i _=>[(11,aI i),(3,aI (L i))]) (fun _ _=>[]) (fun _ _=>True) () (by simp) (by simp [hL0]) ⟨by simp; exact rfl,by simp⟩ ?_ ?_
 ·rintro i - hi -
  have hy:=List.getElem?_eq_getElem hi
  have hs:=hLs i _ hy
  have hl:=hLm (i + 1)
  simp [hi,hs]
  omega
 ·rintro - -
  have hl:=hLm xss.length
  simp
  refine (grow_o _ (by omega) (by omega)).s 50 ?_
  intro hd
  simp
  refine V.forL (γ:=Value) xss [2,25,26] (by simp; exact rfl) (fun i _ g=>[(27,aI i),(6,.own 50 g)]) (fun i _ g=>[(50,.seq g 3 1 ((xss.take i).flatten.map rI))]) (fun (_ : Unit) (_ : List Int)=>(Except.ok () : Except Unit Unit)) (fun _ _=>True) () hd trivial (by simp) ⟨by simp; exact rfl,by simp⟩ ?_ ?_
  ·rintro i - g y hi hy - -
   have hy' : xss[i]? = some y:=by rw [List.getElem?_eq_getElem hi,hy]
   have hs:=hst i _ hy'
   have hl2:=hle (i + 1)
   rw [hs,List.length_append] at hl2
   rw [hs]
   generalize (xss.take i).flatten = zs at hl2
   simp [hi,hy]
   omega
  ·rintro - g - -
   simp
theorem rowsD_I (xs : List Int) : rowsD (xs.map rI) = xs.map encI:=by unfold rowsD; rw [List.map_map]; rfl
theorem rowsD_B (xs : List Bool) : rowsD (xs.map rB) = xs.map encB:=by unfold rowsD; rw [List.map_map]; rfl
theorem allD_I (xs : List Int) : allD (xs.map rI) = true:=by simp [allD,isD]
theorem allD_B (xs : List Bool) : allD (xs.map rB) = true:=by simp [allD,isD]
attribute [simp] rowsD_I rowsD_B allD_I allD_B
theorem concat_fn (xss : List (List Int)) (h : sumL xss ≤ 4294967296) (h1 : xss.length ≤ 4294967296) : CallFn Tryz.prog 217 [.dat (.sl (xss.map fun xs=>[.sl (xs.map encI)]))] (aIs xss.flatten):=by
 have:=(concat_o xss h h1).fn (by simp [allD,isD])
 rwa [rowsD_I] at this
def firstErr {ι : Type} (f : ι → Int) : List ι → Int
 | []=>0
 | x :: xs=>if f x ≠ 0 then f x else firstErr f xs
def NoE (f : Nat → Int) (n : Nat) : Prop:=∀ j,j < n → f j = 0
theorem NoE.zero (f : Nat → Int) : NoE f 0:=fun j h=>absurd h (Nat.not_lt_zero j)
theorem NoE.succ {f : Nat → Int} {n : Nat} (h : NoE f n) (e : f n = 0) : NoE f (n + 1):=fun j hj=>by
 rcases Nat.lt_or_ge j n with h1 | h1
 ·exact h j h1
 ·obtain rfl : j = n:=by omega
  exact e
theorem firstErr_app {ι : Type} (f : ι → Int) : ∀ (l r : List ι),(∀ x ∈ l,f x = 0) → firstErr f (l ++ r) = firstErr f r
 | [],_,_=>rfl
 | x :: l,r,h=>by
  simp only [List.cons_append,firstErr,h x (by simp),ne_eq,not_true_eq_false,if_false]
  exact firstErr_app f l r fun y hy=>h y (by simp [hy])
theorem firstErr_at {f : Nat → Int} {n i : Nat} (h : NoE f i) (hi : i < n) (e : f i ≠ 0) : firstErr f (List.range n) = f i:=by
 have e1 : List.range n = List.range i ++ (i :: (List.range n).drop (i + 1)):=by
  have h1:=List.take_append_drop i (List.range n)
  rw [List.take_range,Nat.min_eq_left (by omega)] at h1
  rw [← h1]
  congr 1
  rw [h1,List.drop_eq_getElem_cons (by simpa using hi)]
  simp
 rw [e1,firstErr_app f _ _ (fun x hx=>h x (by simpa using hx))]
 simp [firstErr,e]
theorem firstErr_all {f : Nat → Int} {n : Nat} (h : NoE f n) : firstErr f (List.range n) = 0:=by
 have:=firstErr_app f (List.range n) [] (fun x hx=>h x (by simpa using hx))
 simpa [firstErr] using this
theorem firstErr_zero {f : Nat → Int} : ∀ {n : Nat},firstErr f (List.range n) = 0 → NoE f n:=by
 intro n h j hj
 by_cases hz : f j = 0
 ·exact hz
 ·-- the least index with an error
  have hex : ∃ k,k ≤ j ∧ f k ≠ 0 ∧ NoE f k:=by
   clear h hj n
   induction j using Nat.strongRecOn with
   | ind j ih=>
    by_cases hn : NoE f j
    ·exact ⟨j,Nat.le_refl _,hz,hn⟩
    ·simp only [NoE,Classical.not_forall] at hn
     obtain ⟨m,hm,hmz⟩:=hn
     obtain ⟨k,h1,h2,h3⟩:=ih m hm hmz
     exact ⟨k,by omega,h2,h3⟩
  obtain ⟨k,h1,h2,h3⟩:=hex
  rw [firstErr_at h3 (by omega) h2] at h
  exact absurd h h2
def namesB (c : Control) (n : Nat) : List (List UInt8):=(List.range n).map fun k : Nat=>namedC c k
theorem namesB_succ (c : Control) (n : Nat) : namesB c (n + 1) = namesB c n ++ [namedC c n]:=by simp [namesB,List.range_succ]
@[simp] theorem namesB_length (c : Control) (n : Nat) : (namesB c n).length = n:=by simp [namesB]
def inpE (c : Control) (i : Nat) : Int:=nameE (namedC c (2 * c.actuators.toNat + i : Nat)) (namesB c (2 * c.actuators.toNat + i))
def sigE (c : Control) (i : Nat) : Int:=match c.signals[i]? with
 | some s=>signalE c i s (namesB c (2 * c.actuators.toNat + c.inputs.length + i))
 | none=>0
def pilotE (c : Control) : Int:=
 if (c.plus.length : Int) ≠ c.actuators ∨ (c.minus.length : Int) ≠ c.actuators then 8
 else if (c.plus ++ c.minus).any (fun l=>decide (l < 0) || decide (countC c ≤ l)) then 6 else 0
def checkC (c : Control) : Int:=
 if c.actuators < 1 ∨ c.actuators > 6 then 2
 else if c.inputs.length > 16 ∨ c.signals.length > 64 then 5
 else if firstErr (inpE c) (List.range c.inputs.length) ≠ 0 then firstErr (inpE c) (List.range c.inputs.length)
 else if firstErr (sigE c) (List.range c.signals.length) ≠ 0 then firstErr (sigE c) (List.range c.signals.length)
 else pilotE c
theorem lineName_eq (k : Nat) (hk : k < 12) : lineName k = [UInt8.ofNat (97 + k / 2),UInt8.ofNat (48 + k % 2)]:=by
 unfold lineName
 have ed : Int.tdiv (k : Int) 2 = ((k / 2 : Nat) : Int):=by rw [Int.tdiv_eq_ediv_of_nonneg (by omega)]; rfl
 have em : Int.tmod (k : Int) 2 = ((k % 2 : Nat) : Int):=by rw [Int.tmod_eq_emod_of_nonneg (by omega)]; rfl
 rw [ed,em,encU_ascii (by omega) (by omega),encU_ascii (by omega) (by omega)]
 simp only [List.singleton_append,List.cons.injEq,and_true]
 constructor <;> congr 1
theorem lineName_inj {j k : Nat} (hj : j < 12) (hk : k < 12) (h : lineName j = lineName k) : j = k:=by
 rw [lineName_eq j hj,lineName_eq k hk] at h
 simp only [List.cons.injEq,and_true] at h
 obtain ⟨h1,h2⟩:=h
 have e1:=congrArg UInt8.toNat h1
 have e2:=congrArg UInt8.toNat h2
 simp only [UInt8.toNat_ofNat'] at e1 e2
 omega
theorem named_line {c : Control} {k : Nat} (h : (k : Int) < 2 * c.actuators) : namedC c k = lineName k:=by
 unfold namedC; rw [if_pos h]
theorem closure1_fn (c : Control) (h : Sm c) (n : Int) : CallFn Tryz.prog 218 [aI n,.rptr (encC c)] (aB (decide (n < 0) || decide (countC c ≤ n))):=by
 refine callFz_of Tryz.func218 rfl Tryz.ntmps218 (rs:=[.tmp 3]) rfl (by kernel_rfl) (by simp) (by kernel_rfl) ?_
 simp
 refine GCall.fn (aI (countC c)) (fun hn=>⟨by omega,count_c c h⟩) ?_
 simp
end Go.Proofs.YtpadinblmjlggaaGreatDoor
end

section
namespace Go.Proofs.YtpadinblmjlggaaGreatDoor
set_option maxHeartbeats 4000000
set_option maxRecDepth 10000
theorem vars_right {n : Int} : ∀ (N : Nat) (x : Expr),SizeOf.sizeOf x < N → RightE n x → ∀ k ∈ varsE x,0 ≤ k ∧ k < n
 | 0,_,h,_,_,_=>absurd h (Nat.not_lt_zero _)
 | N + 1,x,hN,hr,k,hk=>by
  rw [varsE_eq] at hk
  rcases List.mem_append.1 hk with hk | hk
  ·split at hk
   ·rename_i hop
    simp only [List.mem_singleton] at hk
    subst hk
    have:=hr.node
    unfold nodeR at this
    simp only [hop] at this
    split at this <;> try omega
    split at this <;> try omega
    simp at this
    omega
   ·simp at hk
  ·have hL : ∀ l : List Expr,(∀ y ∈ l,y ∈ x.args) → k ∈ varsL l → 0 ≤ k ∧ k < n:=by
    intro l
    induction l with
    | nil=>intro _ h; simp [varsL] at h
    | cons y l ih=>
     intro hl h
     simp only [varsL,List.mem_append] at h
     rcases h with h | h
     ·have hm:=hl y (by simp)
      exact vars_right N y (by have:=Expr.lt_of_mem hm; omega) (hr.args y hm) k h
     ·exact ih (fun z hz=>hl z (by simp [hz])) h
   exact hL x.args (fun _ h=>h) hk
theorem vars_check {x : Expr} {n : Int} (h : checkE x n = 0) : ∀ k ∈ varsE x,0 ≤ k ∧ k < n:=vars_right (SizeOf.sizeOf x + 1) x (by omega) (right_of_check h).1
theorem line_notin {c : Control} {k : Nat} (h : (k : Int) < 2 * c.actuators) (ha : c.actuators ≤ 6) : namedC c k ∉ namesB c k:=by
 intro hm
 obtain ⟨j,hj,e⟩:=List.mem_map.1 hm
 simp only [List.mem_range] at hj
 rw [named_line (c:=c) (k:=j) (by omega),named_line h] at e
 have:=lineName_inj (by omega) (by omega) e
 omega
theorem check_s (c : Control) (hc : OkC c) : CallS Tryz.prog 147 [aC c] [] fun r H'=>(checkC c = 0 → ∃ m,r = .tuple [.map 30 m,aI 0] ∧ H' = [chkMap m (namesB c (countC c).toNat)]) ∧ (checkC c ≠ 0 → r = .tuple [.any,aI (checkC c)] ∧ H' = []):=by
 refine CallS.dropP (callS_of Tryz.func147 rfl Tryz.ntmps147 (rs:=[.tmp 2,.tmp 3]) rfl (by kernel_rfl) (by simp) (by kernel_rfl) (K:=fun r H'=>(checkC c = 0 → ∃ m,r = .tuple [.map 30 m,aI 0] ∧ subP [chkMap m (namesB c (countC c).toNat)] H') ∧ (checkC c ≠ 0 → r = .tuple [.any,aI (checkC c)])) ?_) ?_
 ·by_cases ha : c.actuators < 1 ∨ c.actuators > 6
  ·have e : checkC c = 2:=by simp [checkC,ha]
   rw [e]
   simp
   intro h1 h2
   omega
  ·have ha' : 1 ≤ c.actuators ∧ c.actuators ≤ 6 ∧ ¬ c.actuators < 1 ∧ ¬ 6 < c.actuators:=by omega
   by_cases hm : c.inputs.length > 16 ∨ c.signals.length > 64
   ·have e : checkC c = 5:=by simp only [checkC]; rw [if_neg ha,if_pos hm]
    rw [e]
    simp [ha'.1,ha'.2]
    intro h1 h2
    omega
   ·have hsm : Sm c:=⟨by omega,by omega,by omega⟩
    obtain ⟨N,hN⟩ : ∃ N : Nat,c.actuators = N:=⟨c.actuators.toNat,by omega⟩
    have hNN : c.actuators.toNat = N:=by omega
    have hm' : (c.inputs.length : Int) ≤ 16 ∧ (c.signals.length : Int) ≤ 64 ∧ ¬ 16 < (c.inputs.length : Int) ∧ ¬ 64 < (c.signals.length : Int):=by omega
    have hcn : countC c = 2 * c.actuators + c.inputs.length + c.signals.length:=rfl
    have e : checkC c = if firstErr (inpE c) (List.range c.inputs.length) ≠ 0 then firstErr (inpE c) (List.range c.inputs.length)
      else if firstErr (sigE c) (List.range c.signals.length) ≠ 0 then firstErr (sigE c) (List.range c.signals.length) else pilotE c:=by
     simp only [checkC]; rw [if_neg ha,if_neg hm]
    simp [ha'.1,ha'.2,hm'.1,hm'.2]
    intro m b
    refine ⟨by omega,?_⟩
    refine V.forI (σ:=Unit) (2 * N) [1,2,3,4,45] (by simp; exact rfl) (fun i _=>[(46,aI i)]) (fun i _=>[chkMap m (namesB c i)]) (fun _ _=>True) () trivial (by simp) ⟨by simp; exact rfl,by simp [namesB,mapOf]⟩ ?_ ?_
    ·rintro i - hi -
     have hin : (i : Int) < 2 * c.actuators:=by omega
     simp [hin]
     refine V.draw (fun t=>if t = 55 then some (.fn (aT (namedC c i))) else none) (by kernel_rfl) (by kernel_rfl) (by simp) ?_
     have e1:=named_fn c hsm ⟨by omega,by omega⟩ i (by omega) (by omega)
     have e2:=mput_of (line_notin (c:=c) (k:=i) hin (by omega))
     simp at e1 e2 ⊢
     rw [e2,← namesB_succ]
     exact ⟨e1,by omega,rfl⟩
    ·rintro - -
     have hin : ¬ ((N : Int) < c.actuators) ∧ c.actuators ≤ N:=by omega
     simp [hin.1,hin.2]
     refine V.forI (σ:=Unit) c.inputs.length [1,4,59,60] (by simp; exact rfl) (fun i _=>[(61,aI i)]) (fun i _=>[chkMap m (namesB c (2 * N + i))]) (fun i _=>NoE (inpE c) i) () (NoE.zero _) (by simp) ⟨by simp; exact rfl,by simp⟩ ?_ ?_
     ·rintro i - hi hI
      obtain ⟨y,hy⟩ : ∃ y,c.inputs[i] = y:=⟨_,rfl⟩
      have hn : namedC c (2 * N + i : Nat) = y:=by
       refine named_inp (by omega) (by simp only [firstC]; omega) ?_
       rw [← hy,show ((2 * N + i : Nat) - 2 * c.actuators : Int).toNat = i by omega]
       exact List.getElem?_eq_getElem hi
      have hin : inpE c i = nameE y (namesB c (2 * N + i)):=by rw [inpE,hNN,hn]
      simp [hi,hy]
      refine ((cname_s b m c y (hc.names y (hy ▸ List.getElem_mem hi)) (namesB c (2 * N + i)) (by simp; omega)).perm (List.Perm.swap _ _ _)).mono ?_
      rintro rr H' ⟨rfl,rfl⟩
      rw [← hin]
      by_cases hz : inpE c i = 0
      ·have hs:=namesB_succ c (2 * N + i)
       rw [hn] at hs
       simp [hz]
       exact ⟨by omega,hI.succ hz,by rw [← hs]; rfl⟩
      ·have hf:=firstErr_at hI hi hz
       have e' : checkC c = inpE c i:=by rw [e,hf,if_pos hz]
       simp [hz,e']
     ·rintro - hI
      have hf:=firstErr_all hI
      rw [hf] at e
      simp at e
      simp
      refine V.forI (σ:=Unit) c.signals.length [1,4,74] (by simp; exact rfl) (fun i _=>[(75,aI i)]) (fun i _=>[chkMap m (namesB c (2 * N + c.inputs.length + i))]) (fun i _=>NoE (sigE c) i) () (NoE.zero _) (by simp) ⟨by simp; exact rfl,by simp⟩ ?_ ?_
      ·rintro i - hi hI2
       obtain ⟨y,hy⟩ : ∃ y,c.signals[i] = y:=⟨_,rfl⟩
       have hyo : c.signals[i]? = some y:=by rw [List.getElem?_eq_getElem hi,hy]
       have hn : namedC c (2 * N + c.inputs.length + i : Nat) = y.name:=by
        refine named_sig (s:=y) (by simp only [firstC]; omega) (by simp only [firstC]; omega) ?_
        rw [show ((2 * N + c.inputs.length + i : Nat) - firstC c : Int).toNat = i by simp only [firstC]; omega]
        exact hyo
       have hsE : sigE c i = signalE c i y (namesB c (2 * N + c.inputs.length + i)):=by simp only [sigE,hyo,hNN]
       simp [hi]
       refine ((signal_s b m c hsm i y hyo (hc.sigs y (hy ▸ List.getElem_mem hi)) (namesB c (2 * N + c.inputs.length + i)) (by simp; omega) (fun h=>vars_check h)).perm (List.Perm.swap _ _ _)).mono ?_
       rintro rr H' ⟨rfl,rfl⟩
       rw [← hsE]
       by_cases hz : sigE c i = 0
       ·have hs:=namesB_succ c (2 * N + c.inputs.length + i)
        rw [hn] at hs
        have hne : nameE y.name (namesB c (2 * N + c.inputs.length + i)) = 0:=by
         rw [hsE] at hz
         by_cases h0 : nameE y.name (namesB c (2 * N + c.inputs.length + i)) = 0
         ·exact h0
         ·simp [signalE,h0] at hz
        simp [hz,hne]
        exact ⟨by omega,hI2.succ hz,by rw [← hs]; rfl⟩
       ·have hf:=firstErr_at hI2 hi hz
        have e' : checkC c = sigE c i:=by rw [e,hf,if_neg hz]
        simp [hz,e']
      ·rintro - hI2
       have hf:=firstErr_all hI2
       rw [hf] at e
       simp at e
       by_cases hpl : (c.plus.length : Int) ≠ c.actuators ∨ (c.minus.length : Int) ≠ c.actuators
       ·have e' : checkC c = 8:=by rw [e,pilotE,if_pos hpl]
        rw [e']
        simp
        intro h1 h2
        omega
       ·have h1 : (c.plus.length : Int) = c.actuators:=by omega
        have h2 : (c.minus.length : Int) = c.actuators:=by omega
        have e' : checkC c = if (c.plus ++ c.minus).any (fun l=>decide (l < 0) || decide (countC c ≤ l)) then 6 else 0:=by rw [e,pilotE,if_neg hpl]
        have hcc:=concat_fn [c.plus,c.minus] (by simp [sumL]; omega) (by simp)
        simp at hcc
        simp [h1,h2]
        refine hcc.s ?_
        simp
        refine (containsF_fn (c.plus ++ c.minus) (fun l=>decide (l < 0) || decide (countC c ≤ l)) 218 [] [.rptr (encC c)] (by simp; omega) (fun n _=>by simpa using closure1_fn c hsm n)).s ?_
        cases hany : (c.plus ++ c.minus).any (fun l=>decide (l < 0) || decide (countC c ≤ l))
        ·rw [hany] at e'
         simp at e'
         rw [e']
         simp
         rw [show (countC c).toNat = 2 * N + c.inputs.length + c.signals.length by omega]
         exact ⟨_,List.singleton_sublist.2 (List.mem_cons_self),List.Perm.refl _⟩
        ·rw [hany] at e'
         simp at e'
         rw [e']
         simp
 ·rintro r H' ⟨h1,h2⟩
  by_cases hz : checkC c = 0
  ·obtain ⟨m,e1,e2⟩:=h1 hz
   exact ⟨_,e2,fun _=>⟨m,e1,rfl⟩,fun h=>absurd hz h⟩
  ·exact ⟨[],⟨[],List.nil_sublist _,List.Perm.refl _⟩,fun h=>absurd h hz,fun _=>⟨h2 hz,rfl⟩⟩
theorem Check_fn (c : Control) (hc : OkC c) : CallFn Tryz.prog 88 [aC c] (aI (checkC c)):=by
 refine callFz_of Tryz.func88 rfl Tryz.ntmps88 (rs:=[.tmp 2]) rfl (by kernel_rfl) (by simp) (by kernel_rfl) ?_
 simp
 refine (CallS.frame (H1:=[]) (check_s c hc)).mono ?_
 rintro r H' ⟨H2,⟨h1,h2⟩,rfl⟩
 by_cases hz : checkC c = 0
 ·obtain ⟨m,rfl,rfl⟩:=h1 hz
  simp [hz]
 ·obtain ⟨rfl,rfl⟩:=h2 hz
  simp
end Go.Proofs.YtpadinblmjlggaaGreatDoor
end

section
namespace Go.Proofs.YtpadinblmjlggaaGreatDoor
set_option maxHeartbeats 8000000
set_option maxRecDepth 10000
structure PlS.Srt (s : PlS) (c : Cir) : Prop where
 ok : s.OK
 ps : s.ps = c.parts
 ns : s.ns = netsZ c
 dr : s.dr = .dat (.sl ((drvN c.parts (netsZ c) c.parts.length).map encDr))
 od : s.od = aNs (orderN c.parts (drvN c.parts (netsZ c) c.parts.length) (netsZ c) (manyC c.parts (netsZ c)))
 bu : s.bu = .nils
 va : s.va = .nils
 lE : s.lE = []
theorem sorted_s (c : Cir) (hs : c.parts.length ≤ 64 → ∀ p ∈ c.parts,p.name.length ≤ 1000) (hl : Sh c.parts) (hl2 : Sh c.pipes) :
  CallS Tryz.prog 85 [aCi c] [] fun r H'=>if pairE c = 0 then ∃ s : PlS,r = .tuple [.ptr 170 s.b 0,aI (sortE c.parts (drvN c.parts (netsZ c) c.parts.length) (netsZ c))] ∧ H' = s.hp ∧ s.Srt c else r = .tuple [.nilp,aI (pairE c)] ∧ H' = []:=by
 have hp:=paired_s c hs hl hl2
 by_cases h0 : pairE c = 0
 ·simp only [h0,if_true] at hp ⊢
  have hd0 : cirE c = 0:=by
   unfold pairE at h0
   split at h0
   ·exact h0
   ·rename_i h; exact Classical.not_not.1 h
  have hr:=cirR_of hd0
  have hdl : (drvN c.parts (netsZ c) c.parts.length).length ≤ 1000:=by
   have:=drvN_len c.parts (netsZ c) c.parts.length
   have:=hr.few
   omega
  refine callS_of Tryz.func85 rfl Tryz.ntmps85 (rs:=[.tmp 2,.tmp 3]) rfl (by kernel_rfl) (by simp) (by kernel_rfl) ?_
  simp
  refine hp.mono ?_
  rintro r H' ⟨s,rfl,rfl,hs⟩
  have hso:=sort_s hs.ok hs.od hs.dr hdl
  simp
  refine hso.mono ?_
  rintro r H' ⟨rfl,rfl⟩
  simp
  exact ⟨{ s with od:=aNs (orderN s.ps (drvN c.parts (netsZ c) c.parts.length) s.ns (manyC s.ps s.ns)) },⟨rfl,by rw [hs.ps,hs.ns]⟩,⟨⟨rfl,rfl,rfl,rfl,rfl,rfl,rfl,rfl,rfl,rfl⟩,⟨rfl,rfl⟩,rfl,rfl⟩,
   ⟨hs.ok.od _,hs.ps,hs.ns,hs.dr,by show aNs _ = aNs _; rw [hs.ps,hs.ns],hs.bu,hs.va,hs.lE⟩⟩
 ·simp only [h0,if_false] at hp ⊢
  refine callS_of Tryz.func85 rfl Tryz.ntmps85 (rs:=[.tmp 2,.tmp 3]) rfl (by kernel_rfl) (by simp) (by kernel_rfl) ?_
  simp
  refine hp.mono ?_
  rintro r H' ⟨rfl,rfl⟩
  simp [h0]
def buildE (c : Cir) : Int:=if planE c ≠ 0 then planE c else checkC (planZ c).ctl
theorem planE_eq (c : Cir) : planE c = if pairE c ≠ 0 then pairE c else sortE c.parts (drvN c.parts (netsZ c) c.parts.length) (netsZ c):=by
 unfold planE pairE sortE
 by_cases h : cirE c = 0
 ·simp [h]
 ·simp [h]
theorem build_s (c : Cir) (hs : c.parts.length ≤ 64 → ∀ p ∈ c.parts,p.name.length ≤ 1000) (hl : Sh c.parts) (hl2 : Sh c.pipes) :
  CallS Tryz.prog 45 [aCi c] [] fun r H'=>if buildE c = 0 then ∃ s : PlS,r = .tuple [.ptr 170 s.b 0,aC (planZ c).ctl,aI 0] ∧ H' = s.hp ∧ s.At (planZ c) else r = .tuple [.nilp,aC ⟨0,[],[],[],[]⟩,aI (buildE c)] ∧ H' = []:=by
 have hp:=sorted_s c hs hl hl2
 by_cases h0 : pairE c = 0
 ·simp only [h0,if_true] at hp
  have hb : buildE c = if sortE c.parts (drvN c.parts (netsZ c) c.parts.length) (netsZ c) ≠ 0 then sortE c.parts (drvN c.parts (netsZ c) c.parts.length) (netsZ c) else checkC (planZ c).ctl:=by
   unfold buildE
   rw [planE_eq]
   simp [h0]
  have hd0 : cirE c = 0:=by
   unfold pairE at h0
   split at h0
   ·exact h0
   ·rename_i h; exact Classical.not_not.1 h
  have hde : drvE c.parts (netsZ c) = 0:=by
   unfold pairE at h0
   rw [if_neg (by simp [hd0])] at h0
   exact h0
  have hr:=cirR_of hd0
  have hB:=planZ_B hr
  have hD:=planZ_D hde
  have hch:=Check_fn (planZ c).ctl (hB.okC fun d hd=>(mem_drvN hde hd).2.2.2.1)
  rw [hb]
  generalize hso : sortE c.parts (drvN c.parts (netsZ c) c.parts.length) (netsZ c) = so at *
  refine CallS.dropP (callS_of Tryz.func45 rfl Tryz.ntmps45 (rs:=[.tmp 2,.cell 3 44,.tmp 4]) rfl (by kernel_rfl) (by simp) (by kernel_rfl) (K:=fun r H'=>if so = 0 ∧ checkC (planZ c).ctl = 0 then ∃ s : PlS,r = .tuple [.ptr 170 s.b 0,aC (planZ c).ctl,aI 0] ∧ subP s.hp H' ∧ s.At (planZ c) else r = .tuple [.nilp,aC ⟨0,[],[],[],[]⟩,aI (if so ≠ 0 then so else checkC (planZ c).ctl)]) ?_) ?_
  ·simp
   intro b3
   refine (hp.frameL (H1:=[(3,_)])).mono ?_
   rintro r H' ⟨_,⟨s,rfl,rfl,hs⟩,rfl⟩
   by_cases hz : so = 0
   ·subst hz
    simp
    have hpre : s.Pre (planZ c):=⟨hs.ok,hs.ps,hs.ns,hs.dr,hB.dl,fun d hd=>(mem_drvN hde hd).1,hs.od,hB.ol,hB.names,planZ_lim hr⟩
    refine ((place_s hpre hs.bu hs.va hs.lE).frameL (H1:=[(3,_)])).mono ?_
    rintro r H' ⟨_,⟨s2,rfl,rfl,hA,hbb⟩,rfl⟩
    rw [← hbb]
    simp
    refine ((control_s hA hD hB).mid [(3,_)] []).mono ?_
    rintro r H' ⟨rfl,rfl⟩
    generalize (planZ c).ctl = ct at *
    simp
    intro b7
    refine hch.s ?_
    by_cases hc0 : checkC ct = 0
    ·rw [hc0]
     simp
     refine V.drawX (fun _=>none) (by kernel_rfl) (by kernel_rfl) (by simp) ?_
     simp
     exact ⟨s2,rfl,((subP.refl _).c _).c _,hA⟩
    ·simp [hc0]
   ·simp [hz]
  ·rintro r H' hk
   by_cases hz : so = 0 ∧ checkC (planZ c).ctl = 0
   ·rw [if_pos hz] at hk
    obtain ⟨s,h1,h2,h3⟩:=hk
    refine ⟨_,h2,?_⟩
    rw [if_pos (by rw [if_neg (by simp [hz.1])]; exact hz.2)]
    exact ⟨s,h1,rfl,h3⟩
   ·rw [if_neg hz] at hk
    refine ⟨[],⟨[],List.nil_sublist _,List.Perm.refl _⟩,?_⟩
    have : ¬ (if so ≠ 0 then so else checkC (planZ c).ctl) = 0:=by
     by_cases e : so = 0
     ·simp only [e,ne_eq,not_true,if_false]
      exact fun h=>hz ⟨e,h⟩
     ·simp [e]
    rw [if_neg this]
    exact ⟨hk,rfl⟩
 ·simp only [h0,if_false] at hp
  have hb : buildE c = pairE c:=by
   unfold buildE
   rw [planE_eq]
   simp [h0]
  rw [hb]
  simp only [h0,if_false]
  refine CallS.dropP (callS_of Tryz.func45 rfl Tryz.ntmps45 (rs:=[.tmp 2,.cell 3 44,.tmp 4]) rfl (by kernel_rfl) (by simp) (by kernel_rfl) (K:=fun r H'=>r = .tuple [.nilp,aC ⟨0,[],[],[],[]⟩,aI (pairE c)]) ?_) (fun r H' h=>⟨[],⟨[],List.nil_sublist _,List.Perm.refl _⟩,h,rfl⟩)
  simp
  intro b3
  refine (hp.frameL (H1:=[(3,_)])).mono ?_
  rintro r H' ⟨_,⟨rfl,rfl⟩,rfl⟩
  simp [h0]
end Go.Proofs.YtpadinblmjlggaaGreatDoor
end
