/- Texts joined by a program: Qd,Qe,Qf,Ql,Qh,Qg,Qm. -/
import Derived.Test.YtpadinblmjlggaaGreatDoorP19
import Derived.Test.YtpadinblmjlggaaGreatDoorP13
import Derived.Test.YtpadinblmjlggaaGreatDoorP14
set_option linter.unusedSimpArgs false
set_option linter.unusedVariables false

section
namespace Go.Proofs.YtpadinblmjlggaaGreatDoor
set_option maxHeartbeats 8000000
set_option maxRecDepth 10000
theorem indices_o (n : Nat) (hn : n ≤ 1000) : CallOwn Tryz.prog 189 [aI n] 3 1 ((List.range n).map rN):=by
 refine callO_of Tryz.func189 rfl Tryz.ntmps189 (rs:=[.tmp 2]) rfl (by kernel_rfl) (by simp) (by kernel_rfl) ?_
 simp
 refine V.forI (σ:=Value) n [2,5] (by simp; exact rfl) (fun i g=>[(3,.own 50 g),(6,aI i)]) (fun i g=>[(50,.seq g 3 1 ((List.range i).map rN))]) (fun _ _=>True) (.slice none 0 0) trivial (by simp) ⟨by simp; exact rfl,by simp⟩ ?_ ?_
 ·rintro i g hi -
  simp [hi,List.range_succ]
  omega
 ·rintro g -
  simp
abbrev zN (l : List Nat) : List Int:=l.map fun n : Nat=>(n : Int)
theorem rN_zN (l : List Nat) : l.map rN = (zN l).map rI:=by unfold zN; rw [List.map_map]; rfl
theorem sort1_s {s : PlS} (h : s.OK) {i b1 : Nat} (hi : i < s.ns.length) : CallS Tryz.prog 201 [aI i,.ptr 1 b1 0] ((1,.box b1 [.ptr 170 s.b 0]) :: s.hp) fun r H'=>r = aB (!countsI s.ps s.ns i) ∧ H' = (1,.box b1 [.ptr 170 s.b 0]) :: s.hp:=by
 refine callS_of Tryz.func201 rfl Tryz.ntmps201 (rs:=[.tmp 3]) rfl (by kernel_rfl) (by simp) (by kernel_rfl) ?_
 simp
 refine ((counts_s h hi).mid [(1,_)] []).mono ?_
 rintro r H' ⟨rfl,rfl⟩
 simp
theorem PlS.OK.od {s : PlS} (h : s.OK) (a : A) : ({ s with od:=a } : PlS).OK:=⟨h.few,h.kinds,h.nets,h.net,h.of⟩
abbrev PlS.wo (s : PlS) (go : Value) : PlS:={ s with od:=.own 173 go }
theorem rest0 (ps : List Prt) (ns : List (List PortZ)) : List.map rI (List.filter (fun n=>!!countsI ps ns n.toNat) (zN (List.range ns.length))) = (restZ ps ns []).map rN:=by
 unfold zN restZ
 rw [List.filter_map,List.map_map]
 have e : ((fun n : Int=>!!countsI ps ns n.toNat) ∘ fun n : Nat=>(n : Int)) = fun i=>countsI ps ns i && !(List.any [] fun x=>i == x):=by
  funext i
  simp
 rw [e]
 rfl
theorem idxN (rest : List Nat) (p : Nat → Bool) : (zN rest).findIdx? (fun n=>p n.toNat) = rest.findIdx? p:=by
 unfold zN
 rw [List.findIdx?_map]
 congr 1
theorem sort_s0 {s : PlS} (h : s.OK) {d : List Drv} (hd : s.dr = .dat (.sl (d.map encDr))) (hdl : d.length ≤ 1000) :
  CallS Tryz.prog 139 [.ptr 170 s.b 0] ((s.wo (.slice none 0 0)).hp ++ [ordE (.slice none 0 0) []]) fun r H'=>
   ∃ go,r = aI (sortE s.ps d s.ns) ∧ H' = (s.wo go).hp ++ [ordE go (orderN s.ps d s.ns (manyC s.ps s.ns))]:=by
 have hn:=h.nets
 have hio:=indices_o s.ns.length (by omega)
 refine CallS.dropP (callS_of Tryz.func139 rfl Tryz.ntmps139 (rs:=[.tmp 2]) rfl (by kernel_rfl) (by simp) (by kernel_rfl) (K:=fun r H'=>∃ go,r = aI (sortE s.ps d s.ns) ∧ subP ((s.wo go).hp ++ [ordE go (orderN s.ps d s.ns (manyC s.ps s.ns))]) H') ?_) (fun _ _ ⟨go,h1,h2⟩=>⟨_,h2,go,h1,rfl⟩)
 simp
 intro b1
 refine hio.s 174 fun hd0=>?_
 simp
 have hdel:=delF_s (zN (List.range s.ns.length)) (fun n=>!countsI s.ps s.ns n.toNat) 201 [] [.ptr 1 b1 0] ((1,.box b1 [.ptr 170 s.b 0]) :: ((s.wo (.slice none 0 0)).hp ++ [ordE (.slice none 0 0) []])) hd0 (by unfold Sh zN; simp; omega) (fun n hn=>by
  obtain ⟨i,hi,rfl⟩:=List.mem_map.1 hn
  have:=(sort1_s (h.od (.own 173 (.slice none 0 0))) (b1:=b1) (List.mem_range.1 hi)).mid [] [ordE (.slice none 0 0) []]
  simp only [Int.toNat_natCast]
  exact this)
 rw [← rN_zN,rest0] at hdel
 refine hdel.mono ?_
 rintro _ _ ⟨_,rfl,hr0,rfl,rfl⟩
 simp
 refine V.for' [1] (fun q : Nat × Value × List Nat × Value × List Nat=>[(2,aI 0),(3,.own 174 q.2.2.2.1)]) (fun q=>(174,.seq q.2.2.2.1 3 1 (q.2.2.2.2.map rN)) :: (1,.box b1 [.ptr 170 s.b 0]) :: ((s.wo q.2.1).hp ++ [ordE q.2.1 q.2.2.1]))
  (fun q=>OrdI s.ps d s.ns q.1 q.2.2.1 q.2.2.2.2) (fun q=>q.2.2.2.2.length) (0,.slice none 0 0,[],hr0,restZ s.ps s.ns []) ⟨OrdI.zero _ _ _,by simp,subP.refl _⟩ ?_
 rintro ⟨n,go,order,hr,rest⟩ hI
 simp only at hI
 have hall:=hI.all
 have hmc : manyC s.ps s.ns ≤ 448:=by
  unfold manyC
  exact Nat.le_trans (Nat.le_trans (List.length_filter_le _ _) (by simp)) hn
 have hol:=hI.len
 by_cases hne : rest = []
 ·subst hne
  obtain ⟨e1,e2⟩:=hI.done
  rw [e1,e2]
  simp
  exact ⟨go,((subP.refl _).c _).c _⟩
 ·have hpos:=List.length_pos_iff.2 hne
  have hmem : ∀ i ∈ rest,i < s.ns.length:=fun i hi=>by
   rw [hI.rst] at hi
   exact List.mem_range.1 (List.mem_filter.1 hi).1
  have hix:=idxMo_s (zN rest) (fun n=>readyZ s.ps d s.ns order n.toNat) 203 [.ptr 170 s.b 0] [] ((1,.box b1 [.ptr 170 s.b 0]) :: ((s.wo go).hp ++ [ordE go order])) hr (by unfold Sh zN; simp; omega) (fun n hn=>by
   obtain ⟨i,hi,rfl⟩:=List.mem_map.1 hn
   have:=(ready_s (s:=s.wo go) (h.od _) hd hdl (order:=order) (go:=go) rfl (by omega) (hmem i hi)).mid [(1,.box b1 [.ptr 170 s.b 0])] []
   simp only [Int.toNat_natCast]
   exact this)
  rw [← rN_zN,idxN] at hix
  simp [hpos]
  refine hix.mono ?_
  rintro _ _ ⟨_,rfl,rfl,rfl⟩
  cases hk : rest.findIdx? (readyZ s.ps d s.ns order) with
  | none=>
   obtain ⟨e1,e2⟩:=hI.fail hne hk
   rw [e1,e2]
   simp [idxI]
   exact ⟨go,((subP.refl _).c _).c _⟩
  | some k=>
   obtain ⟨hkl,hI2⟩:=hI.next hk
   obtain ⟨a,ha⟩ : ∃ a,rest[k] = a:=⟨_,rfl⟩
   have hao : rest[k]? = some a:=by rw [List.getElem?_eq_getElem hkl,ha]
   rw [ha] at hI2
   simp
   refine ⟨fun hh=>by omega,?_⟩
   refine V.drawX (fun _=>none) (by kernel_rfl) (by kernel_rfl) (by simp) ?_
   simp [hkl,ha,hao]
   intro u
   have hdl2:=(deleteI_s (e:=3) (t:=174) (h:=hr) (zs:=zN rest) (i:=k) (j:=k + 1) (by omega) (by unfold zN; simp; omega) (by unfold zN; simp; omega)).frame (H1:=(1,.box b1 [.ptr 170 s.b 0]) :: ((s.wo u).hp ++ [(173,.seq u 3 1 (order.map rN ++ [[A.dat (.int .i64 (a : Int))]]))]))
   rw [← rN_zN,show ((k + 1 : Nat) : Int) = (k : Int) + 1 from by omega] at hdl2
   refine ⟨by omega,by kernel_rfl,by omega,hdl2.mono ?_⟩
   rintro r H' ⟨_,⟨h2,rfl,rfl⟩,rfl⟩
   have hrz : ∀ l : List Nat,l.map (rI ∘ fun n : Nat=>(n : Int)) = l.map rN:=fun l=>rfl
   simp [hrz]
   refine ⟨n + 1,u,order ++ [a],h2,rest.take k ++ rest.drop (k + 1),hI2,by simp; omega,rfl,?_⟩
   have ho2 : ordE u (order ++ [a]) = (173,Ent.seq u 3 1 (order.map rN ++ [[A.dat (.int .i64 (a : Int))]])):=by unfold ordE; rw [List.map_append]; rfl
   rw [ho2]
   simp
   exact subP.refl _
theorem sort_s {s : PlS} (h : s.OK) (ho : s.od = .nils) {d : List Drv} (hd : s.dr = .dat (.sl (d.map encDr))) (hdl : d.length ≤ 1000) :
  CallS Tryz.prog 139 [.ptr 170 s.b 0] s.hp fun r H'=>r = aI (sortE s.ps d s.ns) ∧ H' = ({ s with od:=aNs (orderN s.ps d s.ns (manyC s.ps s.ns)) } : PlS).hp:=by
 refine CallS.inv (H':=(s.wo (.slice none 0 0)).hp ++ [ordE (.slice none 0 0) []]) (fun x H0 hi=>?_) (fun x vs hv=>hv) ((sort_s0 h hd hdl).frzCell ?_)
 ·have h1 : Inv x ((173,.seq (.slice none 0 0) 3 1 []) :: ((s.wo (.slice none 0 0)).hp ++ H0)):=by
   refine Inv.nil ?_ ⟨rfl,rfl⟩
   refine Inv.swap (g:=170) (H:=s.hp) (e:=.box s.b s.cells) (e':=.box s.b (s.wo (.slice none 0 0)).cells) rfl (box_sat ?_) (fun b hb=>hb) hi
   unfold PlS.cells
   rw [ho]
   exact Ds_c D_i (Ds_c D_i (Ds_c D_i (Ds_c D_i (Ds_c D_i (Ds_c D_nilo Ds_i)))))
  refine h1.perm ?_
  rw [List.append_assoc]
  exact List.perm_middle
 ·rintro r H' ⟨go,rfl,rfl⟩
  refine ⟨170,173,s.b,5,173,go,3,1,(orderN s.ps d s.ns (manyC s.ps s.ns)).map rN,(s.wo go).cells,rfl,rfl,allD_n _,rfl,rfl,?_⟩
  rw [rowsD_n]
  rfl
end Go.Proofs.YtpadinblmjlggaaGreatDoor
end

section
namespace Go.Proofs.YtpadinblmjlggaaGreatDoor
set_option maxHeartbeats 8000000
set_option maxRecDepth 10000
theorem variable_fn (n : Int) : CallFn Tryz.prog 210 [aI n] (aE (varE n)):=by
 refine callFz_of Tryz.func210 rfl Tryz.ntmps210 (rs:=[.cell 2 98]) rfl (by kernel_rfl) (by simp) (by kernel_rfl) ?_
 simp [varE,encE_eq]
theorem opposite_fn (x : Expr) : CallFn Tryz.prog 146 [aE x] (aE (notE x)):=by
 obtain ⟨o,n,l⟩:=x
 refine callFz_of Tryz.func146 rfl Tryz.ntmps146 (rs:=[.cell 2 98]) rfl (by kernel_rfl) (by simp) (by kernel_rfl) ?_
 simp [notE,encE_eq]
theorem several_fn (op : Int) (l : List Expr) (hl : l.length ≤ 4294967296) : CallFn Tryz.prog 209 [aI op,.dat (.sl (l.map encE))] (aE (sevE op l)):=by
 refine callFz_of Tryz.func209 rfl Tryz.ntmps209 (rs:=[.cell 4 98]) rfl (by kernel_rfl) (by simp) (by kernel_rfl) ?_
 cases l with
 | nil=>simp [sevE,nulE,encE_eq]
 | cons x l=>
  cases l with
  | nil=>
   obtain ⟨o,n,l⟩:=x
   simp [sevE,encE_eq]
  | cons y l=>
   simp [sevE,encE_eq]
   exact ⟨by omega,fun _ h=>by omega⟩
structure PlS.At (s : PlS) (p : Pln) : Prop where
 ok : s.OK
 ps : s.ps = p.ps
 ns : s.ns = p.nets
 dr : s.dr = .dat (.sl (p.drives.map encDr))
 dl : p.drives.length ≤ 64
 od : s.od = aNs p.order
 ol : p.order.length ≤ 448
 bu : s.bu = aNs p.butt
 va : s.va = aNs p.valv
 line : ∀ i : Nat,mget s.lE (.int .i64 (i : Int)) = (p.line i).map fun n=>.int .i64 (n : Int)
theorem buttN_len (ps : List Prt) (n : Nat) : (buttN ps n).length ≤ n:=Nat.le_trans (List.length_filter_le _ _) (by simp)
theorem valvN_len (ps : List Prt) (d : List Drv) (n : Nat) : (valvN ps d n).length ≤ n:=Nat.le_trans (List.length_filter_le _ _) (by simp)
theorem PlS.At.pl {s : PlS} {p : Pln} (h : s.At p) : p.ps.length ≤ 64:=by rw [← h.ps]; exact h.ok.few
theorem PlS.At.bl {s : PlS} {p : Pln} (h : s.At p) : p.butt.length ≤ 64:=Nat.le_trans (buttN_len _ _) h.pl
theorem PlS.At.vl {s : PlS} {p : Pln} (h : s.At p) : p.valv.length ≤ 64:=Nat.le_trans (valvN_len _ _ _) h.pl
theorem first_s {s : PlS} {p : Pln} (h : s.At p) : CallS Tryz.prog 53 [.ptr 170 s.b 0] s.hp fun r H'=>r = aI p.first ∧ H' = s.hp:=by
 have h1:=h.dr
 have h2:=h.bu
 have h3:=h.dl
 have h4:=h.bl
 unfold Pln.first
 refine callS_of Tryz.func53 rfl Tryz.ntmps53 (rs:=[.tmp 2]) rfl (by kernel_rfl) (by simp) (by kernel_rfl) ?_
 simp
 refine V.drawX (fun _=>none) (by kernel_rfl) (by kernel_rfl) (by simp) ?_
 simp [h1,h2]
 omega
theorem idxN_fn (xs : List Nat) (n : Nat) (hx : Sh xs) : CallFn Tryz.prog 70 [aNs xs,aI n] (aI (idxI (xs.findIdx? (n == ·)))):=by
 have h:=idxI_fn (zN xs) n (by unfold Sh zN at *; simpa using hx)
 have e : (zN xs).findIdx? (fun m=>(n : Int) == m) = xs.findIdx? (n == ·):=by
  unfold zN
  rw [List.findIdx?_map]
  congr 1
  funext m
  simp only [Function.comp_apply]
  rw [Bool.eq_iff_iff]
  simp only [beq_iff_eq]
  omega
 rw [e,show aIs (zN xs) = aNs xs by unfold aIs aNs zN; rw [List.map_map]; rfl] at h
 exact h
def Pln.gateW (p : Pln) (w : Nat) : Expr:=match p.order.findIdx? (w == ·) with
 | some k=>varE (p.first + k : Nat)
 | none=>nulE
theorem Pln.gate_eq (p : Pln) (i : Nat) (t : List UInt8) : p.gate i t = p.gateW (netW p.nets ((i : Int),t)):=rfl
theorem netGate_s {s : PlS} {p : Pln} (h : s.At p) {i : Nat} {t : List UInt8} (ht : ((i : Int),t) ∈ allP p.ps) : CallS Tryz.prog 145 [.ptr 170 s.b 0,aI i,aT t] s.hp fun r H'=>r = aE (p.gate i t) ∧ H' = s.hp:=by
 rw [← h.ps] at ht
 obtain ⟨w1,w2⟩:=h.ok.of _ ht
 have hok:=okK_port (ps:=s.ps) (by have:=h.ok.few; omega) ht
 have h1:=h.od
 have h2:=h.ol
 have h3:=h.dl
 have h4:=h.bl
 have hx:=idxN_fn p.order (netW s.ns ((i : Int),t)) (by unfold Sh; omega)
 have hf:=first_s h
 rw [Pln.gate_eq,← h.ns]
 generalize netW s.ns ((i : Int),t) = w at *
 refine CallS.dropP (callS_of Tryz.func145 rfl Tryz.ntmps145 (rs:=[.cell 6 98]) rfl (by kernel_rfl) (by simp) (by kernel_rfl) (K:=fun r H'=>r = aE (p.gateW w) ∧ subP s.hp H') ?_) (fun _ _ ⟨h1,h2⟩=>⟨_,h2,h1,rfl⟩)
 simp
 intro b
 refine V.drawX (fun t=>if t = 20 then some (.fn (aI (idxI (p.order.findIdx? (w == ·))))) else none) (by kernel_rfl) (by kernel_rfl) (by simp) ?_
 simp [w1,h1]
 refine ⟨hok,hx,?_⟩
 cases hk : p.order.findIdx? (w == ·) with
 | none=>
  have e : p.gateW w = nulE:=by unfold Pln.gateW; rw [hk]
  rw [e]
  simp [idxI,nulE]
  exact (subP.refl _).c _
 | some k=>
  have e : p.gateW w = varE (p.first + k : Nat):=by unfold Pln.gateW; rw [hk]
  have hv:=variable_fn ((p.first : Int) + k)
  rw [e]
  obtain ⟨hkl,_⟩:=List.findIdx?_eq_some_iff_getElem.1 hk
  have hfb : p.first ≤ 200:=by unfold Pln.first; omega
  simp
  refine ⟨fun hh=>by omega,?_⟩
  refine (hf.mid [(6,_)] []).mono ?_
  rintro r H' ⟨rfl,rfl⟩
  simp
  refine ⟨by omega,hv.s ?_⟩
  simp [varE]
  exact (subP.refl _).c _
end Go.Proofs.YtpadinblmjlggaaGreatDoor
end

section
namespace Go.Proofs.YtpadinblmjlggaaGreatDoor
set_option maxHeartbeats 8000000
set_option maxRecDepth 10000
abbrev rE (x : Expr) : List A:=[.dat (.int .i64 x.op),.dat (.int .i64 x.index),.dat (.sl (x.args.map encE))]
theorem rowsD_E (xs : List Expr) : rowsD (xs.map rE) = xs.map encE:=by unfold rowsD; rw [List.map_map]; congr 1; funext x; simp [encE_eq]
theorem allD_E (xs : List Expr) : allD (xs.map rE) = true:=by simp [allD,isD]
attribute [simp] rowsD_E allD_E
theorem PlS.At.kind {s : PlS} {p : Pln} (h : s.At p) {i : Nat} (hi : i < p.ps.length) : CallS Tryz.prog 52 [.ptr 170 s.b 0,aI i] s.hp fun r H'=>r = aI (kindOf p.ps i) ∧ H' = s.hp:=by
 rw [← h.ps] at hi ⊢
 exact kind_s h.ok hi
theorem PlS.At.klt {s : PlS} {p : Pln} (h : s.At p) (i : Nat) : kindOf p.ps i < 14:=by rw [← h.ps]; exact h.ok.klt i
def Pln.posL (p : Pln) (g : Gift) : List Expr:=if 1 < manyK (kindOf p.ps g.part) then [if g.pos = 0 then notE (varE ((p.line g.part).getD 0 : Nat)) else varE ((p.line g.part).getD 0 : Nat)] else []
theorem mapE (l : List Expr) : List.map ((fun x=>List.map A.dat x) ∘ encE) l = l.map rE:=by
 congr 1
 funext x
 simp [encE_eq]
theorem term_c {s : PlS} {p : Pln} (g : Gift) (b4 : Nat) (u v : Value) (Ls Ms : List Expr) (hL : Ls.length ≤ 2) (hM : Ms.length ≤ 2) : V ⟨Tryz.prog,none,67⟩ (restC Tryz.f208 4)
  (hdE [(0,.ptr 170 s.b 0),(3,.rptr (encGf g)),(4,.ptr 4 b4 0),(5,.own 38 u),(6,.own 54 v)] []) ((54,.seq v 98 3 (Ms.map rE)) :: (38,.seq u 98 3 (Ls.map rE)) :: (4,.box b4 [aI 0,aI 0,.nils]) :: s.hp)
  (RetV Tryz.prog [.cell 4 98] fun r H'=>r = aE (sevE 3 (Ls ++ (if g.pass.all = true then Ms else [sevE 4 Ms]))) ∧ subP s.hp H'):=by
 have h4:=several_fn 4 Ms (by omega)
 have h3:=several_fn 3 (Ls ++ (if g.pass.all = true then Ms else [sevE 4 Ms])) (by split <;> simp <;> omega)
 refine V.rest rfl ?_
 refine V.frz1 (τ:=54) (h:=v) (e:=98) (sz:=3) (rows:=Ms.map rE) 6 rfl rfl (allD_E _) ?_
 rw [rowsD_E]
 refine V.of_vc ?_
 simp
 refine ⟨fun hall=>?_,fun hall=>?_⟩
 ·rw [if_neg (by simp [hall])] at h3 ⊢
  obtain ⟨x,hx⟩ : ∃ x,sevE 4 Ms = x:=⟨_,rfl⟩
  rw [hx] at h4 h3 ⊢
  refine h4.s ?_
  simp
  intro u'
  refine ⟨by omega,h3.give (Hc:=[(38,_)]) (Hr:=(4,.box b4 [aI 0,aI 0,.nils]) :: s.hp) rfl (by simp [frzs,frz,encE_eq]) ?_⟩
  simp
  exact (subP.refl _).c _
 ·rw [if_pos hall] at h3 ⊢
  intro u'
  rw [mapE]
  refine ⟨⟨?_,by omega⟩,h3.give (Hc:=[(38,_)]) (Hr:=(4,.box b4 [aI 0,aI 0,.nils]) :: s.hp) rfl (by simp [frzs,frz]) ?_⟩
  ·intro y hy
   obtain ⟨x,_,rfl⟩:=List.mem_map.1 hy
   simp [encE_eq]
  ·simp
   exact (subP.refl _).c _
theorem term_b {s : PlS} {p : Pln} (h : s.At p) {g : Gift} (hsl : g.pass.src.length ≤ 2) (hsrc : ∀ t ∈ g.pass.src,((g.part : Int),t) ∈ allP p.ps) (b4 : Nat) (u : Value) (Ls : List Expr) (hL : Ls.length ≤ 2) : V ⟨Tryz.prog,none,67⟩ (restC Tryz.f208 3)
  (hdE [(0,.ptr 170 s.b 0),(3,.rptr (encGf g)),(4,.ptr 4 b4 0),(5,.own 38 u),(6,.nils)] []) ((38,.seq u 98 3 (Ls.map rE)) :: (4,.box b4 [aI 0,aI 0,.nils]) :: s.hp)
  (RetV Tryz.prog [.cell 4 98] fun r H'=>r = aE (sevE 3 (Ls ++ (if g.pass.all = true then g.pass.src.map (p.gate g.part) else [sevE 4 (g.pass.src.map (p.gate g.part))]))) ∧ subP s.hp H'):=by
 have hgt:=fun t ht=>netGate_s h (i:=g.part) (t:=t) (hsrc t ht)
 refine V.rest rfl ?_
 refine V.of_vcN 1 ?_
 simp
 refine V.forI (σ:=Value) g.pass.src.length [0,3,4,5,41,42] (by simp; exact rfl) (fun i v=>[(6,.own 54 v),(43,aI i)]) (fun i v=>(54,.seq v 98 3 (((g.pass.src.take i).map (p.gate g.part)).map rE)) :: (38,.seq u 98 3 (Ls.map rE)) :: (4,.box b4 [aI 0,aI 0,.nils]) :: s.hp) (fun _ _=>True) (.slice none 0 0) trivial (by simp) ⟨by simp; exact rfl,by simp⟩ ?_ ?_
 ·rintro i v hi -
  obtain ⟨t,ht⟩ : ∃ t,g.pass.src[i] = t:=⟨_,rfl⟩
  have hto : g.pass.src[i]? = some t:=by rw [List.getElem?_eq_getElem hi,ht]
  have hg:=hgt t (List.mem_of_getElem? hto)
  rw [List.take_add_one,hto]
  have hW : (g.pass.src.take i).length ≤ 2:=by rw [List.length_take]; omega
  generalize g.pass.src.take i = W at *
  simp [hi,ht,hto]
  refine (hg.mid [(54,_),(38,_),(4,_)] []).mono ?_
  rintro r H' ⟨rfl,rfl⟩
  simp
  exact ⟨by omega,by omega⟩
 ·rintro v -
  rw [List.take_length]
  simp
  refine V.cutV (Hs:=(54,.seq v 98 3 ((g.pass.src.map (p.gate g.part)).map rE)) :: (38,.seq u 98 3 (Ls.map rE)) :: (4,.box b4 [aI 0,aI 0,.nils]) :: s.hp) [(0,.ptr 170 s.b 0),(3,.rptr (encGf g)),(4,.ptr 4 b4 0),(5,.own 38 u),(6,.own 54 v)] (by simp) (by simp) ?_
  exact V.of_rest rfl (term_c (p:=p) g b4 u v Ls (g.pass.src.map (p.gate g.part)) hL (by simpa using hsl))
theorem term_s {s : PlS} {p : Pln} (h : s.At p) {g : Gift} (hg : g.part < p.ps.length) (hsl : g.pass.src.length ≤ 2) (hsrc : ∀ t ∈ g.pass.src,((g.part : Int),t) ∈ allP p.ps) :
  CallS Tryz.prog 208 [.ptr 170 s.b 0,.record (encGf g)] s.hp fun r H'=>r = aE (p.term g) ∧ H' = s.hp:=by
 have hk:=h.kind hg
 have hpo:=Positions_k (kindOf p.ps g.part) (h.klt g.part)
 have hln:=h.line g.part
 have ht : p.term g = sevE 3 (p.posL g ++ (if g.pass.all = true then g.pass.src.map (p.gate g.part) else [sevE 4 (g.pass.src.map (p.gate g.part))])):=rfl
 rw [ht]
 have hrest:=fun b4 u Ls hL=>term_b h hsl hsrc b4 u Ls hL
 refine CallS.dropP (callS_cut 3 Tryz.func208 rfl Tryz.ntmps208 (rs:=[.cell 4 98]) rfl (by kernel_rfl) (by simp) (by kernel_rfl) (K:=fun r H'=>r = aE (sevE 3 (p.posL g ++ (if g.pass.all = true then g.pass.src.map (p.gate g.part) else [sevE 4 (g.pass.src.map (p.gate g.part))]))) ∧ subP s.hp H') ?_) (fun _ _ ⟨h1,h2⟩=>⟨_,h2,h1,rfl⟩)
 generalize (if g.pass.all = true then g.pass.src.map (p.gate g.part) else [sevE 4 (g.pass.src.map (p.gate g.part))]) = T at hrest ⊢
 simp
 intro b4
 refine (hk.mid [(4,_)] []).mono ?_
 rintro r H' ⟨rfl,rfl⟩
 simp
 refine hpo.s ?_
 simp
 refine ⟨fun hm=>?_,fun hm=>?_⟩
 ·have hp : p.posL g = [if g.pos = 0 then notE (varE ((p.line g.part).getD 0 : Nat)) else varE ((p.line g.part).getD 0 : Nat)]:=by
   unfold Pln.posL
   rw [if_pos (by omega)]
  obtain ⟨x,hx⟩ : ∃ x,varE ((p.line g.part).getD 0 : Nat) = x:=⟨_,rfl⟩
  have hv:=variable_fn ((p.line g.part).getD 0 : Nat)
  have hop:=opposite_fn x
  rw [hx] at hp hv
  refine V.drawX (fun t=>if t = 29 then some (.fn (aE x)) else none) (by kernel_rfl) (by kernel_rfl) (by simp) ?_
  simp [hln]
  refine ⟨?_,fun b9=>⟨by kernel_rfl,fun h0=>?_,fun h0=>?_⟩⟩
  ·cases hq : p.line g.part <;> rw [hq] at hv <;> simpa using hv
  ·refine hop.s ?_
   rw [hp,if_pos h0]
   obtain ⟨y,hy⟩ : ∃ y,notE x = y:=⟨_,rfl⟩
   rw [hy]
   simp
   intro u
   exact V.cutV (Hs:=(38,.seq u 98 3 ([y].map rE)) :: (4,.box b4 [aI 0,aI 0,.nils]) :: s.hp) [(0,.ptr 170 s.b 0),(3,.rptr (encGf g)),(4,.ptr 4 b4 0),(5,.own 38 u),(6,.nils)] (by simp) (by simp) (V.of_rest rfl (hrest b4 u [y] (by simp)))
  ·rw [hp,if_neg h0]
   simp
   intro u
   exact V.cutV (Hs:=(38,.seq u 98 3 ([x].map rE)) :: (4,.box b4 [aI 0,aI 0,.nils]) :: s.hp) [(0,.ptr 170 s.b 0),(3,.rptr (encGf g)),(4,.ptr 4 b4 0),(5,.own 38 u),(6,.nils)] (by simp) (by simp) (V.of_rest rfl (hrest b4 u [x] (by simp)))
 ·have hp : p.posL g = []:=by
   unfold Pln.posL
   rw [if_neg (by omega)]
  rw [hp]
  exact V.cutV (Hs:=(38,.seq (.slice none 0 0) 98 3 (([] : List Expr).map rE)) :: (4,.box b4 [aI 0,aI 0,.nils]) :: s.hp) [(0,.ptr 170 s.b 0),(3,.rptr (encGf g)),(4,.ptr 4 b4 0),(5,.own 38 (.slice none 0 0)),(6,.nils)] (by simp) (by simp) (V.of_rest rfl (hrest b4 (.slice none 0 0) [] (by simp)))
end Go.Proofs.YtpadinblmjlggaaGreatDoor
end

section
namespace Go.Proofs.YtpadinblmjlggaaGreatDoor
set_option maxHeartbeats 4000000
theorem allN_nodup (ps : List Prt) (n : Nat) : (allN ps n).Nodup:=(allN_sorted ps n).imp fun {a b} h e=>by
 subst e
 have:=beforeZ_tot.irr a
 rw [h] at this
 cases this
def rootsZ (c : Cir) : List PortZ:=(allP c.parts).filter fun r=>rootF c.pipes r == r
theorem netsZ_eq (c : Cir) : netsZ c = (rootsZ c).map fun r=>(allP c.parts).filter fun q=>rootF c.pipes q == r:=rfl
theorem netsZ_at {c : Cir} {i : Nat} {l : List PortZ} (h : (netsZ c)[i]? = some l) : ∃ r,(rootsZ c)[i]? = some r ∧ l = (allP c.parts).filter fun q=>rootF c.pipes q == r:=by
 rw [netsZ_eq,List.getElem?_map] at h
 cases hr : (rootsZ c)[i]? with
 | none=>rw [hr] at h; simp at h
 | some r=>
  rw [hr] at h
  simp only [Option.map_some,Option.some.injEq] at h
  exact ⟨r,rfl,h.symm⟩
theorem netsZ_few {c : Cir} (h : CirR c) : (netsZ c).length ≤ 448:=by
 rw [netsZ_eq,List.length_map]
 have h1 : (rootsZ c).length ≤ (allP c.parts).length:=List.length_filter_le _ _
 have h2:=allN_len c.parts c.parts.length
 have h3:=h.few
 unfold allP at h1
 omega
theorem netsZ_net {c : Cir} (h : CirR c) : ∀ l ∈ netsZ c,l.length ≤ 448 ∧ l ≠ [] ∧ ∀ p ∈ l,p ∈ allP c.parts:=by
 intro l hl
 obtain ⟨i,hi,e⟩:=List.getElem_of_mem hl
 obtain ⟨r,hr,rfl⟩:=netsZ_at (c:=c) (i:=i) (l:=l) (by rw [List.getElem?_eq_getElem hi,e])
 have hr2:=List.mem_of_getElem? hr
 unfold rootsZ at hr2
 rw [List.mem_filter] at hr2
 refine ⟨?_,List.ne_nil_of_mem (a:=r) (List.mem_filter.2 hr2),fun p hp=>(List.mem_filter.1 hp).1⟩
 have h1 : ((allP c.parts).filter fun q=>rootF c.pipes q == r).length ≤ (allP c.parts).length:=List.length_filter_le _ _
 have h2:=allN_len c.parts c.parts.length
 have h3:=h.few
 unfold allP at h1 ⊢
 omega
theorem netsZ_same {c : Cir} {i j : Nat} {l m : List PortZ} {p : PortZ} (hi : (netsZ c)[i]? = some l) (hj : (netsZ c)[j]? = some m) (hp : p ∈ l) (hq : p ∈ m) : i = j:=by
 obtain ⟨r,hr,rfl⟩:=netsZ_at hi
 obtain ⟨t,ht,rfl⟩:=netsZ_at hj
 have e1:=(List.mem_filter.1 hp).2
 have e2:=(List.mem_filter.1 hq).2
 simp only [beq_iff_eq] at e1 e2
 rw [← e1,e2] at hr
 have hn : (rootsZ c).Nodup:=List.Nodup.sublist List.filter_sublist (allN_nodup _ _)
 obtain ⟨h1,h2⟩:=List.getElem?_eq_some_iff.1 hr
 obtain ⟨h3,h4⟩:=List.getElem?_eq_some_iff.1 ht
 exact (List.getElem_inj hn).1 (h2.trans h4.symm)
theorem netW_at {c : Cir} {i : Nat} {l : List PortZ} {p : PortZ} (hi : (netsZ c)[i]? = some l) (hp : p ∈ l) : netW (netsZ c) p = i:=by
 obtain ⟨h1,h2⟩:=List.getElem?_eq_some_iff.1 hi
 unfold netW
 rw [List.findIdx_eq h1]
 refine ⟨by rw [h2]; simpa using hp,fun j hj=>?_⟩
 cases e : ((netsZ c)[j]).any (p == ·) with
 | false=>rfl
 | true=>
  have hm : p ∈ (netsZ c)[j]:=by simpa using e
  have:=netsZ_same (c:=c) (i:=j) (j:=i) (l:=(netsZ c)[j]) (m:=l) (List.getElem?_eq_getElem (by omega)) hi hm hp
  omega
theorem netW_some {c : Cir} (h : CirR c) {p : PortZ} (hp : p ∈ allP c.parts) : ∃ l,(netsZ c)[netW (netsZ c) p]? = some l ∧ p ∈ l:=by
 have hr:=(root_all h).1 hp
 have hm : rootF c.pipes p ∈ rootsZ c:=by
  unfold rootsZ
  rw [List.mem_filter]
  exact ⟨hr,by simp [(rootF_ok c.pipes).idem]⟩
 obtain ⟨i,hi,e⟩:=List.getElem_of_mem hm
 have h1 : (netsZ c)[i]? = some ((allP c.parts).filter fun q=>rootF c.pipes q == rootF c.pipes p):=by
  rw [netsZ_eq,List.getElem?_map,List.getElem?_eq_getElem hi,e]
  rfl
 have h2 : p ∈ (allP c.parts).filter fun q=>rootF c.pipes q == rootF c.pipes p:=List.mem_filter.2 ⟨hp,by simp⟩
 refine ⟨_,?_,h2⟩
 rw [netW_at h1 h2]
 exact h1
def OfD (ns : List (List PortZ)) (i j : Nat) (E : List (KeyK × List L)) : Prop:=∀ (a : Nat) (l : List PortZ) (p : PortZ),ns[a]? = some l → (a < i ∧ p ∈ l) ∨ (a = i ∧ p ∈ l.take j) → kget E p = some [.int .i64 (a : Int)]
theorem OfD.zero (ns : List (List PortZ)) : OfD ns 0 0 []:=fun a l p _ h=>by
 rcases h with ⟨h,_⟩ | ⟨_,h⟩
 ·omega
 ·simp at h
theorem OfD.next {ns : List (List PortZ)} {i : Nat} {l : List PortZ} {E : List (KeyK × List L)} (h : OfD ns i l.length E) (hl : ns[i]? = some l) : OfD ns (i + 1) 0 E:=fun a m p hm hp=>by
 rcases hp with ⟨h1,h2⟩ | ⟨_,h2⟩
 ·by_cases e : a = i
  ·subst e
   rw [hl] at hm
   cases hm
   exact h a l p hl (.inr ⟨rfl,by rw [List.take_length]; exact h2⟩)
  ·exact h a m p hm (.inl ⟨by omega,h2⟩)
 ·simp at h2
theorem OfD.put {c : Cir} {i j : Nat} {l : List PortZ} {x : PortZ} {E : List (KeyK × List L)} (h : OfD (netsZ c) i j E) (hl : (netsZ c)[i]? = some l) (hx : l[j]? = some x) : OfD (netsZ c) i (j + 1) (kput E x [.int .i64 (i : Int)]):=fun a m p hm hp=>by
 have hpm : p ∈ m:=by
  rcases hp with ⟨_,h2⟩ | ⟨_,h2⟩
  ·exact h2
  ·exact List.mem_of_mem_take h2
 rw [kget_put]
 by_cases e : x = p
 ·subst e
  rw [if_pos rfl,netsZ_same hm hl hpm (List.mem_of_getElem? hx)]
 ·rw [if_neg e]
  refine h a m p hm ?_
  rcases hp with h1 | ⟨rfl,h2⟩
  ·exact .inl h1
  ·rw [hl] at hm
   cases hm
   rw [List.take_add_one,hx] at h2
   refine .inr ⟨rfl,?_⟩
   simp only [Option.toList_some,List.mem_append,List.mem_singleton] at h2
   rcases h2 with h2 | h2
   ·exact h2
   ·exact absurd h2.symm e
theorem OfD.all {c : Cir} (hr : CirR c) {E : List (KeyK × List L)} (h : OfD (netsZ c) (netsZ c).length 0 E) : ∀ p ∈ allP c.parts,kget E p = some [.int .i64 (netW (netsZ c) p : Nat)] ∧ netW (netsZ c) p < (netsZ c).length:=fun p hp=>by
 obtain ⟨l,h1,h2⟩:=netW_some hr hp
 have h3:=(List.getElem?_eq_some_iff.1 h1).1
 exact ⟨h _ l p h1 (.inl ⟨h3,h2⟩),h3⟩
theorem part_kind {p : Prt} (h : partE p = 0) : 0 ≤ p.kind ∧ p.kind < 14:=by
 unfold partE at h
 by_cases h1 : 0 ≤ p.kind ∧ p.kind < 14
 ·exact h1
 ·rw [if_pos h1] at h
  simp at h
theorem cylsN_succ (ps : List Prt) (n : Nat) : cylsN ps (n + 1) = cylsN ps n ++ (if kindOf ps n = 1 then [n] else []):=by
 unfold cylsN
 rw [List.range_succ,List.filter_append]
 by_cases h : kindOf ps n = 1 <;> simp [h]
theorem drvN_succ (ps : List Prt) (ns : List (List PortZ)) (n : Nat) : drvN ps ns (n + 1) = drvN ps ns n ++ (if kindOf ps n = 1 then [(n,(valveZ ps ns n).getD 0)] else []):=by
 unfold drvN
 rw [cylsN_succ,List.map_append]
 by_cases h : kindOf ps n = 1 <;> simp [h]
theorem drvN_len (ps : List Prt) (ns : List (List PortZ)) (n : Nat) : (drvN ps ns n).length ≤ n:=by
 unfold drvN cylsN
 rw [List.length_map]
 exact Nat.le_trans (List.length_filter_le _ _) (by simp)
theorem drvE_bad {ps : List Prt} {ns : List (List PortZ)} {i : Nat} (hi : i < ps.length) (hk : kindOf ps i = 1) (hv : valveZ ps ns i = none) : drvE ps ns = 14:=by
 unfold drvE
 rw [if_pos]
 rw [List.any_eq_true]
 refine ⟨i,?_,by rw [hv]; rfl⟩
 unfold cylsN
 rw [List.mem_filter]
 exact ⟨List.mem_range.2 hi,by simp [hk]⟩
theorem drvE_end {ps : List Prt} {ns : List (List PortZ)} (h : ∀ i,i < ps.length → kindOf ps i = 1 → (valveZ ps ns i).isSome = true) : drvE ps ns = if drvN ps ns ps.length = [] then 13 else 0:=by
 unfold drvE
 rw [if_neg]
 ·unfold drvN
  by_cases e : cylsN ps ps.length = []
  ·rw [if_pos e,e]
   simp
  ·rw [if_neg e,if_neg (by simpa using e)]
 ·rw [List.any_eq_true]
  rintro ⟨i,hi,hn⟩
  unfold cylsN at hi
  rw [List.mem_filter] at hi
  have:=h i (List.mem_range.1 hi.1) (by simpa using hi.2)
  rw [Option.isSome_iff_ne_none] at this
  exact this (by simpa using hn)
end Go.Proofs.YtpadinblmjlggaaGreatDoor
end

section
namespace Go.Proofs.YtpadinblmjlggaaGreatDoor
set_option maxHeartbeats 4000000
theorem mget_putI {α : Type} (a b : Int) (v : α) : ∀ es : List (L × α),mget (mput es (.int .i64 a) v) (.int .i64 b) = if a = b then some v else mget es (.int .i64 b)
 | []=>by simp [mput,mget,leq]
 | (k,u) :: r=>by
  have ih:=mget_putI a b v r
  simp only [mput]
  by_cases h : leq k (.int .i64 a) = true
  ·rw [if_pos h]
   cases k <;> simp [leq] at h
   obtain ⟨rfl,rfl⟩:=h
   simp only [mget,leq]
   rename_i z
   by_cases e : z = b <;> simp [e]
  ·rw [if_neg h]
   simp only [mget]
   rw [ih]
   by_cases e : a = b
   ·subst e
    rw [if_neg h]
    simp
   ·rw [if_neg e,if_neg e]
def Pln.lineB (p : Pln) (i : Nat) : Option Nat:=match p.ps[i]? with
 | none=>none
 | some x=>
  if x.kind = 7 then some (2 * p.drives.length + p.butt.idxOf i)
  else if x.kind = 6 then some (2 * (p.drives.findIdx fun d=>(p.ps.getD d.1 x).name == x.name.dropLast) + (if x.name.getLast? = some 49 then 1 else 0))
  else none
theorem mem_valvN {ps : List Prt} {d : List Drv} {n i : Nat} : i ∈ valvN ps d n ↔ i < n ∧ plusK (kindOf ps i) ≠ [] ∧ drivenZ d i = none:=by
 unfold valvN
 simp [List.mem_filter]
theorem mem_buttN {ps : List Prt} {n i : Nat} : i ∈ buttN ps n ↔ i < n ∧ kindOf ps i = 7:=by
 unfold buttN
 simp [List.mem_filter]
theorem Pln.line_eq (p : Pln) (i : Nat) : p.line i = match p.lineB i with
  | some n=>some n
  | none=>if i ∈ p.valv then some (p.first + p.order.length + p.valv.idxOf i) else none:=by
 unfold Pln.line Pln.lineB
 cases h : p.ps[i]? with
 | none=>
  have hi : i ∉ p.valv:=fun hm=>by
   have:=(mem_valvN.1 hm).1
   rw [List.getElem?_eq_none_iff] at h
   omega
  simp [hi]
 | some x=>
  simp only
  by_cases h7 : x.kind = 7
  ·simp [h7]
  ·by_cases h6 : x.kind = 6
   ·simp [h6]
   ·simp [h7,h6]
theorem nodup_range (n : Nat) : (List.range n).Nodup:=List.nodup_range
theorem idx_filter (q : Nat → Bool) {i : Nat} (hq : q i = true) : ∀ n,i < n → ((List.range n).filter q).idxOf i = ((List.range i).filter q).length
 | 0,h=>by omega
 | n + 1,h=>by
  rw [List.range_succ,List.filter_append]
  by_cases e : i = n
  ·subst e
   have hn : i ∉ (List.range i).filter q:=by simp
   simp [hq,List.idxOf_append,hn]
  ·have hm : i ∈ (List.range n).filter q:=by simp [hq]; omega
   rw [List.idxOf_append,if_pos hm]
   exact idx_filter q hq n (by omega)
theorem butt_idx {p : Pln} {i : Nat} (h : kindOf p.ps i = 7) (hi : i < p.ps.length) : p.butt.idxOf i = (buttN p.ps i).length:=idx_filter _ (by simp [h]) _ hi
theorem buttN_succ (ps : List Prt) (n : Nat) : buttN ps (n + 1) = buttN ps n ++ (if kindOf ps n = 7 then [n] else []):=by
 unfold buttN
 rw [List.range_succ,List.filter_append]
 by_cases h : kindOf ps n = 7 <;> simp [h]
theorem valvN_succ (ps : List Prt) (d : List Drv) (n : Nat) : valvN ps d (n + 1) = valvN ps d n ++ (if plusK (kindOf ps n) ≠ [] ∧ drivenZ d n = none then [n] else []):=by
 unfold valvN
 rw [List.range_succ,List.filter_append]
 congr 1
 by_cases h1 : plusK (kindOf ps n) = [] <;> by_cases h2 : drivenZ d n = none <;> simp [h1,h2]
def LnB (p : Pln) (n : Nat) (E : List (L × L)) : Prop:=∀ j : Nat,mget E (.int .i64 (j : Int)) = if j < n then (p.lineB j).map fun k=>.int .i64 (k : Int) else none
theorem LnB.zero (p : Pln) : LnB p 0 []:=fun j=>by simp [mget]
theorem LnB.keep {p : Pln} {n : Nat} {E : List (L × L)} (h : LnB p n E) (hn : p.lineB n = none) : LnB p (n + 1) E:=fun j=>by
 rw [h j]
 by_cases h1 : j < n
 ·rw [if_pos h1,if_pos (by omega)]
 ·rw [if_neg h1]
  by_cases h2 : j = n
  ·subst h2
   simp [hn]
  ·rw [if_neg (by omega)]
theorem LnB.put {p : Pln} {n k : Nat} {E : List (L × L)} (h : LnB p n E) (hn : p.lineB n = some k) : LnB p (n + 1) (mput E (.int .i64 (n : Int)) (.int .i64 (k : Int))):=fun j=>by
 rw [mget_putI,h j]
 by_cases h2 : n = j
 ·subst h2
  simp [hn]
 ·rw [if_neg (by omega)]
  by_cases h1 : j < n
  ·rw [if_pos h1,if_pos (by omega)]
  ·rw [if_neg h1,if_neg (by omega)]
def LnV (p : Pln) (k : Nat) (E : List (L × L)) : Prop:=∀ j : Nat,mget E (.int .i64 (j : Int)) = match p.lineB j with
 | some n=>some (.int .i64 (n : Int))
 | none=>if j ∈ p.valv.take k then some (.int .i64 ((p.first + p.order.length + p.valv.idxOf j : Nat) : Int)) else none
theorem LnB.lnV {p : Pln} {E : List (L × L)} (h : LnB p p.ps.length E) : LnV p 0 E:=fun j=>by
 rw [h j]
 by_cases hj : j < p.ps.length
 ·rw [if_pos hj]
  cases p.lineB j <;> simp
 ·rw [if_neg hj]
  have : p.lineB j = none:=by
   unfold Pln.lineB
   rw [List.getElem?_eq_none (by omega)]
  simp [this]
theorem valv_nodup (p : Pln) : p.valv.Nodup:=List.Nodup.sublist List.filter_sublist (nodup_range _)
theorem valv_lineB {p : Pln} {j : Nat} (h : j ∈ p.valv) : p.lineB j = none:=by
 obtain ⟨h1,h2,h3⟩:=mem_valvN.1 h
 unfold Pln.lineB
 rw [List.getElem?_eq_getElem h1]
 have hk : kindOf p.ps j = (p.ps[j]).kind.toNat:=by unfold kindOf; rw [List.getElem?_eq_getElem h1]
 simp only
 rw [if_neg,if_neg]
 ·intro e
  rw [hk,e] at h2
  exact h2 rfl
 ·intro e
  rw [hk,e] at h2
  exact h2 rfl
theorem LnV.put {p : Pln} {k i : Nat} {E : List (L × L)} (h : LnV p k E) (hi : p.valv[k]? = some i) : LnV p (k + 1) (mput E (.int .i64 (i : Int)) (.int .i64 ((p.first + p.order.length + k : Nat) : Int))):=fun j=>by
 rw [mget_putI,h j]
 have hl:=valv_lineB (List.mem_of_getElem? hi)
 obtain ⟨hk,hik⟩:=List.getElem?_eq_some_iff.1 hi
 have hx : p.valv.idxOf i = k:=by
  rw [← hik]
  exact (valv_nodup p).idxOf_getElem k hk
 by_cases e : i = j
 ·subst e
  rw [hl,if_pos rfl,hx]
  simp only
  rw [if_pos (by rw [List.take_add_one,hi]; simp)]
 ·rw [if_neg (by omega)]
  cases p.lineB j with
  | some n=>rfl
  | none=>
   simp only
   have : j ∈ p.valv.take (k + 1) ↔ j ∈ p.valv.take k:=by
    rw [List.take_add_one,hi]
    simp
    intro e2
    exact absurd e2.symm e
   by_cases h2 : j ∈ p.valv.take k
   ·rw [if_pos h2,if_pos (this.2 h2)]
   ·rw [if_neg h2,if_neg fun h3=>h2 (this.1 h3)]
theorem LnV.all {p : Pln} {E : List (L × L)} (h : LnV p p.valv.length E) (i : Nat) : mget E (.int .i64 (i : Int)) = (p.line i).map fun n=>.int .i64 (n : Int):=by
 rw [h i,p.line_eq]
 cases p.lineB i with
 | some n=>rfl
 | none=>
  simp only [List.take_length]
  split <;> rfl
theorem decN_len2 (n : Nat) : (decN n).length ≤ n + 1:=by
 unfold decN
 induction n using Nat.strongRecOn with
 | _ m ih=>
  unfold Go.Lib.decDigits
  split
  ·simp
  ·have:=ih (m / 10) (by omega)
   simp only [List.length_append,List.length_singleton]
   omega
end Go.Proofs.YtpadinblmjlggaaGreatDoor
end

section
namespace Go.Proofs.YtpadinblmjlggaaGreatDoor
set_option maxHeartbeats 8000000
set_option maxRecDepth 10000
def Pln.fedX (p : Pln) (x : PortZ) : List Expr:=(if kindOf p.ps x.1.toNat = 0 then [⟨0,1,[]⟩] else []) ++ (giftsZ p.ps p.drives x).map p.term
theorem Pln.fedX_len (p : Pln) (x : PortZ) : (p.fedX x).length ≤ 3:=by
 unfold Pln.fedX
 rw [List.length_append,List.length_map]
 have h1 : (giftsZ p.ps p.drives x).length ≤ 2:=by
  unfold giftsZ
  split
  ·simp
  ·exact Nat.le_trans (gvN_len _ _ _ _) (manyK_le _)
 split <;> simp <;> omega
abbrev fdE (v : Value) (l : List Expr) : Nat × Ent:=(55,.seq v 98 3 (l.map rE))
abbrev fdR (p : Pln) (s : Value × List Expr) (x : PortZ) (o : Except Unit (Value × List Expr)) : Prop:=∃ v,o = .ok (v,s.2 ++ p.fedX x)
theorem fd_fold (p : Pln) : ∀ (l : List PortZ) (s : Value × List Expr) (o : Except Unit (Value × List Expr)),FoldR (fdR p) l s o → ∃ v,o = .ok (v,s.2 ++ p.fedL l)
 | [],s,o,h=>⟨s.1,by rw [h]; simp [Pln.fedL]⟩
 | x :: l,s,o,h=>by
  obtain ⟨o1,⟨v,rfl⟩,h2⟩:=h
  obtain ⟨w,hw⟩:=fd_fold p l _ o h2
  refine ⟨w,?_⟩
  rw [hw]
  simp [Pln.fedL,Pln.fedX]
theorem sat_last {x : X} {hh : Value} {e sz : Nat} {rows : List (List A)} {r r' : List A} (hl : r'.length = r.length) (hd : ∀ vs,Ds x r vs → Ds x r' vs) (hs : Ent.sat x (.seq hh e sz (rows ++ [r]))) : Ent.sat x (.seq hh e sz (rows ++ [r'])):=by
 have:=seq_swap (i:=rows.length) (rs:=rows ++ [r]) (r:=r) (r':=r') (by simp) hl hd hs
 simpa using this
theorem fed_s {s : PlS} {p : Pln} (h : s.At p) {i : Nat} (hi : i < p.nets.length) :
  CallS Tryz.prog 143 [.ptr 170 s.b 0,aI i] s.hp fun r H'=>r = aE (p.fed i) ∧ H' = s.hp:=by
 have hl : s.ns[i]? = some p.nets[i]:=by rw [h.ns]; exact List.getElem?_eq_getElem hi
 have hpf : p.fed i = sevE 4 (p.fedL p.nets[i]):=by
  unfold Pln.fed
  rw [List.getD_eq_getElem?_getD,List.getElem?_eq_getElem hi]
  rfl
 have hnet:=h.ok.net _ (List.mem_of_getElem? hl)
 rw [hpf]
 generalize p.nets[i] = l at hl hnet ⊢
 refine CallS.dropP (callS_of Tryz.func143 rfl Tryz.ntmps143 (rs:=[.cell 4 98]) rfl (by kernel_rfl) (by simp) (by kernel_rfl) (K:=fun r H'=>r = aE (sevE 4 (p.fedL l)) ∧ subP s.hp H') ?_) (fun _ _ ⟨h1,h2⟩=>⟨_,h2,h1,rfl⟩)
 simp
 intro b2 b4 b5
 have hg:=(gifts_s (s:=s) i).frameL (H1:=[(5,.box b5 [.nils]),(4,.box b4 [aI 0,aI 0,.nils]),(2,.box b2 [.ptr 170 s.b 0])])
 refine hg.mono ?_
 rintro r H' ⟨_,⟨bg,rfl,rfl⟩,rfl⟩
 simp
 refine V.inv (H':=fdE (.slice none 0 0) [] :: (5,.box b5 [.own 55 (.slice none 0 0)]) :: (4,.box b4 [aI 0,aI 0,.nils]) :: (2,.box b2 [.ptr 170 s.b 0]) :: gfB s bg) (fun x H0 hi=>Inv.nil (Inv.swap (g:=5) (H:=(5,.box b5 [.nils]) :: (4,.box b4 [aI 0,aI 0,.nils]) :: (2,.box b2 [.ptr 170 s.b 0]) :: gfB s bg) (e:=.box b5 [.nils]) (e':=.box b5 [.own 55 (.slice none 0 0)]) rfl (box_sat (Ds_c D_nilo Ds_i)) (fun b hb=>hb) hi) ⟨rfl,rfl⟩) ?_
 refine V.rangeFoldB (σ:=Value × List Expr) (δ:=Unit) (items:=l) (enc:=encGs s.ps p.drives) (B:=gfB s bg) 100 (by simp) trivial (gifts_iter h.ok h.dr (by have:=h.dl; omega) hl bg)
  (fun q=>[fdE q.1 q.2,(5,.box b5 [.own 55 q.1]),(4,.box b4 [aI 0,aI 0,.nils]),(2,.box b2 [.ptr 170 s.b 0])]) (fun _=>[]) (fun _=>none) (fun rest q=>q.2.length + 3 * rest.length ≤ 1344) (fdR p) (.slice none 0 0,[]) (by have:=hnet.1; simp; omega) ⟨_,List.Sublist.refl _,List.perm_append_comm (l₁:=[fdE (.slice none 0 0) [],(5,.box b5 [.own 55 (.slice none 0 0)]),(4,.box b4 [aI 0,aI 0,.nils]),(2,.box b2 [.ptr 170 s.b 0])])⟩ (by simp [encGs]) ?_ ?_
 ·rintro lp ⟨v,Ls⟩ x rest hL hx
  simp only [List.length_cons] at hL
  have hx3:=p.fedX_len x
  obtain ⟨j,q,hj,hq,hq1,hq2⟩:=mem_allN.1 (hnet.2.2 _ hx)
  obtain ⟨x1,x2⟩:=x
  simp only at hq1
  subst hq1
  rw [h.ps] at hj hq
  have hk:=h.kind hj
  simp [encGs]
  intro b6
  refine (hk.mid [(6,_),(175,_)] [fdE v Ls,(5,_),(4,_),(2,_)]).mono ?_
  rintro r H' ⟨rfl,rfl⟩
  have hxa:=hnet.2.2 _ hx
  have hgp:=fun G hG t ht=>gift_port h.ok (d:=p.drives) hxa (g:=G) hG (t:=t) ht
  have hterm : ∀ G ∈ giftsZ s.ps p.drives ((j : Int),x2),CallS Tryz.prog 208 [.ptr 170 s.b 0,.record (encGf G)] s.hp fun r H'=>r = aE (p.term G) ∧ H' = s.hp:=fun G hG=>by
   have hm:=given_mem (gifts_mem hG)
   simp only [Int.toNat_natCast] at hm
   exact term_s h (by rw [hm.1]; exact hj) (passK_srcl _ _ _ hm.2.2) (fun t ht=>by rw [← h.ps]; exact hgp G hG t ht)
  have hgl : (giftsZ s.ps p.drives ((j : Int),x2)).length ≤ 2:=by
   unfold giftsZ
   split
   ·simp
   ·exact Nat.le_trans (gvN_len _ _ _ _) (manyK_le _)
  have hfx : p.fedX ((j : Int),x2) = (if kindOf p.ps j = 0 then [⟨0,1,[]⟩] else []) ++ (giftsZ s.ps p.drives ((j : Int),x2)).map p.term:=by
   unfold Pln.fedX
   rw [h.ps]
   rfl
  simp only [fdR,hfx]
  generalize giftsZ s.ps p.drives ((j : Int),x2) = GS at *
  by_cases hk0 : kindOf p.ps j = 0
  ·rw [if_pos hk0]
   simp [hk0]
   refine V.drawXR (fun t=>none) (by kernel_rfl) (by kernel_rfl) (by kernel_rfl) (by simp) ?_
   simp
   intro u
   obtain ⟨Bs,hBs⟩ : ∃ Bs,Ls ++ [⟨0,1,[]⟩] = Bs:=⟨_,rfl⟩
   have hBl : Bs.length = Ls.length + 1:=by rw [← hBs]; simp
   have hBr : Bs.map rE = Ls.map rE ++ [rE ⟨0,1,[]⟩]:=by rw [← hBs,List.map_append]; rfl
   refine ⟨by omega,by omega,by kernel_rfl,?_⟩
   refine V.inv (H':=(6,.box b6 ((encPo ((j : Int),x2)).map A.dat)) :: (gfB s bg ++ [fdE u Bs,(5,.box b5 [.own 55 u]),(4,.box b4 [aI 0,aI 0,.nils]),(2,.box b2 [.ptr 170 s.b 0])])) (fun x H0 hi=>Inv.swap (g:=55) (e:=.seq u 98 3 (Ls.map rE ++ [[aI 0,aI 1,.nils]])) (e':=.seq u 98 3 (Bs.map rE)) (H:=(6,.box b6 ((encPo ((j : Int),x2)).map A.dat)) :: (gfB s bg ++ [(55,.seq u 98 3 (Ls.map rE ++ [[aI 0,aI 1,.nils]])),(5,.box b5 [.own 55 u]),(4,.box b4 [aI 0,aI 0,.nils]),(2,.box b2 [.ptr 170 s.b 0])])) rfl (fun hs=>by
    rw [hBr]
    exact sat_last (r:=[aI 0,aI 1,.nils]) rfl (Ds_c D_i (Ds_c D_i (Ds_c D_nild Ds_i))) hs) (fun b hb=>hb) hi) ?_
   rw [show Ls ++ ([(⟨0,1,[]⟩ : Expr)] ++ List.map p.term GS) = Bs ++ List.map p.term GS by rw [← hBs]; simp]
   refine V.forI (σ:=Value) GS.length [2,4,5,26,27] (by simp; exact rfl) (fun n _=>[(28,aI n)]) (fun n w=>gfB s bg ++ [fdE w (Bs ++ (GS.take n).map p.term),(5,.box b5 [.own 55 w]),(4,.box b4 [aI 0,aI 0,.nils]),(2,.box b2 [.ptr 170 s.b 0])]) (fun _ _=>True) u trivial (by simp) ⟨by simp; exact rfl,by simp⟩ ?_ ?_
   ·rintro n w hn -
    obtain ⟨G,hG⟩ : ∃ G,GS[n] = G:=⟨_,rfl⟩
    have hGo : GS[n]? = some G:=by rw [List.getElem?_eq_getElem hn,hG]
    have htm:=hterm G (List.mem_of_getElem? hGo)
    have e1 : Bs ++ (GS.take (n + 1)).map p.term = (Bs ++ (GS.take n).map p.term) ++ [p.term G]:=by
     rw [List.take_add_one,hGo]
     simp
    have hln : (Bs ++ (GS.take n).map p.term).length ≤ 1350:=by
     rw [List.length_append,List.length_map,List.length_take]
     omega
    rw [e1]
    generalize p.term G = tx at *
    generalize Bs ++ (GS.take n).map p.term = W at *
    simp [hn,hG,hGo]
    intro b9
    refine V.drawXR (fun t=>if t = 35 then some (.ro (aE tx)) else none) (by kernel_rfl) (by kernel_rfl) (by kernel_rfl) (by simp) ?_
    simp [hn,hG,hGo]
    exact ⟨htm,by omega,by omega,by kernel_rfl,by omega,by omega⟩
   ·rintro w -
    rw [List.take_length]
    simp
    refine ⟨.ok (w,Bs ++ GS.map p.term),⟨w,rfl⟩,?_,?_⟩
    ·rintro a b h
     cases h
     rw [List.length_append,List.length_map]
     omega
    ·exact (((((((((subP.refl []).c _).cc _).cc _).cc _).cc _).cc _).cc _).cc _).cc _
  ·rw [if_neg hk0]
   simp [hk0]
   refine V.forI (σ:=Value) GS.length [2,4,5,26,27] (by simp; exact rfl) (fun n _=>[(28,aI n)]) (fun n w=>gfB s bg ++ [fdE w (Ls ++ (GS.take n).map p.term),(5,.box b5 [.own 55 w]),(4,.box b4 [aI 0,aI 0,.nils]),(2,.box b2 [.ptr 170 s.b 0])]) (fun _ _=>True) v trivial (by simp) ⟨by simp; exact rfl,by simp⟩ ?_ ?_
   ·rintro n w hn -
    obtain ⟨G,hG⟩ : ∃ G,GS[n] = G:=⟨_,rfl⟩
    have hGo : GS[n]? = some G:=by rw [List.getElem?_eq_getElem hn,hG]
    have htm:=hterm G (List.mem_of_getElem? hGo)
    have e1 : Ls ++ (GS.take (n + 1)).map p.term = (Ls ++ (GS.take n).map p.term) ++ [p.term G]:=by
     rw [List.take_add_one,hGo]
     simp
    have hln : (Ls ++ (GS.take n).map p.term).length ≤ 1350:=by
     rw [List.length_append,List.length_map,List.length_take]
     omega
    rw [e1]
    generalize p.term G = tx at *
    generalize Ls ++ (GS.take n).map p.term = W at *
    simp [hn,hG,hGo]
    intro b9
    refine V.drawXR (fun t=>if t = 35 then some (.ro (aE tx)) else none) (by kernel_rfl) (by kernel_rfl) (by kernel_rfl) (by simp) ?_
    simp [hn,hG,hGo]
    exact ⟨htm,by omega,by omega,by kernel_rfl,by omega,by omega⟩
   ·rintro w -
    rw [List.take_length]
    simp
    refine ⟨.ok (w,Ls ++ GS.map p.term),⟨w,rfl⟩,?_,?_⟩
    ·rintro a b h
     cases h
     rw [List.length_append,List.length_map]
     omega
    ·exact (((((((((subP.refl []).c _).cc _).cc _).cc _).cc _).cc _).cc _).cc _).cc _
 ·intro o ho
  obtain ⟨v,rfl⟩:=fd_fold p l _ o ho
  have hfl : (p.fedL l).length ≤ 4294967296:=by
   have : ∀ m : List PortZ,(p.fedL m).length ≤ 3 * m.length:=by
    intro m
    induction m with
    | nil=>simp [Pln.fedL]
    | cons x m ih=>
     have h2:=p.fedX_len x
     have e : p.fedL (x :: m) = p.fedX x ++ p.fedL m:=by simp [Pln.fedL,Pln.fedX]
     rw [e,List.length_append,List.length_cons]
     omega
   have:=this l
   have:=hnet.1
   omega
  have h4:=several_fn 4 (p.fedL l) hfl
  obtain ⟨z,hz⟩ : ∃ z,sevE 4 (p.fedL l) = z:=⟨_,rfl⟩
  rw [hz] at h4 ⊢
  simp
  refine CallS.perm (H:=fdE v (p.fedL l) :: ([(175,.box bg [.ptr 170 s.b 0])] ++ s.hp ++ [(5,.box b5 [.own 55 v]),(4,.box b4 [aI 0,aI 0,.nils]),(2,.box b2 [.ptr 170 s.b 0])])) ?_ (List.perm_middle (l₁:=[(175,_),_,_,_])).symm
  refine h4.give (Hc:=[fdE v (p.fedL l)]) (Hr:=[(175,.box bg [.ptr 170 s.b 0])] ++ s.hp ++ [(5,.box b5 [.own 55 v]),(4,.box b4 [aI 0,aI 0,.nils]),(2,.box b2 [.ptr 170 s.b 0])]) rfl (by simp [frzs,frz,fdE]) ?_
  simp
  exact (((((((subP.refl []).c _).c _).c _).cc _).cc _).cc _).c _
end Go.Proofs.YtpadinblmjlggaaGreatDoor
end

section
namespace Go.Proofs.YtpadinblmjlggaaGreatDoor
set_option maxHeartbeats 4000000
structure Pln.B (p : Pln) : Prop where
 pl : p.ps.length ≤ 64
 dl : p.drives.length ≤ 64
 ol : p.order.length ≤ 448
 net : ∀ l ∈ p.nets,l.length ≤ 448
 names : ∀ x ∈ p.ps,x.name.length ≤ 1000
 delay : ∀ x ∈ p.ps,0 ≤ x.delay ∧ x.delay ≤ 1000000
 small : ∀ n ∈ p.order,n ≤ 448
theorem okE_mk {op n : Int} {l : List Expr} (ho : 0 ≤ op ∧ op ≤ 10) (hn : 0 ≤ n ∧ n ≤ 1000000) (hl : l.length ≤ 1000000) (h : ∀ a ∈ l,OkE a) : OkE ⟨op,n,l⟩:=
 ⟨_,by simp only; omega,(inR_i64 _).2 (by simp only; omega),(inR_i64 _).2 (by simp only; omega),h⟩
theorem okE_nul : OkE nulE:=okE_mk (by simp) (by simp) (by simp) (by simp)
theorem okE_sev {op : Int} (ho : 0 ≤ op ∧ op ≤ 10) {l : List Expr} (hl : l.length ≤ 1000000) (h : ∀ a ∈ l,OkE a) : OkE (sevE op l):=by
 unfold sevE
 split
 ·exact okE_nul
 ·exact h _ (by simp)
 ·exact okE_mk ho (by simp) hl h
theorem okE_var {n : Nat} (hn : n ≤ 1000000) : OkE (varE (n : Int)):=okE_mk (by simp) (by omega) (by simp) (by simp)
theorem okE_not {x : Expr} (h : OkE x) : OkE (notE x):=okE_mk (by simp) (by simp) (by simp) (by simpa using h)
theorem Pln.B.bl {p : Pln} (h : p.B) : p.butt.length ≤ 64:=Nat.le_trans (buttN_len _ _) h.pl
theorem Pln.B.vl {p : Pln} (h : p.B) : p.valv.length ≤ 64:=Nat.le_trans (valvN_len _ _ _) h.pl
theorem Pln.B.fl {p : Pln} (h : p.B) : p.first ≤ 192:=by
 have:=h.bl
 have:=h.dl
 unfold Pln.first
 omega
theorem gate_cases (p : Pln) (i : Nat) (t : List UInt8) : p.gate i t = nulE ∨ ∃ k,k < p.order.length ∧ p.gate i t = varE (p.first + k : Nat):=by
 rw [Pln.gate_eq]
 unfold Pln.gateW
 split
 ·rename_i k hk
  exact .inr ⟨k,(List.findIdx?_eq_some_iff_getElem.1 hk).1,rfl⟩
 ·exact .inl rfl
theorem Pln.B.gate {p : Pln} (h : p.B) (i : Nat) (t : List UInt8) : OkE (p.gate i t) ∧ 0 ≤ (p.gate i t).index ∧ (p.gate i t).index ≤ 1000:=by
 have:=h.fl
 have:=h.ol
 rcases gate_cases p i t with e | ⟨k,hk,e⟩
 ·rw [e]
  exact ⟨okE_nul,by simp [nulE],by simp [nulE]⟩
 ·rw [e]
  exact ⟨okE_var (by omega),by simp only [varE]; omega,by simp only [varE]; omega⟩
theorem Pln.B.line {p : Pln} (h : p.B) (i : Nat) : (p.line i).getD 0 ≤ 2000:=by
 have h1:=h.fl
 have h2:=h.ol
 have h3:=h.dl
 have h4:=h.bl
 have h5:=h.vl
 unfold Pln.line
 split
 ·simp
 ·rename_i x hx
  have a1 : p.butt.idxOf i ≤ p.butt.length:=List.idxOf_le_length
  have a2 : p.valv.idxOf i ≤ p.valv.length:=List.idxOf_le_length
  have a3 : (p.drives.findIdx fun d=>(p.ps.getD d.1 x).name == x.name.dropLast) ≤ p.drives.length:=List.findIdx_le_length
  split
  ·simp only [Option.getD_some]
   omega
  ·split
   ·simp only [Option.getD_some]
    split <;> omega
   ·split
    ·simp only [Option.getD_some]
     omega
    ·simp
theorem Pln.B.term {p : Pln} (h : p.B) {g : Gift} (hs : g.pass.src.length ≤ 2) : OkE (p.term g):=by
 have hl:=h.line g.part
 have hv : OkE (varE ((p.line g.part).getD 0 : Nat)):=okE_var (by omega)
 have hm : ∀ a ∈ g.pass.src.map (p.gate g.part),OkE a:=fun a ha=>by
  obtain ⟨t,_,rfl⟩:=List.mem_map.1 ha
  exact (h.gate _ _).1
 unfold Pln.term
 refine okE_sev (by simp) ?_ ?_
 ·rw [List.length_append]
  have h1 : (if 1 < manyK (kindOf p.ps g.part) then [if g.pos = 0 then notE (varE ((p.line g.part).getD 0 : Nat)) else varE ((p.line g.part).getD 0 : Nat)] else []).length ≤ 1:=by split <;> simp
  have h2 : (if g.pass.all = true then g.pass.src.map (p.gate g.part) else [sevE 4 (g.pass.src.map (p.gate g.part))]).length ≤ 2:=by
   split
   ·rw [List.length_map]; exact hs
   ·simp
  omega
 ·intro a ha
  rcases List.mem_append.1 ha with ha | ha
  ·split at ha
   ·simp only [List.mem_singleton] at ha
    subst ha
    split
    ·exact okE_not hv
    ·exact hv
   ·simp at ha
  ·split at ha
   ·exact hm a ha
   ·simp only [List.mem_singleton] at ha
    subst ha
    exact okE_sev (by simp) (by rw [List.length_map]; omega) hm
theorem gifts_src {ps : List Prt} {d : List Drv} {x : PortZ} {g : Gift} (h : g ∈ giftsZ ps d x) : g.pass.src.length ≤ 2:=passK_srcl _ _ _ (given_mem (gifts_mem h)).2.2
theorem fedL_len (p : Pln) : ∀ l : List PortZ,(p.fedL l).length ≤ 3 * l.length
 | []=>by simp [Pln.fedL]
 | x :: l=>by
  have h1:=fedL_len p l
  have h2:=p.fedX_len x
  have e : p.fedL (x :: l) = p.fedX x ++ p.fedL l:=by simp [Pln.fedL,Pln.fedX]
  rw [e,List.length_append,List.length_cons]
  omega
theorem Pln.B.fed {p : Pln} (h : p.B) (i : Nat) : OkE (p.fed i):=by
 unfold Pln.fed
 have hl : (p.nets.getD i []).length ≤ 448:=by
  rw [List.getD_eq_getElem?_getD]
  cases e : p.nets[i]? with
  | none=>simp
  | some l=>exact h.net l (List.mem_of_getElem? e)
 have h1:=fedL_len p (p.nets.getD i [])
 refine okE_sev (by simp) (by omega) fun a ha=>?_
 unfold Pln.fedL at ha
 rw [List.mem_flatMap] at ha
 obtain ⟨x,_,ha⟩:=ha
 rcases List.mem_append.1 ha with ha | ha
 ·split at ha
  ·simp only [List.mem_singleton] at ha
   subst ha
   exact okE_mk (by simp) (by simp) (by simp) (by simp)
  ·simp at ha
 ·obtain ⟨g,hg,rfl⟩:=List.mem_map.1 ha
  exact h.term (gifts_src hg)
theorem okS_mk {nm : List UInt8} {k : Int} {x y : Expr} {d : Int} {b : Bool} (hn : nm.length ≤ 1000000) (hk : 0 ≤ k ∧ k ≤ 10) (hx : OkE x) (hy : OkE y) (hd : 0 ≤ d ∧ d ≤ 1000000) : OkS ⟨nm,k,x,y,d,b⟩:=
 ⟨by simp only [Sh]; omega,by simp only [I64]; omega,hx,hy,by simp only [I64]; omega⟩
theorem Pln.B.netS {p : Pln} (h : p.B) {n : Nat} (hn : n ∈ p.order) : OkS (p.netS n):=by
 have:=decN_len2 n
 have:=h.small n hn
 exact okS_mk (by simp only [List.length_cons]; omega) (by simp) (h.fed n) okE_nul (by simp)
theorem Pln.B.movS {p : Pln} (h : p.B) {i : Nat} (hi : i ∈ p.valv) : OkS (p.movS i):=by
 have h1:=decN_len2 i
 have h2:=(mem_valvN.1 hi).1
 have h3:=h.pl
 unfold Pln.movS
 refine okS_mk (by simp only [List.length_cons]; omega) (by split <;> simp) (h.gate _ _).1 ?_ ?_
 ·split
  ·exact okE_nul
  ·split
   ·exact (h.gate _ _).1
   ·exact okE_not (h.gate _ _).1
 ·split
  ·rw [List.getElem?_eq_getElem h2]
   exact h.delay _ (List.getElem_mem h2)
  ·simp
theorem Pln.pil_succ (p : Pln) {n : Nat} {d : Drv} (hd : p.drives[n]? = some d) : p.pil (n + 1) = p.drvS (p.pil n) d:=by
 unfold Pln.pil
 rw [List.take_add_one,hd,List.foldl_append]
 rfl
theorem Pln.B.pil {p : Pln} (h : p.B) (hv : ∀ d ∈ p.drives,d.2 < p.ps.length) : ∀ n,n ≤ p.drives.length → (p.pil n).1.length = n ∧ (p.pil n).2.1.length = n ∧ p.sig0.length ≤ (p.pil n).2.2.length ∧ (p.pil n).2.2.length ≤ p.sig0.length + n ∧
  (∀ z ∈ (p.pil n).1,0 ≤ z ∧ z ≤ 2000) ∧ (∀ z ∈ (p.pil n).2.1,0 ≤ z ∧ z ≤ 2000) ∧ ∀ x ∈ (p.pil n).2.2,OkS x
 | 0,_=>by
  refine ⟨rfl,rfl,Nat.le_refl _,Nat.le_refl _,by simp [Pln.pil],by simp [Pln.pil],fun x hx=>?_⟩
  have hx2 : x ∈ p.order.map p.netS ++ p.valv.map p.movS:=hx
  rcases List.mem_append.1 hx2 with hx2 | hx2
  ·obtain ⟨n,hn,rfl⟩:=List.mem_map.1 hx2
   exact h.netS hn
  ·obtain ⟨n,hn,rfl⟩:=List.mem_map.1 hx2
   exact h.movS hn
 | n + 1,hn=>by
  obtain ⟨a1,a2,a3,a4,a5,a6,a7⟩:=Pln.B.pil h hv n (by omega)
  obtain ⟨d,hd⟩ : ∃ d,p.drives[n]? = some d:=⟨_,List.getElem?_eq_getElem (by omega)⟩
  have hdv:=hv d (List.mem_of_getElem? hd)
  have hs0 : p.sig0.length ≤ 512:=by
   have:=h.ol
   have:=h.vl
   unfold Pln.sig0
   simp only [List.length_append,List.length_map]
   omega
  have hfl:=h.fl
  have hdl:=h.dl
  have hpl:=h.pl
  have g1:=h.gate d.2 [49,52]
  have g2:=h.gate d.2 [49,50]
  have hdn:=decN_len2 d.2
  rw [p.pil_succ hd]
  unfold Pln.drvS
  simp only [List.length_append,List.length_singleton,List.mem_append,List.mem_singleton]
  refine ⟨by omega,by omega,?_,?_,?_,?_,?_⟩
  ·split
   ·exact a3
   ·simp only [List.length_append,List.length_singleton]; omega
  ·split
   ·omega
   ·simp only [List.length_append,List.length_singleton]; omega
  ·rintro z (hz | rfl)
   ·exact a5 z hz
   ·omega
  ·rintro z (hz | rfl)
   ·exact a6 z hz
   ·split <;> omega
  ·intro x hx
   split at hx
   ·exact a7 x hx
   ·rcases List.mem_append.1 hx with hx | hx
    ·exact a7 x hx
    ·simp only [List.mem_singleton] at hx
     subst hx
     exact okS_mk (by simp only [List.length_cons]; omega) (by simp) (okE_not g1.1) okE_nul (by simp)
theorem Pln.B.okC {p : Pln} (h : p.B) (hv : ∀ d ∈ p.drives,d.2 < p.ps.length) : OkC p.ctl:=by
 obtain ⟨a1,a2,a3,a4,a5,a6,a7⟩:=h.pil hv p.drives.length (Nat.le_refl _)
 have hs0 : p.sig0.length ≤ 512:=by
  have:=h.ol
  have:=h.vl
  unfold Pln.sig0
  simp only [List.length_append,List.length_map]
  omega
 have hdl:=h.dl
 have hbl:=h.bl
 refine ⟨?_,?_,?_,?_,a7,?_,?_,fun z hz=>?_,fun z hz=>?_⟩
 ·show I64 (p.drives.length : Int)
  simp only [I64]; omega
 ·show Sh (p.butt.map _)
  unfold Sh; rw [List.length_map]; omega
 ·intro s hs
  obtain ⟨i,hi,rfl⟩:=List.mem_map.1 (show s ∈ p.butt.map fun i=>((p.ps[i]?).map (·.name)).getD [] from hs)
  unfold Sh
  cases e : p.ps[i]? with
  | none=>simp
  | some x=>
   have:=h.names x (List.mem_of_getElem? e)
   simp only [Option.map_some,Option.getD_some]
   omega
 ·show Sh (p.pil p.drives.length).2.2
  unfold Sh; omega
 ·show Sh (p.pil p.drives.length).1
  unfold Sh; omega
 ·show Sh (p.pil p.drives.length).2.1
  unfold Sh; omega
 ·have:=a5 z hz
  simp only [I64]; omega
 ·have:=a6 z hz
  simp only [I64]; omega
end Go.Proofs.YtpadinblmjlggaaGreatDoor
end
