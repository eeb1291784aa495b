/- Texts joined by a program: Qi,Ito,Qj,Qk,Qo,Wa. -/
import Derived.Lib.ItoaNum
import Derived.Test.YtpadinblmjlggaaGreatDoorP20
import Derived.Test.YtpadinblmjlggaaGreatDoorP16
import Derived.Test.YtpadinblmjlggaaGreatDoorP12
import Derived.Test.YtpadinblmjlggaaGreatDoorP18
import Derived.Test.YtpadinblmjlggaaGreatDoorP19
import Derived.Test.YtpadinblmjlggaaGreatDoorP14
set_option linter.unusedSimpArgs false
set_option linter.unusedVariables false

section
namespace Go.Proofs.YtpadinblmjlggaaGreatDoor
set_option maxHeartbeats 8000000
set_option maxRecDepth 10000
structure PlS.Pre (s : PlS) (p : Pln) : Prop where
 ok : s.OK
 ps : s.ps = p.ps
 ns : s.ns = p.nets
 dr : s.dr = .dat (.sl (p.drives.map encDr))
 dl : p.drives.length ≤ 64
 dm : ∀ d ∈ p.drives,d.1 < p.ps.length
 od : s.od = aNs p.order
 ol : p.order.length ≤ 448
 names : ∀ x ∈ p.ps,x.name.length ≤ 1000
 lim : ∀ x ∈ p.ps,x.kind = 6 → (∃ q c,x.name = q ++ [c] ∧ (c = 48 ∨ c = 49) ∧ ∃ k,p.drives.findIdx? (fun d=>(p.ps.getD d.1 x).name == q) = some k)
theorem place1_s {s : PlS} {p : Pln} (h1 : s.ps = p.ps) (hl : p.ps.length ≤ 64) {x : Prt} {q : List UInt8} {c : UInt8} (hx : x.name = q ++ [c]) (hq : q.length ≤ 1000) {d : Drv} (hd : d.1 < p.ps.length) (b1 b3 b7 : Nat) :
  CallS Tryz.prog 140 [.record (encDr d),.ptr 1 b1 0,.ptr 3 b3 0,.ptr 7 b7 0] ((7,.box b7 [aI q.length]) :: (3,.box b3 ((encPa x).map A.dat)) :: (1,.box b1 [.ptr 170 s.b 0]) :: s.hp) fun r H'=>
   r = aB ((p.ps.getD d.1 x).name == q) ∧ H' = (7,.box b7 [aI q.length]) :: (3,.box b3 ((encPa x).map A.dat)) :: (1,.box b1 [.ptr 170 s.b 0]) :: s.hp:=by
 obtain ⟨y,hy⟩ : ∃ y,p.ps[d.1] = y:=⟨_,rfl⟩
 have hyo : p.ps[d.1]? = some y:=by rw [List.getElem?_eq_getElem hd,hy]
 have hyd : p.ps.getD d.1 x = y:=by rw [List.getD_eq_getElem?_getD,hyo]; rfl
 rw [hyd]
 obtain ⟨y1,y2,y3⟩:=y
 obtain ⟨x1,x2,x3⟩:=x
 simp only at hx
 subst hx
 refine callS_of Tryz.func140 rfl Tryz.ntmps140 (rs:=[.tmp 5]) rfl (by kernel_rfl) (by simp) (by kernel_rfl) ?_
 simp
 refine V.drawX (fun _=>none) (by kernel_rfl) (by kernel_rfl) (by simp) ?_
 simp [h1,hd,hy,hyo]
abbrev PlS.wp (s : PlS) (v w : Value) (E : List (L × L)) : PlS:={ s with bu:=.own 173 v,va:=.own 174 w,lE:=E }
abbrev bE (v : Value) (l : List Nat) : Nat × Ent:=(173,.seq v 3 1 (l.map rN))
abbrev vE (v : Value) (l : List Nat) : Nat × Ent:=(174,.seq v 3 1 (l.map rN))
theorem PlS.OK.wp {s : PlS} (h : s.OK) (v w : Value) (E : List (L × L)) : (s.wp v w E).OK:=⟨h.few,h.kinds,h.nets,h.net,h.of⟩
theorem first_o {s : PlS} {p : Pln} (h1 : s.dr = .dat (.sl (p.drives.map encDr))) (h3 : p.drives.length ≤ 64) (h4 : p.butt.length ≤ 64) (v w : Value) (E : List (L × L)) :
  CallS Tryz.prog 53 [.ptr 170 s.b 0] ((s.wp v w E).hp ++ [bE v p.butt]) fun r H'=>r = aI p.first ∧ H' = (s.wp v w E).hp ++ [bE v p.butt]:=by
 unfold Pln.first
 refine callS_of Tryz.func53 rfl Tryz.ntmps53 (rs:=[.tmp 2]) rfl (by kernel_rfl) (by simp) (by kernel_rfl) ?_
 simp
 refine V.drawX (fun _=>none) (by kernel_rfl) (by kernel_rfl) (by simp) ?_
 simp [h1]
 omega
theorem place_s0 {s : PlS} {p : Pln} (h : s.Pre p) :
  CallS Tryz.prog 86 [.ptr 170 s.b 0] ((s.wp (.slice none 0 0) (.slice none 0 0) []).hp ++ [bE (.slice none 0 0) [],vE (.slice none 0 0) []]) fun r H'=>∃ v w E,r = .tuple [] ∧ H' = (s.wp v w E).hp ++ [bE v p.butt,vE w p.valv] ∧ LnV p p.valv.length E:=by
 have hl : p.ps.length ≤ 64:=by rw [← h.ps]; exact h.ok.few
 have hps:=h.ps
 have hdr:=h.dr
 have hdl:=h.dl
 have hod:=h.od
 have hol:=h.ol
 refine CallS.dropP (callS_of Tryz.func86 rfl Tryz.ntmps86 (rs:=[]) rfl (by kernel_rfl) (by simp) (by kernel_rfl) (K:=fun r H'=>∃ v w E,r = .tuple [] ∧ subP ((s.wp v w E).hp ++ [bE v p.butt,vE w p.valv]) H' ∧ LnV p p.valv.length E) ?_) (fun _ _ ⟨v,w,E,h1,h2,h3⟩=>⟨_,h2,v,w,E,h1,rfl,h3⟩)
 simp
 intro b1
 simp [hps]
 refine V.forI (σ:=Value × Value × List (L × L)) p.ps.length [1,15,16] (by simp; exact rfl) (fun n _=>[(17,aI n)]) (fun n q=>(1,.box b1 [.ptr 170 s.b 0]) :: ((s.wp q.1 q.2.1 q.2.2).hp ++ [bE q.1 (buttN p.ps n),vE q.2.1 (valvN p.ps p.drives n)])) (fun n q=>LnB p n q.2.2) (.slice none 0 0,.slice none 0 0,[]) (LnB.zero p) (by simp) ⟨by simp [hps]; exact rfl,by simp [buttN,valvN]⟩ ?_ ?_
 ·rintro n ⟨v,w,E⟩ hn hI
  simp only at hI
  obtain ⟨x,hx⟩ : ∃ x,p.ps[n] = x:=⟨_,rfl⟩
  have hxo : p.ps[n]? = some x:=by rw [List.getElem?_eq_getElem hn,hx]
  have hxm:=List.mem_of_getElem? hxo
  have hnm:=h.names x hxm
  have hkx:=h.ok.kinds x (by rw [hps]; exact hxm)
  have hk : kindOf p.ps n = x.kind.toNat:=kindOf_at hxo
  have hpk:=Pilots_k x.kind.toNat (by omega)
  rw [show ((x.kind.toNat : Nat) : Int) = x.kind from by omega] at hpk
  have hB : p.lineB n = if x.kind = 7 then some (2 * p.drives.length + p.butt.idxOf n)
   else if x.kind = 6 then some (2 * (p.drives.findIdx fun d=>(p.ps.getD d.1 x).name == x.name.dropLast) + (if x.name.getLast? = some 49 then 1 else 0)) else none:=by
   unfold Pln.lineB
   rw [hxo]
  have hbl:=buttN_len p.ps n
  have hvl:=valvN_len p.ps p.drives n
  simp [hn,hps,hx,hxo]
  intro b3
  refine hpk.s ?_
  simp
  by_cases h7 : x.kind = 7
  ·rw [if_pos h7] at hB
   have hbx:=butt_idx (p:=p) (i:=n) (by omega) hn
   rw [hbx] at hB
   simp [h7]
   refine V.drawX (fun _=>none) (by kernel_rfl) (by kernel_rfl) (by simp) ?_
   simp [hdr]
   refine ⟨by omega,by omega,?_⟩
   refine V.drawX (fun _=>none) (by kernel_rfl) (by kernel_rfl) (by simp) ?_
   simp
   intro u
   refine ⟨by omega,by kernel_rfl,⟨by omega,by omega⟩,u,w,mput E (.int .i64 (n : Int)) (.int .i64 (2 * (p.drives.length : Int) + (buttN p.ps n).length)),?_,⟨rfl,rfl⟩,rfl,⟨rfl,?_⟩,rfl,?_⟩
   ·have:=hI.put hB
    simpa using this
   ·rw [buttN_succ,if_pos (by omega)]
    simp
   ·rw [valvN_succ,if_neg]
    ·simp
    ·rw [hk,h7]
     simp [plusK]
  ·rw [if_neg h7] at hB
   by_cases h6 : x.kind = 6
   ·rw [if_pos h6] at hB
    obtain ⟨q,c,hq,hc,kx,hkx2⟩:=h.lim x hxm h6
    have hp1:=fun (d : Drv) (hd : d ∈ p.drives) (b7 : Nat)=>(place1_s (s:=s.wp v w E) hps hl hq (by rw [hq] at hnm; simp at hnm; omega) (h.dm d hd) b1 b3 b7).mid [] [bE v (buttN p.ps n),vE w (valvN p.ps p.drives n)]
    have hix:=fun b7=>idxDr_s p.drives (fun d=>(p.ps.getD d.1 x).name == q) 140 [] [.ptr 1 b1 0,.ptr 3 b3 0,.ptr 7 b7 0] _ (by unfold Sh; omega) fun d hd=>hp1 d hd b7
    rw [hkx2] at hix
    have hfx : (p.drives.findIdx fun d=>(p.ps.getD d.1 x).name == q) = kx:=by
     rw [List.findIdx?_eq_some_iff_findIdx_eq] at hkx2
     exact hkx2.2
    have hkl:=(List.findIdx?_eq_some_iff_getElem.1 hkx2).1
    obtain ⟨x1,x2,x3⟩:=x
    simp only at hq h6 h7 hk hkx hB hnm
    subst hq
    subst h6
    rw [show (q ++ [c]).dropLast = q by simp,hfx,show (q ++ [c]).getLast? = some c by simp] at hB
    have hib:=IndexByte_fn [48,49] c.toNat
    have hbv : Go.Lib.indexByte [48,49] (c.toNat : Int).toNat.toUInt8 = if c = 49 then 1 else 0:=by
     rcases hc with rfl | rfl <;> decide
    rw [hbv] at hib
    simp at hnm
    simp [hdr]
    refine ⟨by omega,fun b7=>(hix b7).mono ?_⟩
    rintro r H' ⟨rfl,rfl⟩
    simp
    refine V.drawX (fun t=>if t = 85 then some (.fn (aI (if c = 49 then 1 else 0))) else none) (by kernel_rfl) (by kernel_rfl) (by simp) ?_
    simp
    refine ⟨⟨by omega,by omega⟩,by omega,hib,⟨by split <;> omega,by split <;> omega⟩,⟨by omega,by omega⟩,v,w,mput E (.int .i64 (n : Int)) (.int .i64 (2 * (kx : Int) + if c = 49 then 1 else 0)),?_,⟨rfl,rfl⟩,rfl,⟨rfl,?_⟩,rfl,?_⟩
    ·have:=hI.put hB
     have e : ((2 * kx + (if some c = some 49 then 1 else 0) : Nat) : Int) = 2 * (kx : Int) + if c = 49 then 1 else 0:=by
      by_cases e : c = 49 <;> simp [e]
     rw [e] at this
     exact this
    ·rw [buttN_succ,if_neg (by omega)]
     simp
    ·rw [valvN_succ,if_neg]
     ·simp
     ·rw [hk]
      simp [plusK]
   ·rw [if_neg h6] at hB
    have hdv:=driven_s (s:=s.wp v w E) (h.ok.wp v w E) hdr (by omega) n
    simp [h7,h6]
    by_cases hpl : plusK x.kind.toNat = []
    ·refine GCall.never (by simp [hpl]) (aI 0) ?_
     simp [hpl]
     refine ⟨⟨by omega,by omega⟩,v,w,E,hI.keep hB,⟨rfl,rfl⟩,rfl,⟨rfl,?_⟩,rfl,?_⟩
     ·rw [buttN_succ,if_neg (by omega)]
      simp
     ·rw [valvN_succ,if_neg (by rw [hk]; simp [hpl])]
      simp
    ·refine GCall.sure ⟨by simp [hpl],(hdv.mid [(3,_),(1,_)] [_,_]).mono ?_⟩ (by simp [hpl])
     rintro r H' ⟨rfl,rfl⟩
     cases hdz : drivenZ p.drives n with
     | none=>
      simp [hpl,idxI]
      refine V.drawX (fun _=>none) (by kernel_rfl) (by kernel_rfl) (by simp) ?_
      simp
      intro u
      refine ⟨by omega,by kernel_rfl,⟨by omega,by omega⟩,v,u,E,hI.keep hB,⟨rfl,rfl⟩,rfl,⟨rfl,?_⟩,rfl,?_⟩
      ·rw [buttN_succ,if_neg (by omega)]
       simp
      ·rw [valvN_succ,if_pos (by rw [hk]; exact ⟨hpl,hdz⟩)]
       simp
     | some m=>
      simp [hpl,idxI]
      refine ⟨fun hh=>by omega,⟨by omega,by omega⟩,v,w,E,hI.keep hB,⟨rfl,rfl⟩,rfl,⟨rfl,?_⟩,rfl,?_⟩
      ·rw [buttN_succ,if_neg (by omega)]
       simp
      ·rw [valvN_succ,if_neg (by rw [hdz]; simp)]
       simp
 ·rintro ⟨v,w,E⟩ hI
  simp only at hI
  have hI:=hI.lnV
  have hvl : p.valv.length ≤ 64:=Nat.le_trans (valvN_len _ _ _) hl
  have hbl : p.butt.length ≤ 64:=Nat.le_trans (buttN_len _ _) hl
  rw [show buttN p.ps p.ps.length = p.butt from rfl,show valvN p.ps p.drives p.ps.length = p.valv from rfl]
  simp [hps]
  refine V.forI (σ:=List (L × L)) p.valv.length [1,110,111] (by simp; exact rfl) (fun n _=>[(112,aI n)]) (fun n q=>(1,.box b1 [.ptr 170 s.b 0]) :: ((s.wp v w q).hp ++ [bE v p.butt,vE w p.valv])) (fun n q=>LnV p n q) E hI (by simp) ⟨by simp; exact rfl,by simp⟩ ?_ ?_
  ·rintro n F hn hI
   obtain ⟨i,hi⟩ : ∃ i,p.valv[n] = i:=⟨_,rfl⟩
   have hio : p.valv[n]? = some i:=by rw [List.getElem?_eq_getElem hn,hi]
   have hfo:=first_o (s:=s) hdr hdl hbl v w F
   have hfb : p.first ≤ 192:=by unfold Pln.first; omega
   simp [hn,hi,hio]
   refine V.drawX (fun t=>if t = 123 then some (.ro (aI p.first)) else none) (by kernel_rfl) (by kernel_rfl) (by simp) ?_
   simp [hod]
   refine ⟨hfo,?_⟩
   have e : ((p.first + p.order.length + n : Nat) : Int) = (p.first : Int) + p.order.length + n:=by omega
   have:=hI.put hio
   rw [e] at this
   exact ⟨⟨by omega,by omega⟩,⟨by omega,by omega⟩,by kernel_rfl,⟨by omega,by omega⟩,this⟩
  ·rintro F hI
   simp
   exact ⟨v,w,F,(subP.refl _).c _,hI⟩
theorem place_s {s : PlS} {p : Pln} (h : s.Pre p) (hbu : s.bu = .nils) (hva : s.va = .nils) (hlE : s.lE = []) :
  CallS Tryz.prog 86 [.ptr 170 s.b 0] s.hp fun r H'=>∃ s' : PlS,r = .tuple [] ∧ H' = s'.hp ∧ s'.At p ∧ s'.b = s.b:=by
 refine CallS.inv (H':=(s.wp (.slice none 0 0) (.slice none 0 0) []).hp ++ [bE (.slice none 0 0) [],vE (.slice none 0 0) []]) (fun x H0 hi=>?_) (fun x vs hv=>hv)
  ((((place_s0 h).frzCell (K':=fun r H'=>∃ w E,r = .tuple [] ∧ H' = ({ s with bu:=aNs p.butt,va:=.own 174 w,lE:=E } : PlS).hp ++ [vE w p.valv] ∧ LnV p p.valv.length E) ?_)).frzCell ?_)
 ·have h1 : Inv x ((173,.seq (.slice none 0 0) 3 1 []) :: (174,.seq (.slice none 0 0) 3 1 []) :: ((s.wp (.slice none 0 0) (.slice none 0 0) []).hp ++ H0)):=by
   refine Inv.nil (t:=173) (e:=.seq (.slice none 0 0) 3 1 []) (Inv.nil (t:=174) (e:=.seq (.slice none 0 0) 3 1 []) ?_ ⟨rfl,rfl⟩) ⟨rfl,rfl⟩
   have hi2:=Inv.swap (g:=170) (H:=s.hp) (e:=.box s.b s.cells) (e':=.box s.b (s.wp (.slice none 0 0) (.slice none 0 0) []).cells) rfl (box_sat ?_) (fun b hb=>hb) hi
   ·unfold PlS.hp at hi2
    rw [hlE] at hi2
    exact hi2
   ·unfold PlS.cells
    rw [hbu,hva]
    exact Ds_c D_i (Ds_c D_i (Ds_c D_i (Ds_c D_i (Ds_c D_i (Ds_c D_i (Ds_c D_nilo (Ds_c D_nilo Ds_i)))))))
  refine h1.perm ?_
  rw [List.append_assoc]
  exact List.perm_append_comm_assoc _ [((173 : Nat),Ent.seq (.slice none 0 0) 3 1 []),((174 : Nat),Ent.seq (.slice none 0 0) 3 1 [])] _
 ·rintro r H' ⟨v,w,E,rfl,rfl,hE⟩
  refine ⟨170,173,s.b,6,173,v,3,1,p.butt.map rN,(s.wp v w E).cells,rfl,rfl,allD_n _,rfl,w,E,rfl,?_,hE⟩
  rw [rowsD_n]
  rfl
 ·rintro r H' ⟨w,E,rfl,rfl,hE⟩
  refine ⟨170,174,s.b,7,174,w,3,1,p.valv.map rN,({ s with bu:=aNs p.butt,va:=.own 174 w,lE:=E } : PlS).cells,rfl,rfl,allD_n _,rfl,{ s with bu:=aNs p.butt,va:=aNs p.valv,lE:=E },rfl,?_,⟨⟨h.ok.few,h.ok.kinds,h.ok.nets,h.ok.net,h.ok.of⟩,h.ps,h.ns,h.dr,h.dl,h.od,h.ol,rfl,rfl,hE.all⟩,rfl⟩
  rw [rowsD_n]
  rfl
end Go.Proofs.YtpadinblmjlggaaGreatDoor
end

section
namespace Go.Proofs.YtpadinblmjlggaaGreatDoor
open Go.Sort
set_option maxHeartbeats 4000000
set_option maxRecDepth 10000
theorem grow_invI {x : X} {H : Heap} (hi : Inv x H) (k : Nat) (os : Array Obj) : x.le ⟨grow (x.w.drewN k) os,x.ok⟩ ∧ Inv ⟨grow (x.w.drewN k) os,x.ok⟩ H:=by
 have hold : ∀ b,b < x.w.heap.size → (grow (x.w.drewN k) os).heap[b]? = x.w.heap[b]?:=by
  intro b hb
  simp only [grow]
  rw [Array.getElem?_append_left (by simpa [World.drewN] using hb)]
  rfl
 have hle : x.le ⟨grow (x.w.drewN k) os,x.ok⟩:=⟨fun b hb=>⟨hb,hold b (hi.bd b hb)⟩,rfl,rfl,rfl,by simp [grow,World.drewN],by simp [grow,World.drewN]⟩
 exact ⟨hle,hi.step hle (fun b hb=>Nat.lt_of_lt_of_le (hi.bd b hb) hle.size) (fun b hb=>.inl hb) fun p hp b ho=>hold b (hi.own p hp b ho).1⟩
theorem pow_tabI {x : X} (h : Tabs x) : Go.Lib.TabIs Tryz.prog x.w "internal/strconv.uint64pow10" .u64 Go.Lib.pow10Tab:=by
 have hm : (2,Go.Lib.pow10Tab.map fun z=>L.int .u64 z) ∈ tabL:=List.Mem.head _
 obtain ⟨_,ty,fr,h2⟩:=h _ hm
 have hg : (Tryz.prog).globalNamed "internal/strconv.uint64pow10" = some 2:=by kernel_rfl
 unfold Go.Lib.TabIs World.var?
 rw [hg]
 simp only [Option.bind_some,h2]
 simp [plV]
theorem ItoaD_fn (n : Nat) (hn : (n : Int) ≤ 9223372036854775807) : CallFn Tryz.prog 142 [aI n] (.dat (.str (Go.Lib.decDigits n))):=by
 refine ⟨⟨_,Tryz.func142,by kernel_rfl,by kernel_rfl⟩,fun x args H0 hi hd=>?_⟩
 have ha : args = #[.int .i64 n]:=by
  rcases args with ⟨l⟩
  obtain ⟨v,e,hv⟩:=Ds.one hd
  simp only [D,RdL] at hv
  simp only at e
  rw [e,hv]
 subst ha
 have hi0 : Inv x H0:=by simpa using hi
 refine (Any.strconv_Itoa itLays n (by omega) hn x.w (pow_tabI hi.bd.tab)).mono ?_
 rintro _ _ ⟨rfl,k,os,rfl⟩
 obtain ⟨h1,h2⟩:=grow_invI hi0 k os
 refine ⟨⟨grow (x.w.drewN k) os,x.ok⟩,_,_,[],rfl,rfl,h1,by simpa using h2,?_,rfl,rfl⟩
 simp only [D,RdL,Go.Lib.itoa]
 rw [if_neg (by omega),Int.toNat_natCast]
end Go.Proofs.YtpadinblmjlggaaGreatDoor
end

section
namespace Go.Proofs.YtpadinblmjlggaaGreatDoor
set_option maxHeartbeats 8000000
set_option maxRecDepth 10000
theorem plusK_port : ∀ k,k < 14 → plusK k ≠ [] → plusK k ∈ portsK k:=by
 refine k_cases ⟨?_,?_,?_,?_,?_,?_,?_,?_,?_,?_,?_,?_,?_,?_⟩ <;> decide
theorem minusK_port : ∀ k,k < 14 → minusK k ≠ [] → minusK k ∈ portsK k:=by
 refine k_cases ⟨?_,?_,?_,?_,?_,?_,?_,?_,?_,?_,?_,?_,?_,?_⟩ <;> decide
theorem moved_s {s : PlS} {p : Pln} (h : s.At p) {i : Nat} (hi : i ∈ p.valv) : CallS Tryz.prog 144 [.ptr 170 s.b 0,aI i] s.hp fun r H'=>r = .record (encS (p.movS i)) ∧ H' = s.hp:=by
 obtain ⟨hi1,hi2,_⟩:=mem_valvN.1 hi
 have hpl:=h.pl
 have hps:=h.ps
 have hkl:=h.klt i
 have hk:=h.kind hi1
 obtain ⟨x,hx⟩ : ∃ x,p.ps[i] = x:=⟨_,rfl⟩
 have hxo : p.ps[i]? = some x:=by rw [List.getElem?_eq_getElem hi1,hx]
 have hg1:=netGate_s h (port_of hi1 (plusK_port _ hkl hi2))
 have hg2:=fun hm=>netGate_s h (port_of hi1 (minusK_port _ hkl hm))
 have hpi:=Pilots_k (kindOf p.ps i) hkl
 have hit:=ItoaD_fn i (by omega)
 unfold Pln.movS
 rw [hxo]
 generalize p.gate i (plusK (kindOf p.ps i)) = gp at *
 generalize p.gate i (minusK (kindOf p.ps i)) = gm at *
 generalize plusK (kindOf p.ps i) = pl at *
 generalize minusK (kindOf p.ps i) = mi at *
 generalize kindOf p.ps i = k at *
 have hop:=opposite_fn gp
 refine CallS.dropP (callS_of Tryz.func144 rfl Tryz.ntmps144 (rs:=[.cell 4 100]) rfl (by kernel_rfl) (by simp) (by kernel_rfl) (K:=fun r H'=>r = .record (encS ⟨118 :: decN i,if k = 12 then 2 else 1,gp,if k = 12 then nulE else if mi ≠ [] then gm else notE gp,if k = 12 then ((some x).map (·.delay)).getD 0 else 0,false⟩) ∧ subP s.hp H') ?_) (fun _ _ ⟨h1,h2⟩=>⟨_,h2,h1,rfl⟩)
 simp
 intro b4
 refine (hk.mid [(4,_)] []).mono ?_
 rintro r H' ⟨rfl,rfl⟩
 simp
 refine hpi.s ?_
 simp
 refine hit.s ?_
 simp
 refine ⟨by have:=decN_len2 i; unfold decN at this; omega,(hg1.mid [(4,_)] []).mono ?_⟩
 rintro r H' ⟨rfl,rfl⟩
 simp
 intro b8
 refine (hk.mid [(8,_),(4,_)] []).mono ?_
 rintro r H' ⟨rfl,rfl⟩
 simp
 refine ⟨fun hk12=>?_,fun hk12=>⟨fun hmi=>?_,fun hmi=>?_⟩⟩
 ·have hk : k = 12:=by omega
  subst hk
  refine V.drawX (fun _=>none) (by kernel_rfl) (by kernel_rfl) (by simp) ?_
  simp [hps,hi1,hx,hxo]
  refine ⟨by kernel_rfl,⟨rfl,?_⟩,((subP.refl _).c _).c _⟩
  simp [nulE]
 ·have hk : ¬ k = 12:=by omega
  refine ((hg2 hmi).mid [(8,_),(4,_)] []).mono ?_
  rintro r H' ⟨rfl,rfl⟩
  simp [hk,hmi]
  exact ⟨rfl,((subP.refl _).c _).c _⟩
 ·have hk : ¬ k = 12:=by omega
  refine hop.s ?_
  generalize notE gp = ng at *
  simp [hk,hmi]
  exact ⟨rfl,((subP.refl _).c _).c _⟩
end Go.Proofs.YtpadinblmjlggaaGreatDoor
end

section
namespace Go.Proofs.YtpadinblmjlggaaGreatDoor
set_option maxHeartbeats 8000000
set_option maxRecDepth 10000
abbrev rTx (t : List UInt8) : List A:=[.dat (.str t)]
abbrev rSg (x : Signal) : List A:=(encS x).map A.dat
abbrev rIn (n : Int) : List A:=[.dat (.int .i64 n)]
structure CtV where
 vi : Value
 vs : Value
 vp : Value
 vm : Value
 I : List (List UInt8)
 S : List Signal
 P : List Int
 M : List Int
abbrev CtV.hp (q : CtV) (s : PlS) (n : Int) (b2 b3 : Nat) : Heap:=(61,.seq q.vi 9 1 (q.I.map rTx)) :: (62,.seq q.vs 100 10 (q.S.map rSg)) :: (63,.seq q.vp 3 1 (q.P.map rIn)) :: (64,.seq q.vm 3 1 (q.M.map rIn)) ::
 (3,.box b3 [aI n,.own 61 q.vi,.own 62 q.vs,.own 63 q.vp,.own 64 q.vm]) :: (2,.box b2 [aI 0,.nils,.nils,.nils,.nils]) :: s.hp
abbrev CtV.top (q : CtV) (s : PlS) : Heap:=(61,.seq q.vi 9 1 (q.I.map rTx)) :: (62,.seq q.vs 100 10 (q.S.map rSg)) :: (63,.seq q.vp 3 1 (q.P.map rIn)) :: (64,.seq q.vm 3 1 (q.M.map rIn)) :: s.hp
abbrev ctE (s : PlS) (b2 b3 : Nat) : List (Nat × A):=[(0,.ptr 170 s.b 0),(2,.ptr 2 b2 0),(3,.ptr 3 b3 0)]
abbrev CtQ (s : PlS) (p : Pln) : A → Heap → Prop:=fun r H'=>∃ q : CtV,r = .agg [aI p.drives.length,.own 61 q.vi,.own 62 q.vs,.own 63 q.vp,.own 64 q.vm] ∧ subP (q.top s) H' ∧ (⟨p.drives.length,q.I,q.S,q.P,q.M⟩ : Control) = p.ctl
structure Pln.D (p : Pln) : Prop where
 val : ∀ d ∈ p.drives,kindOf p.ps d.2 = 2 ∨ kindOf p.ps d.2 = 3
 ord : ∀ n ∈ p.order,n < p.nets.length
theorem control_d {s : PlS} {p : Pln} (h : s.At p) (hD : p.D) (hB : p.B) (b2 b3 : Nat) (q : CtV) (hI : q.I = p.butt.map fun i=>((p.ps[i]?).map (·.name)).getD []) (hS : q.S = p.sig0) (hP : q.P = []) (hM : q.M = []) :
  V ⟨Tryz.prog,none,143⟩ (restC Tryz.f87 5) (hdE (ctE s b2 b3) []) (q.hp s p.drives.length b2 b3) (RetV Tryz.prog [.cell 2 44] (CtQ s p)):=by
 have hdr:=h.dr
 have hdl:=h.dl
 refine V.rest rfl ?_
 refine V.of_vcN 1 ?_
 simp [hdr]
 refine V.forI (σ:=CtV) p.drives.length [0,2,3,86,87] (by simp; exact rfl) (fun n _=>[(88,aI n)]) (fun _ q=>q.hp s p.drives.length b2 b3) (fun n q=>q.I = (p.butt.map fun i=>((p.ps[i]?).map (·.name)).getD []) ∧ p.pil n = (q.P,q.M,q.S)) q ⟨hI,by rw [hS,hP,hM]; rfl⟩ (by simp) ⟨by simp; exact rfl,by simp⟩ ?_ ?_
 ·rintro n ⟨vi,vs,vp,vm,I,S,P,M⟩ hn ⟨hI,hJ⟩
  simp only at hI hJ
  obtain ⟨d,hd⟩ : ∃ d,p.drives[n] = d:=⟨_,rfl⟩
  have hdo : p.drives[n]? = some d:=by rw [List.getElem?_eq_getElem hn,hd]
  have hsu:=p.pil_succ hdo
  rw [hJ] at hsu
  have hkd:=hD.val d (List.mem_of_getElem? hdo)
  have hdl2 : d.2 < p.ps.length:=kindOf_lt (by omega)
  have hg1:=netGate_s h (i:=d.2) (t:=[49,52]) (port_of hdl2 (by rcases hkd with e | e <;> rw [e] <;> decide))
  have hg2:=fun e : kindOf p.ps d.2 = 2=>netGate_s h (i:=d.2) (t:=[49,50]) (port_of hdl2 (by rw [e]; decide))
  have hkk:=h.kind hdl2
  have hf:=first_s h
  have hpl:=h.pl
  have hit:=ItoaD_fn d.2 (by omega)
  have hdn:=decN_len2 d.2
  have hb:=hB.pil (fun d hd=>kindOf_lt (by have:=hD.val d hd; omega)) n (by omega)
  rw [hJ] at hb
  obtain ⟨a1,a2,a3,a4,a5,a6,a7⟩:=hb
  simp only at a1 a2 a3 a4 a5 a6 a7
  have hs0 : p.sig0.length ≤ 512:=by
   have:=hB.ol
   have:=hB.vl
   unfold Pln.sig0
   simp only [List.length_append,List.length_map]
   omega
  have hfl:=hB.fl
  unfold Pln.drvS at hsu
  simp only at hsu
  rw [hsu]
  simp [hn,hd,hdo]
  intro b11
  refine (hg1.mid [(11,_),(61,_),(62,_),(63,_),(64,_),(3,_),(2,_)] []).mono ?_
  rintro r H' ⟨rfl,rfl⟩
  obtain ⟨g1,hg1e⟩ : ∃ g,p.gate d.2 [49,52] = g:=⟨_,rfl⟩
  rw [hg1e]
  simp
  intro b12 u
  refine ⟨by omega,(hkk.mid [(12,_),(11,_),(61,_),(62,_),(63,_),(64,_),(3,_),(2,_)] []).mono ?_⟩
  rintro r H' ⟨rfl,rfl⟩
  rcases hkd with hkd | hkd
  ·rw [if_pos hkd,if_pos hkd]
   have hg2:=hg2 hkd
   obtain ⟨g2,hg2e⟩ : ∃ g,p.gate d.2 [49,50] = g:=⟨_,rfl⟩
   rw [hg2e] at hg2 ⊢
   simp [hkd]
   refine V.drawX (fun t=>if t = 113 then some (.ro (aE g2)) else none) (by kernel_rfl) (by kernel_rfl) (by simp) ?_
   simp
   refine ⟨hg2,?_⟩
   simp
   intro u1
   refine ⟨by omega,by kernel_rfl,⟨by omega,by omega⟩,⟨⟨vi,vs,u,u1,I,S,P ++ [g1.index],M ++ [g2.index]⟩,⟨hI,rfl,rfl,rfl⟩,?_⟩⟩
   simp
  ·rw [if_neg (by omega),if_neg (by omega)]
   simp [hkd]
   refine V.drawX (fun t=>if t = 121 then some (.ro (aI p.first)) else none) (by kernel_rfl) (by kernel_rfl) (by simp) ?_
   simp
   refine ⟨hf,?_⟩
   have hop:=opposite_fn g1
   have hng : p.sprS d.2 = ⟨119 :: decN d.2,0,notE g1,nulE,0,false⟩:=by unfold Pln.sprS; rw [hg1e]
   rw [hng]
   generalize notE g1 = ng at *
   simp
   refine ⟨⟨by omega,by omega⟩,fun u1=>⟨by omega,by kernel_rfl,?_⟩⟩
   refine V.drawX (fun t=>if t = 133 then some (.fn (.dat (.str (Go.Lib.decDigits d.2)))) else if t = 136 then some (.fn (aE ng)) else none) (by kernel_rfl) (by kernel_rfl) (by simp) ?_
   simp
   refine ⟨hit,by unfold decN at hdn; omega,hop,fun u2=>⟨by omega,by kernel_rfl,⟨by omega,by omega⟩,⟨⟨vi,u2,u,u1,I,S ++ [⟨119 :: decN d.2,0,ng,nulE,0,false⟩],P ++ [g1.index],M ++ [(p.first : Int) + S.length]⟩,⟨hI,rfl,rfl,rfl⟩,?_⟩⟩⟩
   simp [nulE,decN]
 ·rintro ⟨vi,vs,vp,vm,I,S,P,M⟩ ⟨hI,hJ⟩
  simp only at hI hJ
  simp
  refine V.of_vc ?_
  simp
  refine ⟨⟨vi,vs,vp,vm,I,S,P,M⟩,rfl,?_,?_⟩
  ·exact ((((((subP.refl _).c _).c _).cc _).cc _).cc _).cc _
  ·unfold Pln.ctl
   rw [hJ,hI]
theorem control_c {s : PlS} {p : Pln} (h : s.At p) (hD : p.D) (hB : p.B) (b2 b3 : Nat) (q : CtV) (hI : q.I = p.butt.map fun i=>((p.ps[i]?).map (·.name)).getD []) (hS : q.S = p.order.map p.netS) (hP : q.P = []) (hM : q.M = []) :
  V ⟨Tryz.prog,none,143⟩ (restC Tryz.f87 4) (hdE (ctE s b2 b3) []) (q.hp s p.drives.length b2 b3) (RetV Tryz.prog [.cell 2 44] (CtQ s p)):=by
 have hva:=h.va
 have hvl:=h.vl
 have hol:=h.ol
 refine V.rest rfl ?_
 refine V.of_vcN 1 ?_
 simp [hva]
 refine V.forI (σ:=CtV) p.valv.length [0,2,3,68,69] (by simp; exact rfl) (fun n _=>[(70,aI n)]) (fun _ q=>q.hp s p.drives.length b2 b3) (fun n q=>q.I = (p.butt.map fun i=>((p.ps[i]?).map (·.name)).getD []) ∧ q.S = p.order.map p.netS ++ (p.valv.take n).map p.movS ∧ q.P = [] ∧ q.M = []) q ⟨hI,by simpa using hS,hP,hM⟩ (by simp) ⟨by simp; exact rfl,by simp⟩ ?_ ?_
 ·rintro n ⟨vi,vs,vp,vm,I,S,P,M⟩ hn ⟨hI,hS,hP,hM⟩
  simp only at hI hS hP hM
  obtain ⟨i,hi⟩ : ∃ i,p.valv[n] = i:=⟨_,rfl⟩
  have hio : p.valv[n]? = some i:=by rw [List.getElem?_eq_getElem hn,hi]
  have hmv:=moved_s h (List.mem_of_getElem? hio)
  have hSl : S.length ≤ 512:=by
   rw [hS]
   simp only [List.length_append,List.length_map,List.length_take]
   omega
  rw [List.take_add_one,hio]
  obtain ⟨m,hm⟩ : ∃ m,p.movS i = m:=⟨_,rfl⟩
  rw [hm] at hmv
  have hS2 : S ++ [m] = p.order.map p.netS ++ (p.valv.take n ++ [i]).map p.movS:=by rw [hS,List.map_append,List.append_assoc]; simp [hm]
  simp only [Option.toList_some]
  rw [← hS2]
  simp [hn,hi,hio]
  refine V.drawX (fun t=>if t = 78 then some (.ro (.record (encS m))) else none) (by kernel_rfl) (by kernel_rfl) (by simp) ?_
  simp
  refine ⟨hmv,fun u=>⟨by omega,by kernel_rfl,⟨by omega,by omega⟩,⟨vi,u,vp,vm,I,S ++ [m],P,M⟩,⟨hI,rfl,hP,hM⟩,?_⟩⟩
  simp
 ·rintro ⟨vi,vs,vp,vm,I,S,P,M⟩ ⟨hI,hS,hP,hM⟩
  simp only at hI hS hP hM
  rw [List.take_length] at hS
  simp
  exact V.cutV (Hs:=CtV.hp ⟨vi,vs,vp,vm,I,S,P,M⟩ s p.drives.length b2 b3) (ctE s b2 b3) (by simp) (by simp) (V.of_rest rfl (control_d h hD hB b2 b3 ⟨vi,vs,vp,vm,I,S,P,M⟩ hI hS hP hM))
theorem control_b {s : PlS} {p : Pln} (h : s.At p) (hD : p.D) (hB : p.B) (b2 b3 : Nat) (q : CtV) (hI : q.I = p.butt.map fun i=>((p.ps[i]?).map (·.name)).getD []) (hS : q.S = []) (hP : q.P = []) (hM : q.M = []) :
  V ⟨Tryz.prog,none,143⟩ (restC Tryz.f87 3) (hdE (ctE s b2 b3) []) (q.hp s p.drives.length b2 b3) (RetV Tryz.prog [.cell 2 44] (CtQ s p)):=by
 have hod:=h.od
 have hol:=h.ol
 refine V.rest rfl ?_
 refine V.of_vcN 1 ?_
 simp [hod]
 refine V.forI (σ:=CtV) p.order.length [0,2,3,46,47] (by simp; exact rfl) (fun n _=>[(48,aI n)]) (fun _ q=>q.hp s p.drives.length b2 b3) (fun n q=>q.I = (p.butt.map fun i=>((p.ps[i]?).map (·.name)).getD []) ∧ q.S = (p.order.take n).map p.netS ∧ q.P = [] ∧ q.M = []) q ⟨hI,by simpa using hS,hP,hM⟩ (by simp) ⟨by simp; exact rfl,by simp⟩ ?_ ?_
 ·rintro n ⟨vi,vs,vp,vm,I,S,P,M⟩ hn ⟨hI,hS,hP,hM⟩
  simp only at hI hS hP hM
  obtain ⟨i,hi⟩ : ∃ i,p.order[n] = i:=⟨_,rfl⟩
  have hio : p.order[n]? = some i:=by rw [List.getElem?_eq_getElem hn,hi]
  have him:=hD.ord i (List.mem_of_getElem? hio)
  have hfd:=fed_s h him
  have hsm:=hB.small i (List.mem_of_getElem? hio)
  have hit:=ItoaD_fn i (by omega)
  have hdn:=decN_len2 i
  have hSl : S.length ≤ 448:=by
   rw [hS]
   simp only [List.length_map,List.length_take]
   omega
  rw [List.take_add_one,hio]
  obtain ⟨x,hx⟩ : ∃ x,p.fed i = x:=⟨_,rfl⟩
  rw [hx] at hfd
  have hS2 : S ++ [⟨110 :: decN i,0,x,nulE,0,false⟩] = (p.order.take n ++ [i]).map p.netS:=by
   rw [hS,List.map_append,← hx]
   rfl
  simp only [Option.toList_some]
  rw [← hS2]
  simp [hn,hi,hio]
  refine V.drawX (fun t=>if t = 55 then some (.fn (.dat (.str (Go.Lib.decDigits i)))) else if t = 59 then some (.ro (aE x)) else none) (by kernel_rfl) (by kernel_rfl) (by simp) ?_
  simp
  refine ⟨hit,by unfold decN at hdn; omega,hfd,fun u=>⟨by omega,by kernel_rfl,⟨by omega,by omega⟩,⟨vi,u,vp,vm,I,S ++ [⟨110 :: decN i,0,x,nulE,0,false⟩],P,M⟩,⟨hI,rfl,hP,hM⟩,?_⟩⟩
  simp [nulE,decN]
 ·rintro ⟨vi,vs,vp,vm,I,S,P,M⟩ ⟨hI,hS,hP,hM⟩
  simp only at hI hS hP hM
  rw [List.take_length] at hS
  simp
  exact V.cutV (Hs:=CtV.hp ⟨vi,vs,vp,vm,I,S,P,M⟩ s p.drives.length b2 b3) (ctE s b2 b3) (by simp) (by simp) (V.of_rest rfl (control_c h hD hB b2 b3 ⟨vi,vs,vp,vm,I,S,P,M⟩ hI hS hP hM))
theorem control_a {s : PlS} {p : Pln} (h : s.At p) (hD : p.D) (hB : p.B) (b2 b3 : Nat) (q : CtV) (hI : q.I = []) (hS : q.S = []) (hP : q.P = []) (hM : q.M = []) :
  V ⟨Tryz.prog,none,143⟩ (restC Tryz.f87 2) (hdE (ctE s b2 b3) []) (q.hp s p.drives.length b2 b3) (RetV Tryz.prog [.cell 2 44] (CtQ s p)):=by
 have hbu:=h.bu
 have hbl:=h.bl
 have hps:=h.ps
 refine V.rest rfl ?_
 refine V.of_vcN 1 ?_
 simp [hbu]
 refine V.forI (σ:=CtV) p.butt.length [0,2,3,22,23] (by simp; exact rfl) (fun n _=>[(24,aI n)]) (fun _ q=>q.hp s p.drives.length b2 b3) (fun n q=>q.I = ((p.butt.take n).map fun i=>((p.ps[i]?).map (·.name)).getD []) ∧ q.S = [] ∧ q.P = [] ∧ q.M = []) q ⟨by simpa using hI,hS,hP,hM⟩ (by simp) ⟨by simp; exact rfl,by simp⟩ ?_ ?_
 ·rintro n ⟨vi,vs,vp,vm,I,S,P,M⟩ hn ⟨hI,hS,hP,hM⟩
  simp only at hI hS hP hM
  obtain ⟨i,hi⟩ : ∃ i,p.butt[n] = i:=⟨_,rfl⟩
  have hio : p.butt[n]? = some i:=by rw [List.getElem?_eq_getElem hn,hi]
  have him:=(mem_buttN.1 (List.mem_of_getElem? hio)).1
  obtain ⟨x,hx⟩ : ∃ x,p.ps[i] = x:=⟨_,rfl⟩
  have hxo : p.ps[i]? = some x:=by rw [List.getElem?_eq_getElem him,hx]
  have hIl : I.length ≤ 64:=by
   rw [hI]
   simp only [List.length_map,List.length_take]
   omega
  rw [List.take_add_one,hio]
  have hI2 : I ++ [x.name] = (p.butt.take n ++ [i]).map fun i=>((p.ps[i]?).map (·.name)).getD []:=by
   rw [hI,List.map_append]
   simp [hxo]
  simp only [Option.toList_some]
  rw [← hI2]
  simp [hn,hi,hio]
  refine V.drawX (fun _=>none) (by kernel_rfl) (by kernel_rfl) (by simp) ?_
  simp [hps,him,hx,hxo]
  intro u
  refine ⟨by omega,by kernel_rfl,⟨by omega,by omega⟩,⟨u,vs,vp,vm,I ++ [x.name],S,P,M⟩,⟨rfl,hS,hP,hM⟩,?_⟩
  simp
 ·rintro ⟨vi,vs,vp,vm,I,S,P,M⟩ ⟨hI,hS,hP,hM⟩
  simp only at hI hS hP hM
  rw [List.take_length] at hI
  simp
  exact V.cutV (Hs:=CtV.hp ⟨vi,vs,vp,vm,I,S,P,M⟩ s p.drives.length b2 b3) (ctE s b2 b3) (by simp) (by simp) (V.of_rest rfl (control_b h hD hB b2 b3 ⟨vi,vs,vp,vm,I,S,P,M⟩ hI hS hP hM))
theorem control_s {s : PlS} {p : Pln} (h : s.At p) (hD : p.D) (hB : p.B) : CallS Tryz.prog 87 [.ptr 170 s.b 0] s.hp fun r H'=>r = aC p.ctl ∧ H' = s.hp:=by
 have hdr:=h.dr
 have hdl:=h.dl
 refine CallS.frzKeep (CallS.dropP (callS_cut 2 Tryz.func87 rfl Tryz.ntmps87 (rs:=[.cell 2 44]) rfl (by kernel_rfl) (by simp) (by kernel_rfl) (K:=CtQ s p) ?_) (K':=fun r H'=>∃ q : CtV,r = .agg [aI p.drives.length,.own 61 q.vi,.own 62 q.vs,.own 63 q.vp,.own 64 q.vm] ∧ H' = q.top s ∧ (⟨p.drives.length,q.I,q.S,q.P,q.M⟩ : Control) = p.ctl) (fun _ _ ⟨q,h1,h2,h3⟩=>⟨_,h2,q,h1,rfl,h3⟩)) ?_
 ·simp [hdr]
  intro b2 b3
  refine V.inv (H':=CtV.hp ⟨.slice none 0 0,.slice none 0 0,.slice none 0 0,.slice none 0 0,[],[],[],[]⟩ s p.drives.length b2 b3) (fun x H0 hi=>?_) (V.cutV (Hs:=CtV.hp ⟨.slice none 0 0,.slice none 0 0,.slice none 0 0,.slice none 0 0,[],[],[],[]⟩ s p.drives.length b2 b3) (ctE s b2 b3) (by simp) (by simp) (V.of_rest rfl (control_a h hD hB b2 b3 ⟨.slice none 0 0,.slice none 0 0,.slice none 0 0,.slice none 0 0,[],[],[],[]⟩ rfl rfl rfl rfl)))
  refine Inv.nil (t:=61) (e:=.seq (.slice none 0 0) 9 1 []) (Inv.nil (t:=62) (e:=.seq (.slice none 0 0) 100 10 []) (Inv.nil (t:=63) (e:=.seq (.slice none 0 0) 3 1 []) (Inv.nil (t:=64) (e:=.seq (.slice none 0 0) 3 1 []) ?_ ⟨rfl,rfl⟩) ⟨rfl,rfl⟩) ⟨rfl,rfl⟩) ⟨rfl,rfl⟩
  exact Inv.swap (g:=3) (H:=(3,.box b3 [aI p.drives.length,.nils,.nils,.nils,.nils]) :: (2,.box b2 [aI 0,.nils,.nils,.nils,.nils]) :: s.hp) (e:=.box b3 [aI p.drives.length,.nils,.nils,.nils,.nils]) (e':=.box b3 [aI p.drives.length,.own 61 (.slice none 0 0),.own 62 (.slice none 0 0),.own 63 (.slice none 0 0),.own 64 (.slice none 0 0)]) rfl (box_sat (Ds_c D_i (Ds_c D_nilo (Ds_c D_nilo (Ds_c D_nilo (Ds_c D_nilo Ds_i)))))) (fun b hb=>hb) hi
 ·rintro r H' ⟨q,rfl,rfl,hq⟩
  refine ⟨[(61,_),(62,_),(63,_),(64,_)],s.hp,List.Perm.refl _,?_,?_,rfl⟩
  ·simp [frz,hget,frzs,allD,isD]
  ·rw [← hq]
   simp [frz,hget,frzs,rowsD]
end Go.Proofs.YtpadinblmjlggaaGreatDoor
end

section
namespace Go.Proofs.YtpadinblmjlggaaGreatDoor
set_option maxHeartbeats 4000000
theorem orderN_len (ps : List Prt) (d : List Drv) (nets : List (List PortZ)) : ∀ n,(orderN ps d nets n).length ≤ n
 | 0=>Nat.le_refl _
 | n + 1=>by
  have ih:=orderN_len ps d nets n
  simp only [orderN]
  split
  ·rw [List.length_append,List.length_singleton]; omega
  ·omega
theorem nextZ_mem {ps : List Prt} {d : List Drv} {nets : List (List PortZ)} {order : List Nat} {i : Nat} (h : nextZ ps d nets order = some i) : i < nets.length ∧ countsI ps nets i = true ∧ i ∉ order ∧ readyZ ps d nets order i = true:=by
 unfold nextZ at h
 have h1:=List.mem_of_find?_eq_some h
 have h2:=List.find?_some h
 unfold restZ at h1
 rw [List.mem_filter,List.mem_range] at h1
 simp only [Bool.and_eq_true,Bool.not_eq_true'] at h1
 refine ⟨h1.1,h1.2.1,fun hm=>?_,h2⟩
 have : (order.any fun x=>i == x) = true:=by
  rw [List.any_eq_true]
  exact ⟨i,hm,by simp⟩
 rw [this] at h1
 simp at h1
theorem orderN_mem (ps : List Prt) (d : List Drv) (nets : List (List PortZ)) : ∀ n i,i ∈ orderN ps d nets n → i < nets.length ∧ countsI ps nets i = true
 | 0,i,h=>by simp [orderN] at h
 | n + 1,i,h=>by
  simp only [orderN] at h
  split at h
  ·rename_i k hk
   rcases List.mem_append.1 h with h | h
   ·exact orderN_mem ps d nets n i h
   ·simp only [List.mem_singleton] at h
    subst h
    exact ⟨(nextZ_mem hk).1,(nextZ_mem hk).2.1⟩
  ·exact orderN_mem ps d nets n i h
theorem manyC_le (ps : List Prt) (nets : List (List PortZ)) : manyC ps nets ≤ nets.length:=by
 unfold manyC
 exact Nat.le_trans (List.length_filter_le _ _) (by simp)
theorem mem_cylsN {ps : List Prt} {n i : Nat} : i ∈ cylsN ps n ↔ i < n ∧ kindOf ps i = 1:=by
 unfold cylsN
 simp [List.mem_filter]
theorem drvE_zero {ps : List Prt} {nets : List (List PortZ)} (h : drvE ps nets = 0) : (∀ i ∈ cylsN ps ps.length,(valveZ ps nets i).isSome = true) ∧ cylsN ps ps.length ≠ []:=by
 unfold drvE at h
 split at h
 ·simp at h
 ·rename_i h1
  split at h
  ·simp at h
  ·rename_i h2
   refine ⟨fun i hi=>?_,h2⟩
   cases e : valveZ ps nets i with
   | some k=>rfl
   | none=>
    exfalso
    apply h1
    rw [List.any_eq_true]
    exact ⟨i,hi,by rw [e]; rfl⟩
theorem mem_drvN {ps : List Prt} {nets : List (List PortZ)} (h : drvE ps nets = 0) {d : Drv} (hd : d ∈ drvN ps nets ps.length) : d.1 < ps.length ∧ kindOf ps d.1 = 1 ∧ valveZ ps nets d.1 = some d.2 ∧ d.2 < ps.length ∧ drvB ps nets d.1 d.2 = true:=by
 unfold drvN at hd
 obtain ⟨i,hi,rfl⟩:=List.mem_map.1 hd
 have h1:=(drvE_zero h).1 i hi
 obtain ⟨k,hk⟩:=Option.isSome_iff_exists.1 h1
 obtain ⟨h2,h3⟩:=mem_cylsN.1 hi
 rw [hk]
 simp only [Option.getD_some]
 have hk0:=hk
 unfold valveZ at hk
 obtain ⟨h4,h5,_⟩:=List.findIdx?_eq_some_iff_getElem.1 hk
 simp only [List.length_range] at h4
 simp only [List.getElem_range] at h5
 exact ⟨h2,h3,trivial,h4,h5⟩
theorem drvB_kind {ps : List Prt} {nets : List (List PortZ)} {i v : Nat} (h : drvB ps nets i v = true) : kindOf ps v = 2 ∨ kindOf ps v = 3:=by
 unfold drvB at h
 simp only [Bool.and_eq_true,Bool.or_eq_true,beq_iff_eq] at h
 exact h.1
theorem part_len {p : Prt} (h : partE p = 0) : p.name.length ≤ 24 ∧ 0 ≤ p.delay ∧ p.delay ≤ 1000000:=by
 unfold partE at h
 split at h
 ·simp at h
 ·split at h
  ·rename_i h2
   exact absurd h h2
  ·rename_i h2
   have h3 : wordE p.name = 0:=Classical.not_not.1 h2
   split at h
   ·simp at h
   ·rename_i h4
    simp only [not_or,not_and] at h4
    refine ⟨?_,?_,?_⟩
    ·unfold wordE at h3
     split at h3
     ·simp at h3
     ·split at h3
      ·simp at h3
      ·split at h3
       ·simp at h3
       ·omega
    ·by_cases e : p.kind = 12
     ·have:=h4.1 e; omega
     ·have:=h4.2 e; omega
    ·by_cases e : p.kind = 12
     ·have:=h4.1 e; omega
     ·have:=h4.2 e; omega
theorem planZ_B {c : Cir} (hr : CirR c) : (planZ c).B:=by
 have hn:=netsZ_few hr
 have hm:=manyC_le c.parts (netsZ c)
 have hf:=hr.few
 refine ⟨hf,Nat.le_trans (drvN_len _ _ _) hf,Nat.le_trans (orderN_len _ _ _ _) (by omega),fun l hl=>(netsZ_net hr l hl).1,fun x hx=>?_,fun x hx=>?_,fun n hx=>?_⟩
 ·have:=part_len (hr.part x hx); omega
 ·have:=part_len (hr.part x hx); omega
 ·have:=(orderN_mem _ _ _ _ _ hx).1; omega
theorem planZ_D {c : Cir} (hd : drvE c.parts (netsZ c) = 0) : (planZ c).D:=
 ⟨fun _ h=>drvB_kind (mem_drvN hd h).2.2.2.2,fun _ hx=>(orderN_mem _ _ _ _ _ hx).1⟩
theorem planZ_lim {c : Cir} (hr : CirR c) : ∀ x ∈ c.parts,x.kind = 6 → (∃ q b,x.name = q ++ [b] ∧ (b = 48 ∨ b = 49) ∧ ∃ k,(planZ c).drives.findIdx? (fun d=>(c.parts.getD d.1 x).name == q) = some k):=by
 intro x hx h6
 have ho:=hr.own x hx h6
 unfold ownN at ho
 simp only [Bool.and_eq_true,Bool.or_eq_true,beq_iff_eq] at ho
 obtain ⟨h1,h2⟩:=ho
 have hne : x.name ≠ []:=by
  rintro e
  rw [e] at h1
  simp at h1
 obtain ⟨b,hb⟩ : ∃ b,x.name.getLast? = some b:=by
  rcases h1 with e | e <;> exact ⟨_,e⟩
 have hsp : x.name = x.name.dropLast ++ [b]:=by
  have:=List.dropLast_concat_getLast hne
  rw [List.getLast?_eq_some_getLast hne] at hb
  simp only [Option.some.injEq] at hb
  rw [← hb]
  exact this.symm
 cases hj : findN c.parts x.name.dropLast with
 | none=>rw [hj] at h2; simp at h2
 | some j=>
  rw [hj] at h2
  simp only at h2
  unfold findN at hj
  obtain ⟨hjl,hjn,_⟩:=List.findIdx?_eq_some_iff_getElem.1 hj
  simp only [beq_iff_eq] at hjn
  rw [List.getElem?_eq_getElem hjl] at h2
  simp only [Option.any_some,beq_iff_eq] at h2
  have hk : kindOf c.parts j = 1:=by
   rw [kindOf_at (List.getElem?_eq_getElem hjl),h2]
   rfl
  refine ⟨x.name.dropLast,b,hsp,?_,?_⟩
  ·rcases h1 with e | e
   ·rw [hb] at e; simp only [Option.some.injEq] at e; exact .inl e
   ·rw [hb] at e; simp only [Option.some.injEq] at e; exact .inr e
  ·rw [← Option.isSome_iff_exists,List.findIdx?_isSome,List.any_eq_true]
   refine ⟨(j,(valveZ c.parts (netsZ c) j).getD 0),?_,?_⟩
   ·show _ ∈ drvN _ _ _
    unfold drvN
    exact List.mem_map.2 ⟨j,mem_cylsN.2 ⟨hjl,hk⟩,rfl⟩
   ·simp only [beq_iff_eq]
    rw [List.getD_eq_getElem?_getD,List.getElem?_eq_getElem hjl]
    exact hjn
end Go.Proofs.YtpadinblmjlggaaGreatDoor
end

section
namespace Go.Proofs.YtpadinblmjlggaaGreatDoor
set_option maxHeartbeats 8000000
set_option maxRecDepth 10000
theorem at_fn (xs : List Nat) (v : Nat) (hx : Sh xs) : CallFn Tryz.prog 72 [aNs xs,aI v] (aI (idxI (xs.findIdx? (v == ·)))):=by
 refine callFz_of Tryz.func72 rfl Tryz.ntmps72 (rs:=[.tmp 4]) rfl (by kernel_rfl) (by simp) (by kernel_rfl) ?_
 simp
 refine V.forI (σ:=Unit) xs.length [0,1] (by simp; exact rfl) (fun i _=>[(4,aI 0),(5,aI i)]) (fun _ _=>[]) (fun i _=>NoF (v == ·) (xs.take i)) () (by simp) (by simp) ⟨by simp; exact rfl,by simp⟩ ?_ ?_
 ·rintro i - hi hI
  obtain ⟨x,hxe⟩ : ∃ x,xs[i] = x:=⟨_,rfl⟩
  have hxo : xs[i]? = some x:=by rw [List.getElem?_eq_getElem hi,hxe]
  have hs:=findIdx_step (p:=(v == ·)) hI hxo
  simp [hi,hxe,hxo]
  refine ⟨fun e=>?_,fun e=>⟨⟨by omega,by omega⟩,hs.1 ?_⟩⟩
  ·rw [hs.2 (by simp; omega)]
   simp [idxI]
  ·simp
   omega
 ·rintro - hI
  rw [findIdx_none hI]
  simp [idxI]
theorem drivenR_fn (d : List Drv) (v : Nat) (hx : Sh d) : CallFn Tryz.prog 57 [.dat (.sl (d.map encDr)),aI v] (aI (idxI (drivenZ d v))):=by
 unfold drivenZ
 refine callFz_of Tryz.func57 rfl Tryz.ntmps57 (rs:=[.tmp 4]) rfl (by kernel_rfl) (by simp) (by kernel_rfl) ?_
 simp
 refine V.forI (σ:=Unit) d.length [0,1] (by simp; exact rfl) (fun i _=>[(4,aI 0),(5,aI i)]) (fun _ _=>[]) (fun i _=>NoF (fun q : Drv=>q.2 == v) (d.take i)) () (by simp) (by simp) ⟨by simp; exact rfl,by simp⟩ ?_ ?_
 ·rintro i - hi hI
  obtain ⟨x,hxe⟩ : ∃ x,d[i] = x:=⟨_,rfl⟩
  have hxo : d[i]? = some x:=by rw [List.getElem?_eq_getElem hi,hxe]
  have hs:=findIdx_step (p:=fun q : Drv=>q.2 == v) hI hxo
  simp [hi,hxe,hxo]
  refine ⟨fun e=>?_,fun e=>⟨⟨by omega,by omega⟩,hs.1 ?_⟩⟩
  ·rw [hs.2 (by simp; omega)]
   simp [idxI]
  ·simp
   omega
 ·rintro - hI
  rw [findIdx_none hI]
  simp [idxI]
theorem drives_fn (d : List Drv) (v : Nat) (hx : Sh d) : CallFn Tryz.prog 156 [.dat (.sl (d.map encDr)),aI v] (aB (drivenZ d v).isSome):=by
 unfold drivenZ
 generalize hD : (d.findIdx? fun q=>q.2 == v).isSome = D
 refine callFz_of Tryz.func156 rfl Tryz.ntmps156 (rs:=[.tmp 4]) rfl (by kernel_rfl) (by simp) (by kernel_rfl) ?_
 simp
 refine V.forI (σ:=Unit) d.length [0,1] (by simp; exact rfl) (fun i _=>[(4,aB false),(5,aI i)]) (fun _ _=>[]) (fun i _=>NoF (fun q : Drv=>q.2 == v) (d.take i)) () (by simp) (by simp) ⟨by simp; exact rfl,by simp⟩ ?_ ?_
 ·rintro i - hi hI
  obtain ⟨x,hxe⟩ : ∃ x,d[i] = x:=⟨_,rfl⟩
  have hxo : d[i]? = some x:=by rw [List.getElem?_eq_getElem hi,hxe]
  have hs:=findIdx_step (p:=fun q : Drv=>q.2 == v) hI hxo
  simp [hi,hxe,hxo]
  refine ⟨fun e=>?_,fun e=>⟨⟨by omega,by omega⟩,hs.1 ?_⟩⟩
  ·rw [← hD,hs.2 (by simp; omega)]
   rfl
  ·simp
   omega
 ·rintro - hI
  have:=findIdx_none hI
  rw [← hD,this]
  simp
theorem number_fn2 (b : Bool) : CallFn Tryz.prog 73 [aB b] (aI (if b = true then 1 else 0)):=by
 refine callFz_of Tryz.func73 rfl Tryz.ntmps73 (rs:=[.tmp 2]) rfl (by kernel_rfl) (by simp) (by kernel_rfl) ?_
 cases b <;> simp
theorem variableR_fn (n : Int) : CallFn Tryz.prog 161 [aI n] (aE (varE n)):=by
 refine callFz_of Tryz.func161 rfl Tryz.ntmps161 (rs:=[.cell 2 98]) rfl (by kernel_rfl) (by simp) (by kernel_rfl) ?_
 simp [varE,encE_eq]
theorem turned_fn (x : Expr) : CallFn Tryz.prog 159 [aE x] (aE (notE x)):=by
 obtain ⟨o,n,l⟩:=x
 refine callFz_of Tryz.func159 rfl Tryz.ntmps159 (rs:=[.cell 2 98]) rfl (by kernel_rfl) (by simp) (by kernel_rfl) ?_
 simp [notE,encE_eq]
theorem joinedR_fn (op : Int) (l : List Expr) (hl : l.length ≤ 4294967296) : CallFn Tryz.prog 230 [aI op,.dat (.sl (l.map encE))] (aE (sevE op l)):=by
 refine callFz_of Tryz.func230 rfl Tryz.ntmps230 (rs:=[.cell 4 98]) rfl (by kernel_rfl) (by simp) (by kernel_rfl) ?_
 cases l with
 | nil=>simp [sevE,nulE,encE_eq]
 | cons x l=>
  cases l with
  | nil=>
   obtain ⟨o,n,l⟩:=x
   simp [sevE,encE_eq]
  | cons y l=>
   simp [sevE,encE_eq]
   exact ⟨by omega,fun _ h=>by omega⟩
theorem netW_idx {ns : List (List PortZ)} {p : PortZ} (h : netW ns p < ns.length) : ns.findIdx? (fun l=>l.any (p == ·)) = some (netW ns p):=by
 rw [List.findIdx?_eq_some_iff_findIdx_eq]
 exact ⟨h,rfl⟩
structure NsOK (ns : List (List PortZ)) (all : List PortZ) : Prop where
 few : ns.length ≤ 448
 net : ∀ l ∈ ns,l.length ≤ 448 ∧ l ≠ [] ∧ ∀ p ∈ l,p ∈ all
 of : ∀ p ∈ all,netW ns p < ns.length
theorem nsOK {c : Cir} (hr : CirR c) : NsOK (netsZ c) (allP c.parts):=
 ⟨netsZ_few hr,netsZ_net hr,fun p hp=>by
  obtain ⟨l,h1,_⟩:=netW_some hr hp
  exact (List.getElem?_eq_some_iff.1 h1).1⟩
theorem WhichN_fn {ns : List (List PortZ)} {all : List PortZ} (h : NsOK ns all) {p : PortZ} (hp : p ∈ all) : CallFn Tryz.prog 160 [aNets ns,.record (encPo p)] (aI (netW ns p)):=by
 have:=Which_fn ns p (by have:=h.few; unfold Sh; omega) (fun l hl=>by have:=(h.net l hl).1; unfold Sh; omega)
 rw [netW_idx (h.of p hp)] at this
 exact this
theorem pairR_fn {ns : List (List PortZ)} {all : List PortZ} (h : NsOK ns all) (a b : Nat) (t : List UInt8) (hp : ((a : Int),t) ∈ all) : CallFn Tryz.prog 276 [aNets ns,aI a,aI b,aT t] (aB (pairZ ns a b t)):=by
 have hw:=WhichN_fn h hp
 have hlt:=h.of _ hp
 unfold pairZ
 generalize netW ns ((a : Int),t) = w at *
 obtain ⟨l,hl⟩ : ∃ l,ns[w] = l:=⟨_,rfl⟩
 have hlo : ns[w]? = some l:=by rw [List.getElem?_eq_getElem hlt,hl]
 have hln:=h.net l (List.mem_of_getElem? hlo)
 have hh:=HasP_fn l ((b : Int),t) (by unfold Sh; omega)
 rw [List.getD_eq_getElem?_getD,hlo,Option.getD_some]
 refine callFz_of Tryz.func276 rfl Tryz.ntmps276 (rs:=[.tmp 8]) rfl (by kernel_rfl) (by simp) (by kernel_rfl) ?_
 simp
 refine hw.s ?_
 simp [hlt,hl,hlo]
 by_cases e : l.length = 2
 ·simp only [e,decide_true,Bool.true_and]
  refine GCall.fn (aB (l.any (((b : Int),t) == ·))) (fun h=>⟨h,hh⟩) ?_
  simp
 ·simp only [e,decide_false,Bool.false_and]
  refine GCall.never (by omega) (aB false) ?_
  simp
theorem valveR_fn {c : Cir} (hr : CirR c) (hk : ∀ p ∈ c.parts,0 ≤ p.kind ∧ p.kind < 14) {i : Nat} (hi : kindOf c.parts i = 1) : CallFn Tryz.prog 224 [aCi c,aNets (netsZ c),aI i] (aI (idxI (valveZ c.parts (netsZ c) i))):=by
 have hN:=nsOK hr
 have hil:=kindOf_lt (ps:=c.parts) (i:=i) (by omega)
 have hp2:=fun v=>pairR_fn hN i v [50] (port_of hil (by rw [hi]; decide))
 have hp4:=fun v=>pairR_fn hN i v [52] (port_of hil (by rw [hi]; decide))
 have hf:=hr.few
 obtain ⟨W,hV⟩ : ∃ W,valveZ c.parts (netsZ c) i = W:=⟨_,rfl⟩
 have hst : ∀ n,n < c.parts.length → NoF (drvB c.parts (netsZ c) i) (List.range n) → (drvB c.parts (netsZ c) i n = false → NoF (drvB c.parts (netsZ c) i) (List.range (n + 1))) ∧ (drvB c.parts (netsZ c) i n = true → W = some n):=fun n hn hI=>by
  have h1 : (List.range c.parts.length)[n]? = some n:=by rw [List.getElem?_range hn]
  have e : (List.range c.parts.length).take n = List.range n:=by rw [List.take_range,Nat.min_eq_left (by omega)]
  have e2 : (List.range c.parts.length).take (n + 1) = List.range (n + 1):=by rw [List.take_range,Nat.min_eq_left (by omega)]
  have:=findIdx_step (p:=drvB c.parts (netsZ c) i) (by rw [e]; exact hI) h1
  rw [e2] at this
  exact ⟨this.1,fun hb=>by rw [← hV]; exact this.2 hb⟩
 have hno : NoF (drvB c.parts (netsZ c) i) (List.range c.parts.length) → W = none:=fun h=>by
  rw [← hV]
  exact findIdx_none (by rw [List.take_length]; exact h)
 rw [hV]
 generalize netsZ c = ns at *
 refine callFz_of Tryz.func224 rfl Tryz.ntmps224 (rs:=[.tmp 6]) rfl (by kernel_rfl) (by simp) (by kernel_rfl) ?_
 simp
 refine V.forI (σ:=Unit) c.parts.length [1,2,3,6] (by simp; exact rfl) (fun n _=>[(7,aI n)]) (fun _ _=>[]) (fun n _=>NoF (drvB c.parts ns i) (List.range n)) () (by simp) (by simp) ⟨by simp; exact rfl,by simp⟩ ?_ ?_
 ·rintro n ⟨⟩ hn hI
  obtain ⟨x,hx⟩ : ∃ x,c.parts[n] = x:=⟨_,rfl⟩
  have hxo : c.parts[n]? = some x:=by rw [List.getElem?_eq_getElem hn,hx]
  have hkx:=hk x (List.mem_of_getElem? hxo)
  have hkn:=kindOf_at hxo
  obtain ⟨s1,s2⟩:=hst n hn hI
  have hb : drvB c.parts ns i n = ((kindOf c.parts n == 2 || kindOf c.parts n == 3) && (pairZ ns i n [50] && pairZ ns i n [52])):=rfl
  rw [hb] at s1 s2
  have h2:=hp2 n
  have h4:=hp4 n
  generalize pairZ ns i n [50] = P2 at *
  generalize pairZ ns i n [52] = P4 at *
  simp [hn,hx,hxo]
  by_cases hkk : x.kind = 2 ∨ x.kind = 3
  ·have hk1 : (kindOf c.parts n == 2 || kindOf c.parts n == 3) = true:=by
    rw [hkn]
    simp only [Bool.or_eq_true,beq_iff_eq]
    omega
   rw [hk1,Bool.true_and] at s1 s2
   refine GCall.fn (aB P2) (fun h=>⟨h,h2⟩) ?_
   cases P2
   ·simp [hkk]
    refine GCall.never (by simp) (aB false) ?_
    simp [hkk]
    exact ⟨⟨by omega,by omega⟩,s1 rfl⟩
   ·simp [hkk]
    refine GCall.fn (aB P4) (fun h=>⟨h,h4⟩) ?_
    cases P4
    ·simp [hkk]
     exact ⟨⟨by omega,by omega⟩,s1 rfl⟩
    ·simp [hkk]
     exact ⟨by rw [s2 rfl]; rfl,fun a b=>absurd hkk (by simp [a,b])⟩
  ·have hk1 : (kindOf c.parts n == 2 || kindOf c.parts n == 3) = false:=by
    rw [hkn,Bool.or_eq_false_iff]
    simp only [beq_eq_false_iff_ne,ne_eq]
    omega
   rw [hk1,Bool.false_and] at s1 s2
   refine GCall.never hkk (aB false) ?_
   simp [hkk]
   refine GCall.never (by simp) (aB false) ?_
   simp [hkk]
   exact ⟨⟨by omega,by omega⟩,s1 rfl⟩
 ·rintro ⟨⟩ hI
  rw [hno hI]
  simp [idxI]
end Go.Proofs.YtpadinblmjlggaaGreatDoor
end
