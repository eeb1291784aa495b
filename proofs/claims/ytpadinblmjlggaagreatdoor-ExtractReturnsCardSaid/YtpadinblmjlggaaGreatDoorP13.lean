/- Texts joined by a program: Fxl,Fxm,Hoa,Ka,Kb,Kc,Ke. -/
import Derived.Lib.Bytealg
import Derived.Lib.ItoaNum
import Derived.Test.YtpadinblmjlggaaGreatDoorP12
import Derived.Test.YtpadinblmjlggaaGreatDoorP10
import Derived.Test.YtpadinblmjlggaaGreatDoorP11
set_option linter.unusedSimpArgs false
set_option linter.unusedVariables false

section
namespace Go.Proofs.YtpadinblmjlggaaGreatDoor
variable {P : Program}
theorem ds_take {x : X} : ∀ (ls : List L) {rest : List A} {vs : List Value},Ds x (ls.map A.dat ++ rest) vs → RdLs x ls (vs.take ls.length)
 | [],_,_,_=>by simp [RdLs]
 | l :: ls,rest,v :: vs,h=>by
  simp only [List.map_cons,List.cons_append,Ds,D] at h
  simp only [List.length_cons,List.take_succ_cons,RdLs]
  exact ⟨h.1,ds_take ls h.2⟩
 | l :: ls,rest,[],h=>by simp [Ds] at h
theorem Gh.frzPre {Q : Env → Heap → Prop} {E : Env} {H : Heap} (t : Nat) {τ b : Nat} {ls : List L} {rest : List A} (hE : E t = .ptr τ b 0) (hH : hget τ H = some (.box b (ls.map A.dat ++ rest)))
  (hq : Gh Q (upd E t (.rptr ls)) (hdel τ H)) : Gh Q E H:=by
 intro n ds x act H0 hi he
 have hp:=hdel_perm hH
 have hi1 : Inv x ([(τ,.box b (ls.map A.dat ++ rest))] ++ (hdel τ H ++ H0)):=by
  have:=hi.perm (hp.symm.append_right H0)
  simpa using this
 obtain ⟨y,hw,hle,hi2,hok,_⟩:=hi1.freeze
 have he2 : EnvOK n ds y act (upd E t (.rptr ls)):=by
  have hm:=he.mono hle
  refine ⟨hm.defers,hm.size,fun s=>?_⟩
  simp only [upd]
  split
  ·rename_i hs
   subst hs
   have hv:=he.slot s
   rw [hE] at hv
   obtain ⟨c,ty,k1,k2⟩:=hi1.sat (τ,.box b (ls.map A.dat ++ rest)) (by simp)
   simp only [D] at hv ⊢
   rw [hv]
   refine ⟨b,0,rfl,rdCells_vals (hok b ⟨_,List.mem_singleton.2 rfl,rfl⟩) ls _ 0 (RdLs.mono hle _ _ (ds_take ls k2)) ?_⟩
   intro j u hj
   rw [hw]
   simp only [World.cell?,k1,Nat.zero_add]
   have hj2 : c.toList[j]? = some u:=by
    rw [List.getElem?_take] at hj
    split at hj
    ·exact hj
    ·cases hj
   simpa using hj2
  ·exact hm.slot s
 obtain ⟨z,E2,H2,w2,l2,i2,e2,h2⟩:=hq n ds y act H0 hi2 he2
 exact ⟨z,E2,H2,w2.trans hw,hle.trans l2,i2,e2,h2⟩
theorem rows1 {x : X} : ∀ (ls : List L) (b off : Nat),RdCells x ls b off → RdRows x (ls.map fun l=>[l]) b off
 | [],_,_,_=>by simp [RdRows]
 | l :: ls,b,off,h=>by
  simp only [RdCells] at h
  simp only [List.map_cons,RdRows,RdCells,List.length_singleton]
  exact ⟨⟨h.1,trivial⟩,rows1 ls b (off + 1) h.2⟩
theorem sliceArr_ok {o : Oper} {t e : TypeId} {n : Nat} {x : Operand} {E : Env} {ls : List L} (ho : o.op = .slice t x none none none) (hu : arT P t = some (n,e)) (hs : tk P e ≠ 0) (hE : ev E x = .rptr ls) (hn : n ≤ ls.length) :
  PureOK P o E (.dat (.sl ((ls.take n).map fun l=>[l]))):=by
 intro m ds y act he hb
 obtain ⟨dst,op,type,pos,after,guard⟩:=o
 simp only at ho
 subst ho
 have hv:=ev_ok he x
 rw [hE] at hv
 simp only [D] at hv
 obtain ⟨b,off,hv,hc⟩:=hv
 refine ⟨.slice (some ⟨b,off,none⟩) n n,y,?_,Grow.refl y,?_⟩
 ·simp [execOp,Instr.sliceAt,run_underlying (arT_und hu),hv,Instr.sureAddr,Instr.sliceBounds,run_sizeOf' hs,add_none]
 ·simp only [D,RdL]
  refine .inr (.inl ⟨b,off,n,?_,?_,rows1 _ _ _ (RdCells.take n ls b off hc)⟩)
  ·simp; omega
  ·simp; omega
def vcT (P : Program) (ρ : Nat → Option CR) (T : List Nat) (hd : Nat → Option A) (ops : List Oper) : List Oper → Env → Heap → (Env → Heap → Prop) → Prop
 | [],E,H,K=>K E H
 | o :: rest,E,H,K=>match hd (o.dst.getD 0),o.guard with
  | some a,none=>PureOK P o E a ∧ vcT P ρ T hd ops rest (put E o.dst a) H K
  | _,_=>∀ u b,match T.contains (o.dst.getD 0) && o.guard.isNone with
   | true=>match heapF P u b (o.dst.getD 0) E (fun t=>hget t H) o.op with
    | some (p,a,ch)=>p ∧ vcT P ρ T hd ops rest (put E o.dst a) (happ ch H) K
    | none=>False
   | false=>match fStep P ρ u b ops o E (fun t=>hget t H) with
    | some (p,a,ch)=>p ∧ vcT P ρ T hd ops rest (put E o.dst a) (happ ch H) K
    | none=>False
@[congr] theorem vcT_congr {P : Program} {ρ : Nat → Option CR} {T : List Nat} {hd : Nat → Option A} {ops : List Oper} {l : List Oper} {E : Env} {H H' : Heap} {K : Env → Heap → Prop} {z : Prop} (_ : (True ∧ True) = z)
  (h : H = H') : vcT P ρ T hd ops l E H K = vcT P ρ T hd ops l E H' K:=by rw [h]
theorem vcT_ok {ρ : Nat → Option CR} {T : List Nat} {hd : Nat → Option A} {ops : List Oper} {n : Nat} {ds : List Deferred} {H0 : Heap} {x0 : X} {Q : Exit → Act → World → Prop} : ∀ (l : List Oper) (k : Nat) (E : Env) (H : Heap) (K : Env → Heap → Prop),ops.drop k = l → (∀ o ∈ l,fits n o.dst) → vcT P ρ T hd ops l E H K →
  (∀ E H x act,K E H → x0.le x → Inv x (H ++ H0) → EnvOK n ds x act E → Q .normal act x.w) → ∀ x act,x0.le x → Inv x (H ++ H0) → EnvOK n ds x act E → wpOps P ops.toArray Q ((List.range' k l.length)) act x.w
 | [],k,E,H,K,_,_,h,hq,x,act,hle,hi,he=>by
  simp only [List.length_nil,List.range'_zero,wpOps]
  exact hq _ _ x act h hle hi he
 | o :: rest,k,E,H,K,hk,hf,h,hq,x,act,hle,hi,he=>by
  have ho : ops[k]? = some o:=by
   have:=congrArg (·[0]?) hk
   simpa [List.getElem?_drop] using this
  have hk' : ops.drop (k + 1) = rest:=by
   rw [← List.drop_drop,hk]
   rfl
  simp only [List.length_cons,List.range'_succ]
  rw [wpOps_cons]
  simp only [vcT] at h
  split at h
  ·rename_i a hh hg
   obtain ⟨u,y,h1,h2,h3⟩:=h.1 _ _ x act he hi.bd
   have hw : Region.wanted o (yielded ops.toArray act.tmps) = true:=by simp [Region.wanted,hg]
   unfold wpOp
   rw [show ops.toArray[k]? = some o by simpa using ho]
   simp only
   rw [if_pos hw]
   left
   show o.upon P act _ Q _
   rw [h1]
   exact vcT_ok rest (k + 1) _ _ K hk' (fun o ho=>hf o (by simp [ho])) h.2 hq y _ (hle.trans h2.le) (hi.grow h2) ((he.mono h2.le).put (hf o (by simp)) h3)
  ·cases hT : (T.contains (o.dst.getD 0) && o.guard.isNone) with
   | true=>
    rw [hT] at h
    dsimp only at h
    have hg : o.guard = none:=by
     have:=(Bool.and_eq_true_iff.1 hT).2
     cases hgd : o.guard with
     | none=>rfl
     | some _=>rw [hgd] at this; simp at this
    have hw : Region.wanted o (yielded ops.toArray act.tmps) = true:=by simp [Region.wanted,hg]
    obtain ⟨u,b,v,y,p,a,ch,h1,h2,h3,h4,h5,h6⟩:=heapF_ok (P:=P) (o:=o) (E:=E) (τ:=o.dst.getD 0) (fun u b=>by
     have:=h u b
     split at this
     ·rename_i p a ch hh; exact ⟨p,a,ch,hh,this.1⟩
     ·exact this.elim) (fun t=>rfl) hi he
    have hk2:=h u b
    rw [h1] at hk2
    have fin : ∀ v,D y a v → wpOps P ops.toArray Q (List.range' (k + 1) rest.length) (act.put o.dst v) y.w:=fun v hd=>
     vcT_ok rest (k + 1) _ _ K hk' (fun o ho=>hf o (by simp [ho])) hk2.2 hq y _ (hle.trans h4) h5 ((he.mono h4).put (hf o (by simp)) hd)
    unfold wpOp
    rw [show ops.toArray[k]? = some o by simpa using ho]
    simp only
    rw [if_pos hw]
    left
    show o.upon P act _ Q _
    rcases h3 with h3 | ⟨h3,rfl⟩
    ·rw [h3]; exact fin v h6
    ·rw [h3]; exact fin Go.undef h6
   | false=>
    rw [hT] at h
    dsimp only at h
    refine fStep_ok (ρ:=ρ) (fun u b=>?_) (fun t=>rfl) hi he (by simpa using ho) ?_
    ·have:=h u b
     split at this
     ·rename_i p a ch hh; exact ⟨p,a,ch,hh,this.1⟩
     ·exact this.elim
    ·intro u b p a ch v y hh hle2 hi2 hd
     have:=h u b
     rw [hh] at this
     exact vcT_ok rest (k + 1) _ _ K hk' (fun o ho=>hf o (by simp [ho])) this.2 hq y _ (hle.trans hle2) hi2 ((he.mono hle2).put (hf o (by simp)) hd)
theorem V.regD {n : Nat} {id : Nat} {ops : Array Oper} {E : Env} {H : Heap} {Q : PostQ} (ρ : Nat → Option CR) (T : List Nat) (hd : Nat → Option A) (h : vcT P ρ T hd ops.toList ops.toList E H fun E' H'=>Q .normal E' H') : V ⟨P,none,n⟩ (.region id ops false) E H Q:=by
 intro hf x act H0 ms hi he
 refine wpIn_wide.2 (wp_region ?_)
 have:=vcT_ok (P:=P) (ρ:=ρ) (T:=T) (hd:=hd) (n:=n) (ds:=ms.map mk) (x0:=x) (Q:=Post n H0 Q x) ops.toList 0 E H _ rfl (fitsOps_ok hf) h (fun E H y act hK hle hi he=>⟨y,E,H,ms,rfl,hle,hi,he,hK⟩) x act (.refl x) hi he
 rw [List.range_eq_range']
 simpa using this
attribute [simp] vcT
end Go.Proofs.YtpadinblmjlggaaGreatDoor
end

section
namespace Go.Proofs.YtpadinblmjlggaaGreatDoor
set_option maxHeartbeats 4000000
variable {P : Program}
theorem CallS.res {g : FuncId} {az : List A} {H : Heap} {K K' : A → Heap → Prop} (h : CallS P g az H K)
  (hk : ∀ r H',K r H' → ∃ r' H'',(∀ x H0,Inv x (H' ++ H0) → Inv x (H'' ++ H0)) ∧ (∀ x v,D x r v → D x r' v) ∧ K' r' H'') : CallS P g az H K':=by
 refine ⟨h.1,fun x args H0 hi hd=>(h.2 x args H0 hi hd).mono ?_⟩
 rintro _ _ ⟨y,v,r,H',rfl,rfl,hle,hiy,hv,hkr⟩
 obtain ⟨r',H'',a1,a2,a3⟩:=hk r H' hkr
 exact ⟨y,v,r',H'',rfl,rfl,hle,a1 y H0 hiy,a2 y v hv,a3⟩
theorem rowsD_T (xs : List (List UInt8)) : rowsD (xs.map rT) = xs.map encT:=by unfold rowsD; rw [List.map_map]; rfl
theorem allD_T (xs : List (List UInt8)) : allD (xs.map rT) = true:=by simp [allD,isD]
attribute [simp] rowsD_T allD_T
end Go.Proofs.YtpadinblmjlggaaGreatDoor
end

section
namespace Go.Proofs.YtpadinblmjlggaaGreatDoor
set_option maxHeartbeats 4000000
abbrev ltB (a b : List UInt8) : Bool:=Go.Op.bytesLess a b
theorem ltB_irrefl : ∀ a,ltB a a = false
 | []=>rfl
 | a :: x=>by simp [ltB,Go.Op.bytesLess,UInt8.lt_irrefl,ltB_irrefl x]
theorem ltB_trans : ∀ {a b c},ltB a b = true → ltB b c = true → ltB a c = true
 | _,_,[],_,h=>by simp [ltB,Go.Op.bytesLess] at h
 | [],_,_ :: _,_,_=>rfl
 | _ :: _,[],_ :: _,h,_=>by simp [ltB,Go.Op.bytesLess] at h
 | a :: x,b :: y,c :: z,h1,h2=>by
  simp only [ltB,Go.Op.bytesLess,Bool.or_eq_true,decide_eq_true_eq,Bool.and_eq_true,beq_iff_eq] at h1 h2 ⊢
  rcases h1 with h1 | ⟨rfl,h1⟩
  ·rcases h2 with h2 | ⟨rfl,h2⟩
   ·exact .inl (UInt8.lt_trans h1 h2)
   ·exact .inl h1
  ·rcases h2 with h2 | ⟨rfl,h2⟩
   ·exact .inl h2
   ·exact .inr ⟨rfl,ltB_trans h1 h2⟩
theorem ltB_total : ∀ {a b},ltB a b = false → ltB b a = false → a = b
 | [],[],_,_=>rfl
 | [],_ :: _,h,_=>by simp [ltB,Go.Op.bytesLess] at h
 | _ :: _,[],_,h=>by simp [ltB,Go.Op.bytesLess] at h
 | a :: x,b :: y,h1,h2=>by
  simp only [ltB,Go.Op.bytesLess,Bool.or_eq_false_iff,decide_eq_false_iff_not,Bool.and_eq_false_iff,beq_eq_false_iff_ne] at h1 h2
  have e : a = b:=UInt8.le_antisymm (UInt8.not_lt.1 h2.1) (UInt8.not_lt.1 h1.1)
  subst e
  rw [ltB_total (a:=x) (b:=y) (h1.2.resolve_left fun h=>h rfl) (h2.2.resolve_left fun h=>h rfl)]
theorem ltB_asymm {a b : List UInt8} (h : ltB a b = true) : ltB b a = false:=by
 cases h2 : ltB b a with
 | false=>rfl
 | true=>have:=ltB_trans h h2; rw [ltB_irrefl] at this; cases this
theorem cmpT_eq : ∀ a b : List UInt8,Go.Lib.compareBytes a b = if ltB a b = true then -1 else if ltB b a = true then 1 else 0
 | [],[]=>rfl
 | [],_ :: _=>rfl
 | _ :: _,[]=>rfl
 | a :: x,b :: y=>by
  rw [Go.Lib.compareBytes,cmpT_eq x y]
  by_cases h1 : a < b
  ·have : ltB (a :: x) (b :: y) = true:=by simp [ltB,Go.Op.bytesLess,h1]
   rw [if_pos h1,if_pos this]
  ·by_cases h2 : b < a
   ·have e1 : ltB (a :: x) (b :: y) = false:=by
     simp only [ltB,Go.Op.bytesLess,Bool.or_eq_false_iff,decide_eq_false_iff_not,Bool.and_eq_false_iff,beq_eq_false_iff_ne]
     exact ⟨h1,.inl fun e=>by subst e; exact h1 h2⟩
    have e2 : ltB (b :: y) (a :: x) = true:=by simp [ltB,Go.Op.bytesLess,h2]
    rw [if_neg h1,if_pos h2,if_neg (by simp [e1]),if_pos e2]
   ·have e : a = b:=UInt8.le_antisymm (UInt8.not_lt.1 h2) (UInt8.not_lt.1 h1)
    subst e
    have e1 : ltB (a :: x) (a :: y) = ltB x y:=by simp [ltB,Go.Op.bytesLess,UInt8.lt_irrefl]
    have e2 : ltB (a :: y) (a :: x) = ltB y x:=by simp [ltB,Go.Op.bytesLess,UInt8.lt_irrefl]
    rw [if_neg h1,if_neg h2,e1,e2]
theorem cmpT_lt (a b : List UInt8) : Go.Lib.compareBytes a b < 0 ↔ ltB a b = true:=by
 rw [cmpT_eq]
 split
 ·rename_i h; simp [h]
 ·rename_i h
  split
  ·simp [h]
  ·simp [h]
theorem cmpT_zero (a b : List UInt8) : Go.Lib.compareBytes a b = 0 ↔ a = b:=by
 rw [cmpT_eq]
 split
 ·rename_i h
  constructor
  ·intro e; omega
  ·rintro rfl; rw [ltB_irrefl] at h; cases h
 ·rename_i h
  split
  ·rename_i h2
   constructor
   ·intro e; omega
   ·rintro rfl; rw [ltB_irrefl] at h2; cases h2
  ·rename_i h2
   simp only [true_iff]
   exact ltB_total (by simpa using h) (by simpa using h2)
structure TotB {α : Type} (lt : α → α → Bool) : Prop where
 irr : ∀ a,lt a a = false
 trans : ∀ a b c,lt a b = true → lt b c = true → lt a c = true
 tot : ∀ a b,lt a b = false → lt b a = false → a = b
theorem TotB.asymm {α : Type} {lt : α → α → Bool} (h : TotB lt) {a b : α} (h1 : lt a b = true) : lt b a = false:=by
 cases h2 : lt b a with
 | false=>rfl
 | true=>have:=h.trans _ _ _ h1 h2; rw [h.irr] at this; cases this
def lexB {α β : Type} [DecidableEq α] (lt1 : α → α → Bool) (lt2 : β → β → Bool) (a b : α × β) : Bool:=if a.1 = b.1 then lt2 a.2 b.2 else lt1 a.1 b.1
theorem lexB_tot {α β : Type} [DecidableEq α] {lt1 : α → α → Bool} {lt2 : β → β → Bool} (h1 : TotB lt1) (h2 : TotB lt2) : TotB (lexB lt1 lt2):=by
 refine ⟨fun a=>?_,fun a b c ha hb=>?_,fun a b ha hb=>?_⟩
 ·unfold lexB
  rw [if_pos rfl,h2.irr]
 ·unfold lexB at *
  by_cases e1 : a.1 = b.1
  ·rw [if_pos e1] at ha
   by_cases e2 : b.1 = c.1
   ·rw [if_pos e2] at hb
    rw [if_pos (e1.trans e2)]
    exact h2.trans _ _ _ ha hb
   ·rw [if_neg e2] at hb
    rw [if_neg (by rw [e1]; exact e2),e1]
    exact hb
  ·rw [if_neg e1] at ha
   by_cases e2 : b.1 = c.1
   ·rw [if_neg (by rw [← e2]; exact e1),← e2]
    exact ha
   ·rw [if_neg e2] at hb
    have h3:=h1.trans _ _ _ ha hb
    rw [if_neg (fun e=>by rw [e,h1.irr] at h3; cases h3)]
    exact h3
 ·unfold lexB at *
  by_cases e1 : a.1 = b.1
  ·rw [if_pos e1] at ha
   rw [if_pos e1.symm] at hb
   exact Prod.ext e1 (h2.tot _ _ ha hb)
  ·rw [if_neg e1] at ha
   rw [if_neg (fun e=>e1 e.symm)] at hb
   exact absurd (h1.tot _ _ ha hb) e1
theorem ltB_tot : TotB ltB:=⟨ltB_irrefl,fun _ _ _=>ltB_trans,fun _ _=>ltB_total⟩
theorem sorted_same {α : Type} {R : α → α → Prop} : ∀ {l m : List α},(∀ a b,a ∈ l → b ∈ l → R a b → R b a → a = b) → l.Pairwise R → m.Pairwise R → l.Perm m → l = m
 | [],m,_,_,_,hp=>by simpa using hp.symm
 | a :: l,[],_,_,_,hp=>by simp at hp
 | a :: l,b :: m,hx,hl,hm,hp=>by
  obtain ⟨l1,l2⟩:=List.pairwise_cons.1 hl
  obtain ⟨m1,m2⟩:=List.pairwise_cons.1 hm
  have e : a = b:=by
   have ha : a ∈ b :: m:=hp.mem_iff.1 (by simp)
   have hb : b ∈ a :: l:=hp.mem_iff.2 (by simp)
   rcases List.mem_cons.1 ha with e | ha
   ·exact e
   ·rcases List.mem_cons.1 hb with e | hb
    ·exact e.symm
    ·exact hx a b (by simp) (by simp [hb]) (l1 b hb) (m1 a ha)
  subst e
  rw [sorted_same (fun x y hx1 hy1=>hx x y (by simp [hx1]) (by simp [hy1])) l2 m2 ((List.perm_cons a).1 hp)]
end Go.Proofs.YtpadinblmjlggaaGreatDoor
end

section
namespace Go.Proofs.YtpadinblmjlggaaGreatDoor
set_option maxHeartbeats 4000000
structure Prt where
 kind : Int
 name : List UInt8
 delay : Int
 deriving DecidableEq
abbrev PortZ:=Int × List UInt8
abbrev PipeZ:=PortZ × PortZ
structure Cir where
 parts : List Prt
 pipes : List PipeZ
abbrev encPa (p : Prt) : List L:=[.int .i64 p.kind,.str p.name,.int .i64 p.delay]
abbrev encPo (p : PortZ) : List L:=[.int .i64 p.1,.str p.2]
abbrev encPi (p : PipeZ) : List L:=[.int .i64 p.1.1,.str p.1.2,.int .i64 p.2.1,.str p.2.2]
abbrev encCi (c : Cir) : List L:=[.sl (c.parts.map encPa),.sl (c.pipes.map encPi)]
abbrev aCi (c : Cir) : A:=.record (encCi c)
def firstE (f : Nat → Int) : Nat → Int
 | 0=>0
 | n + 1=>if firstE f n ≠ 0 then firstE f n else f n
theorem firstE_step {f : Nat → Int} {i : Nat} (h : firstE f i = 0) : firstE f (i + 1) = f i:=by simp [firstE,h]
theorem firstE_stop {f : Nat → Int} {i : Nat} (h : firstE f i ≠ 0) : ∀ n,i ≤ n → firstE f n = firstE f i
 | 0,hn=>by rw [show i = 0 by omega]
 | n + 1,hn=>by
  by_cases e : i = n + 1
  ·rw [e]
  ·have:=firstE_stop h n (by omega)
   simp [firstE,this,h]
theorem firstE_hit {f : Nat → Int} {i n : Nat} (h : firstE f i = 0) (hi : i < n) (hf : f i ≠ 0) : firstE f n = f i:=by
 have h1:=firstE_step h
 rw [firstE_stop (i:=i + 1) (by rw [h1]; exact hf) n (by omega),h1]
theorem firstE_zero {f : Nat → Int} : ∀ n,firstE f n = 0 → ∀ i,i < n → f i = 0
 | 0,_,i,hi=>by omega
 | n + 1,h,i,hi=>by
  simp only [firstE] at h
  by_cases h0 : firstE f n = 0
  ·rw [if_neg (by simp [h0])] at h
   by_cases e : i = n
   ·rw [e]; exact h
   ·exact firstE_zero n h0 i (by omega)
  ·rw [if_pos h0] at h
   exact absurd h h0
def letC (n : Nat) : Bool:=decide (97 ≤ n ∧ n ≤ 122) || decide (65 ≤ n ∧ n ≤ 90)
def digQ (n : Nat) : Bool:=decide (48 ≤ n ∧ n ≤ 57)
def innC (n : Nat) : Bool:=letC n || digQ n || decide (n = 95)
def wordE (s : List UInt8) : Int:=
 if (s.head?.any fun b=>letC b.toNat) = false then 3
 else if (s.all fun b=>innC b.toNat) = false then 3
 else if 24 < s.length then 17 else 0
def partE (p : Prt) : Int:=
 if ¬ (0 ≤ p.kind ∧ p.kind < 14) then 1
 else if wordE p.name ≠ 0 then wordE p.name
 else if (p.kind = 12 ∧ (p.delay < 1 ∨ 1000000 < p.delay)) ∨ (p.kind ≠ 12 ∧ p.delay ≠ 0) then 2 else 0
def stepE (ps : List Prt) (i : Nat) : Int:=match ps[i]? with
 | none=>0
 | some p=>if partE p ≠ 0 then partE p else match i with
  | 0=>0
  | j + 1=>match ps[j]? with
   | some q=>if ltB q.name p.name = true then 0 else 9
   | none=>0
def findN (ps : List Prt) (t : List UInt8) : Option Nat:=ps.findIdx? fun p=>p.name == t
def ownN (ps : List Prt) (t : List UInt8) : Bool:=(t.getLast? == some 48 || t.getLast? == some 49) && match findN ps t.dropLast with
 | some j=>(ps[j]?).any fun q=>q.kind == 1
 | none=>false
def limE (ps : List Prt) (i : Nat) : Int:=match ps[i]? with
 | some p=>if p.kind = 6 ∧ ownN ps p.name = false then 6 else 0
 | none=>0
def rolesK : Nat → List (List (List UInt8))
 | 0=>[[],[[49]],[],[],[]]
 | 1=>[[],[],[],[],[[50],[52]]]
 | 2=>[[[49]],[[50],[52]],[[51],[53]],[[49,50],[49,52]],[]]
 | 3=>[[[49]],[[50],[52]],[[51],[53]],[[49,52]],[]]
 | 4=>[[[49]],[[50]],[[51]],[[49,50]],[]]
 | 5=>[[[49]],[[50]],[[51]],[[49,48]],[]]
 | 6=>[[[49]],[[50]],[[51]],[],[]]
 | 7=>[[[49]],[[50]],[[51]],[],[]]
 | 8=>[[[49],[49,49]],[[50]],[],[],[]]
 | 9=>[[[49],[49,49]],[[50]],[],[],[]]
 | 10=>[[[49]],[[50]],[[51]],[],[]]
 | 11=>[[[49]],[[50]],[],[],[]]
 | 12=>[[[49]],[[50]],[[51]],[[49,50]],[]]
 | 13=>[[[49]],[[50]],[[51]],[[49,50]],[]]
 | _=>[]
def hasK (k : Nat) (t : List UInt8) : Bool:=(rolesK k).any fun l=>l.any (t == ·)
def hasPort (ps : List Prt) (q : PortZ) : Bool:=(ps[q.1.toNat]?).any fun p=>hasK p.kind.toNat q.2
def inPort (ps : List Prt) (q : PortZ) : Bool:=decide (0 ≤ q.1 ∧ q.1 < ps.length)
def beforeZ : PortZ → PortZ → Bool:=lexB (fun a b=>decide (a < b)) ltB
def earlierZ : PipeZ → PipeZ → Bool:=lexB beforeZ beforeZ
theorem int_tot : TotB fun a b : Int=>decide (a < b):=⟨fun a=>by simp,fun a b c h1 h2=>by simp at *; omega,fun a b h1 h2=>by simp at *; omega⟩
theorem beforeZ_tot : TotB beforeZ:=lexB_tot int_tot ltB_tot
def pipeE (c : Cir) (i : Nat) : Int:=match c.pipes[i]? with
 | none=>0
 | some x=>if inPort c.parts x.1 = false ∨ inPort c.parts x.2 = false then 2
  else if hasPort c.parts x.1 = false ∨ hasPort c.parts x.2 = false then 6
  else if beforeZ x.1 x.2 = false then 9
  else match i with
   | 0=>0
   | j + 1=>match c.pipes[j]? with
    | some y=>if earlierZ y x = true then 0 else 9
    | none=>0
def cirE (c : Cir) : Int:=
 if 64 < c.parts.length then 5
 else if firstE (stepE c.parts) c.parts.length ≠ 0 then firstE (stepE c.parts) c.parts.length
 else if firstE (limE c.parts) c.parts.length ≠ 0 then firstE (limE c.parts) c.parts.length
 else if 256 < c.pipes.length then 5
 else firstE (pipeE c) c.pipes.length
structure CirR (c : Cir) : Prop where
 few : c.parts.length ≤ 64
 part : ∀ p ∈ c.parts,partE p = 0
 asc : ∀ i p q,c.parts[i]? = some p → c.parts[i + 1]? = some q → ltB p.name q.name = true
 own : ∀ p ∈ c.parts,p.kind = 6 → ownN c.parts p.name = true
 many : c.pipes.length ≤ 256
 inp : ∀ x ∈ c.pipes,inPort c.parts x.1 = true ∧ inPort c.parts x.2 = true
 has : ∀ x ∈ c.pipes,hasPort c.parts x.1 = true ∧ hasPort c.parts x.2 = true
 dir : ∀ x ∈ c.pipes,beforeZ x.1 x.2 = true
theorem cirR_of {c : Cir} (h : cirE c = 0) : CirR c:=by
 unfold cirE at h
 by_cases h1 : 64 < c.parts.length
 ·rw [if_pos h1] at h; simp at h
 rw [if_neg h1] at h
 by_cases h2' : ¬ firstE (stepE c.parts) c.parts.length = 0
 ·rw [if_pos h2'] at h; exact absurd h h2'
 have h2:=Classical.not_not.1 h2'
 rw [if_neg (by simp [h2])] at h
 by_cases h3' : ¬ firstE (limE c.parts) c.parts.length = 0
 ·rw [if_pos h3'] at h; exact absurd h h3'
 have h3:=Classical.not_not.1 h3'
 rw [if_neg (by simp [h3])] at h
 by_cases h4 : 256 < c.pipes.length
 ·rw [if_pos h4] at h; simp at h
 rw [if_neg h4] at h
 have k2:=firstE_zero _ h2
 have k3:=firstE_zero _ h3
 have k5:=firstE_zero _ h
 have hpart : ∀ p ∈ c.parts,partE p = 0:=by
  intro p hp
  obtain ⟨i,hi,e⟩:=List.getElem_of_mem hp
  have:=k2 i hi
  unfold stepE at this
  rw [List.getElem?_eq_getElem hi,e] at this
  simp only at this
  by_cases e0 : partE p = 0
  ·exact e0
  ·rw [if_pos e0] at this; exact absurd this e0
 have hpipe : ∀ x ∈ c.pipes,(inPort c.parts x.1 = true ∧ inPort c.parts x.2 = true) ∧ (hasPort c.parts x.1 = true ∧ hasPort c.parts x.2 = true) ∧ beforeZ x.1 x.2 = true:=by
  intro x hx
  obtain ⟨i,hi,e⟩:=List.getElem_of_mem hx
  have:=k5 i hi
  unfold pipeE at this
  rw [List.getElem?_eq_getElem hi,e] at this
  simp only at this
  by_cases e1 : inPort c.parts x.1 = false ∨ inPort c.parts x.2 = false
  ·rw [if_pos e1] at this; simp at this
  rw [if_neg e1] at this
  by_cases e2 : hasPort c.parts x.1 = false ∨ hasPort c.parts x.2 = false
  ·rw [if_pos e2] at this; simp at this
  rw [if_neg e2] at this
  by_cases e3 : beforeZ x.1 x.2 = false
  ·rw [if_pos e3] at this; simp at this
  simp only [not_or,Bool.not_eq_false] at e1 e2 e3
  exact ⟨e1,e2,e3⟩
 refine ⟨by omega,hpart,fun i p q hp hq=>?_,fun p hp h6=>?_,by omega,fun x hx=>(hpipe x hx).1,fun x hx=>(hpipe x hx).2.1,fun x hx=>(hpipe x hx).2.2⟩
 ·have hi:=(List.getElem?_eq_some_iff.1 hq).1
  have:=k2 (i + 1) hi
  unfold stepE at this
  rw [hq] at this
  simp only at this
  rw [if_neg (by simp [hpart q (List.mem_of_getElem? hq)]),hp] at this
  simp only at this
  by_cases e : ltB p.name q.name = true
  ·exact e
  ·rw [if_neg e] at this; simp at this
 ·obtain ⟨i,hi,e⟩:=List.getElem_of_mem hp
  have:=k3 i hi
  unfold limE at this
  rw [List.getElem?_eq_getElem hi,e] at this
  simp only at this
  by_cases e0 : ownN c.parts p.name = true
  ·exact e0
  ·rw [if_pos ⟨h6,by simpa using e0⟩] at this; simp at this
end Go.Proofs.YtpadinblmjlggaaGreatDoor
end

section
namespace Go.Proofs.YtpadinblmjlggaaGreatDoor
set_option maxHeartbeats 4000000
def loP (a b : PortZ) : PortZ:=if beforeZ b a = true then b else a
def hiP (a b : PortZ) : PortZ:=if beforeZ b a = true then a else b
def mergeF (f : PortZ → PortZ) (x : PipeZ) (p : PortZ) : PortZ:=if f p = hiP (f x.1) (f x.2) then loP (f x.1) (f x.2) else f p
def rootF (xs : List PipeZ) : PortZ → PortZ:=xs.foldl mergeF id
theorem rootF_snoc (xs : List PipeZ) (x : PipeZ) : rootF (xs ++ [x]) = mergeF (rootF xs) x:=by simp [rootF,List.foldl_append]
theorem rootF_take {xs : List PipeZ} {i : Nat} {x : PipeZ} (h : xs[i]? = some x) : rootF (xs.take (i + 1)) = mergeF (rootF (xs.take i)) x:=by
 rw [List.take_add_one,h]
 exact rootF_snoc _ _
theorem hiP_or (a b : PortZ) : (hiP a b = a ∧ loP a b = b) ∨ (hiP a b = b ∧ loP a b = a):=by
 unfold hiP loP
 by_cases h : beforeZ b a = true <;> simp [h]
theorem leZ_trans {a b c : PortZ} (h1 : beforeZ b a = false) (h2 : beforeZ c b = false) : beforeZ c a = false:=by
 cases h3 : beforeZ c a with
 | false=>rfl
 | true=>
  cases h4 : beforeZ a b with
  | true=>rw [beforeZ_tot.trans _ _ _ h3 h4] at h2; cases h2
  | false=>rw [beforeZ_tot.tot _ _ h4 h1] at h3; rw [h3] at h2; cases h2
theorem loP_le (a b : PortZ) : beforeZ (hiP a b) (loP a b) = false:=by
 unfold hiP loP
 cases h : beforeZ b a with
 | true=>simp [beforeZ_tot.asymm h]
 | false=>simp [h]
theorem loP_ne {a b : PortZ} (h : a ≠ b) : beforeZ (loP a b) (hiP a b) = true:=by
 unfold hiP loP
 cases h2 : beforeZ b a with
 | true=>simp [h2]
 | false=>
  cases h3 : beforeZ a b with
  | true=>simp [h3]
  | false=>exact absurd (beforeZ_tot.tot _ _ h3 h2) h
structure RootP (xs : List PipeZ) (f : PortZ → PortZ) : Prop where
 le : ∀ p,beforeZ p (f p) = false
 idem : ∀ p,f (f p) = f p
 pipe : ∀ x ∈ xs,f x.1 = f x.2
 closed : ∀ C : PortZ → Prop,(∀ x ∈ xs,C x.1 ↔ C x.2) → ∀ p,C p ↔ C (f p)
theorem merge_root {xs : List PipeZ} {f : PortZ → PortZ} (h : RootP xs f) (x : PipeZ) : RootP (xs ++ [x]) (mergeF f x):=by
 have hl:=loP_le (f x.1) (f x.2)
 have ho:=hiP_or (f x.1) (f x.2)
 have hlo : f (loP (f x.1) (f x.2)) = loP (f x.1) (f x.2):=by
  rcases ho with ⟨_,e⟩ | ⟨_,e⟩ <;> rw [e,h.idem]
 refine ⟨fun p=>?_,fun p=>?_,fun y hy=>?_,fun C hC p=>?_⟩
 ·unfold mergeF
  split
  ·rename_i e
   have:=h.le p
   rw [e] at this
   exact leZ_trans hl this
  ·exact h.le p
 ·unfold mergeF
  by_cases e : f p = hiP (f x.1) (f x.2)
  ·rw [if_pos e,hlo]
   split <;> rfl
  ·rw [if_neg e,h.idem,if_neg e]
 ·rcases List.mem_append.1 hy with hy | hy
  ·unfold mergeF
   rw [h.pipe y hy]
  ·simp only [List.mem_singleton] at hy
   subst hy
   unfold mergeF
   rcases ho with ⟨e1,e2⟩ | ⟨e1,e2⟩
   ·rw [e1,e2,if_pos rfl]
    split
    ·rfl
    ·rfl
   ·rw [e1,e2,if_pos (rfl : f y.2 = f y.2)]
    split
    ·rfl
    ·rfl
 ·have h1:=h.closed C (fun y hy=>hC y (by simp [hy]))
  have hx:=hC x (by simp)
  unfold mergeF
  by_cases e : f p = hiP (f x.1) (f x.2)
  ·rw [if_pos e,h1 p,e]
   rcases ho with ⟨e1,e2⟩ | ⟨e1,e2⟩
   ·rw [e1,e2,← h1,← h1,hx]
   ·rw [e1,e2,← h1,← h1,hx]
  ·rw [if_neg e]
   exact h1 p
theorem rootF_ok (xs : List PipeZ) : RootP xs (rootF xs):=by
 have : ∀ n,RootP (xs.take n) (rootF (xs.take n)):=by
  intro n
  induction n with
  | zero=>exact ⟨fun p=>beforeZ_tot.irr p,fun p=>rfl,by simp,fun C _ p=>Iff.rfl⟩
  | succ n ih=>
   cases h : xs[n]? with
   | none=>
    rw [List.take_add_one,h]
    simpa using ih
   | some x=>
    rw [rootF_take h,List.take_add_one,h]
    exact merge_root ih x
 have h:=this xs.length
 rwa [List.take_length] at h
def portsK : Nat → List (List UInt8)
 | 0=>[[49]]
 | 1=>[[50],[52]]
 | 2=>[[49],[49,50],[49,52],[50],[51],[52],[53]]
 | 3=>[[49],[49,52],[50],[51],[52],[53]]
 | 4=>[[49],[49,50],[50],[51]]
 | 5=>[[49],[49,48],[50],[51]]
 | 6=>[[49],[50],[51]]
 | 7=>[[49],[50],[51]]
 | 8=>[[49],[49,49],[50]]
 | 9=>[[49],[49,49],[50]]
 | 10=>[[49],[50],[51]]
 | 11=>[[49],[50]]
 | 12=>[[49],[49,50],[50],[51]]
 | 13=>[[49],[49,50],[50],[51]]
 | _=>[]
theorem k_cases {Q : Nat → Prop} (h : Q 0 ∧ Q 1 ∧ Q 2 ∧ Q 3 ∧ Q 4 ∧ Q 5 ∧ Q 6 ∧ Q 7 ∧ Q 8 ∧ Q 9 ∧ Q 10 ∧ Q 11 ∧ Q 12 ∧ Q 13) : ∀ k,k < 14 → Q k:=by
 obtain ⟨h0,h1,h2,h3,h4,h5,h6,h7,h8,h9,h10,h11,h12,h13⟩:=h
 intro k hk
 have : k = 0 ∨ k = 1 ∨ k = 2 ∨ k = 3 ∨ k = 4 ∨ k = 5 ∨ k = 6 ∨ k = 7 ∨ k = 8 ∨ k = 9 ∨ k = 10 ∨ k = 11 ∨ k = 12 ∨ k = 13:=by omega
 rcases this with rfl | rfl | rfl | rfl | rfl | rfl | rfl | rfl | rfl | rfl | rfl | rfl | rfl | rfl <;> assumption
theorem portsK_sorted (k : Nat) : (portsK k).Pairwise fun a b=>ltB a b = true:=by
 by_cases hk : k < 14
 ·revert k
  refine k_cases ⟨?_,?_,?_,?_,?_,?_,?_,?_,?_,?_,?_,?_,?_,?_⟩ <;> decide
 ·unfold portsK
  split <;> first | omega | simp
theorem portsK_len (k : Nat) : (portsK k).length ≤ 7:=by
 unfold portsK
 split <;> simp
theorem portsK_short (k : Nat) : ∀ t ∈ portsK k,t.length ≤ 2:=by
 by_cases hk : k < 14
 ·revert k
  refine k_cases ⟨?_,?_,?_,?_,?_,?_,?_,?_,?_,?_,?_,?_,?_,?_⟩ <;> decide
 ·unfold portsK
  split <;> first | omega | simp
theorem hasK_mem (k : Nat) (t : List UInt8) : hasK k t = true ↔ t ∈ portsK k:=by
 by_cases hk : k < 14
 ·revert k
  refine k_cases ⟨?_,?_,?_,?_,?_,?_,?_,?_,?_,?_,?_,?_,?_,?_⟩ <;> (simp [hasK,rolesK,portsK] <;> grind)
 ·have h1 : rolesK k = []:=by
   unfold rolesK
   split <;> first | omega | rfl
  have h2 : portsK k = []:=by
   unfold portsK
   split <;> first | omega | rfl
  simp [hasK,h1,h2]
def portsOf (ps : List Prt) (i : Nat) : List PortZ:=match ps[i]? with
 | some p=>(portsK p.kind.toNat).map fun t=>((i : Int),t)
 | none=>[]
def allN (ps : List Prt) (n : Nat) : List PortZ:=(List.range n).flatMap (portsOf ps)
def allP (ps : List Prt) : List PortZ:=allN ps ps.length
theorem allN_succ (ps : List Prt) (n : Nat) : allN ps (n + 1) = allN ps n ++ portsOf ps n:=by simp [allN,List.range_succ]
theorem portsOf_len (ps : List Prt) (i : Nat) : (portsOf ps i).length ≤ 7:=by
 unfold portsOf
 split
 ·rw [List.length_map]; exact portsK_len _
 ·simp
theorem allN_len (ps : List Prt) : ∀ n,(allN ps n).length ≤ 7 * n
 | 0=>by simp [allN]
 | n + 1=>by
  have:=allN_len ps n
  have:=portsOf_len ps n
  rw [allN_succ,List.length_append]
  omega
theorem mem_portsOf {ps : List Prt} {i : Nat} {q : PortZ} : q ∈ portsOf ps i ↔ ∃ p,ps[i]? = some p ∧ q.1 = i ∧ q.2 ∈ portsK p.kind.toNat:=by
 unfold portsOf
 cases h : ps[i]? with
 | none=>simp
 | some p=>
  simp only [List.mem_map,Option.some.injEq]
  constructor
  ·rintro ⟨t,ht,rfl⟩
   exact ⟨p,rfl,rfl,ht⟩
  ·rintro ⟨_,rfl,h1,h2⟩
   exact ⟨q.2,h2,by rw [← h1]⟩
theorem mem_allN {ps : List Prt} {n : Nat} {q : PortZ} : q ∈ allN ps n ↔ ∃ i p,i < n ∧ ps[i]? = some p ∧ q.1 = i ∧ q.2 ∈ portsK p.kind.toNat:=by
 simp only [allN,List.mem_flatMap,List.mem_range,mem_portsOf]
 constructor
 ·rintro ⟨i,hi,p,h⟩; exact ⟨i,p,hi,h⟩
 ·rintro ⟨i,p,hi,h⟩; exact ⟨i,hi,p,h⟩
theorem mem_allP {ps : List Prt} {q : PortZ} : q ∈ allP ps ↔ inPort ps q = true ∧ hasPort ps q = true:=by
 unfold allP
 rw [mem_allN]
 unfold inPort hasPort
 constructor
 ·rintro ⟨i,p,hi,hp,h1,h2⟩
  refine ⟨by simp; omega,?_⟩
  rw [h1,Int.toNat_natCast,hp]
  simpa [hasK_mem] using h2
 ·rintro ⟨h1,h2⟩
  simp only [decide_eq_true_eq] at h1
  cases hp : ps[q.1.toNat]? with
  | none=>rw [hp] at h2; simp at h2
  | some p=>
   rw [hp] at h2
   simp only [Option.any_some,hasK_mem] at h2
   exact ⟨q.1.toNat,p,by omega,hp,by omega,h2⟩
theorem allN_sorted (ps : List Prt) : ∀ n,(allN ps n).Pairwise fun a b=>beforeZ a b = true
 | 0=>by simp [allN]
 | n + 1=>by
  rw [allN_succ,List.pairwise_append]
  refine ⟨allN_sorted ps n,?_,fun a ha b hb=>?_⟩
  ·unfold portsOf
   split
   ·rw [List.pairwise_map]
    refine (portsK_sorted _).imp ?_
    intro a b hab
    simp [beforeZ,lexB,hab]
   ·simp
  ·obtain ⟨i,p,hi,_,h1,_⟩:=mem_allN.1 ha
   obtain ⟨p2,_,h2,_⟩:=mem_portsOf.1 hb
   unfold beforeZ lexB
   rw [if_neg (by omega)]
   simp
   omega
def netsF (f : PortZ → PortZ) (all : List PortZ) : List (List PortZ):=(all.filter fun r=>f r == r).map fun r=>all.filter fun q=>f q == r
def netsZ (c : Cir) : List (List PortZ):=netsF (rootF c.pipes) (allP c.parts)
theorem root_all {c : Cir} (h : CirR c) {p : PortZ} : p ∈ allP c.parts ↔ rootF c.pipes p ∈ allP c.parts:=by
 refine (rootF_ok c.pipes).closed (fun q=>q ∈ allP c.parts) (fun x hx=>?_) p
 obtain ⟨a1,a2⟩:=h.inp x hx
 obtain ⟨b1,b2⟩:=h.has x hx
 exact ⟨fun _=>mem_allP.2 ⟨a2,b2⟩,fun _=>mem_allP.2 ⟨a1,b1⟩⟩
end Go.Proofs.YtpadinblmjlggaaGreatDoor
end

section
namespace Go.Proofs.YtpadinblmjlggaaGreatDoor
set_option maxHeartbeats 4000000
structure PassP where
 to : List UInt8
 src : List (List UInt8)
 all : Bool
 deriving DecidableEq
def manyK : Nat → Nat
 | 2=>2 | 3=>2 | 4=>2 | 5=>2 | 6=>2 | 7=>2 | 12=>2 | 13=>2
 | _=>1
def passK (k pos : Nat) : List PassP:=
 if k = 2 ∨ k = 3 then [⟨if pos = 1 then [52] else [50],[[49]],false⟩]
 else if k = 4 ∨ k = 6 ∨ k = 7 ∨ k = 12 ∨ k = 13 then (if pos = 1 then [⟨[50],[[49]],false⟩] else [])
 else if k = 5 then (if pos = 1 then [] else [⟨[50],[[49]],false⟩])
 else if k = 8 ∨ k = 9 then [⟨[50],[[49],[49,49]],k == 9⟩]
 else if k = 10 ∨ k = 11 then [⟨[50],[[49]],false⟩]
 else []
def roleK (k : Nat) (t : List UInt8) : Option Nat:=(rolesK k).findIdx? fun l=>l.any (t == ·)
def plusK : Nat → List UInt8
 | 2=>[49,52] | 3=>[49,52] | 4=>[49,50] | 5=>[49,48] | 12=>[49,50] | 13=>[49,50]
 | _=>[]
def minusK : Nat → List UInt8
 | 2=>[49,50]
 | _=>[]
def kindOf (ps : List Prt) (i : Nat) : Nat:=match ps[i]? with
 | some p=>p.kind.toNat
 | none=>0
def netW (nets : List (List PortZ)) (p : PortZ) : Nat:=nets.findIdx fun l=>l.any (p == ·)
def pairZ (nets : List (List PortZ)) (a b : Nat) (t : List UInt8) : Bool:=
 decide ((nets.getD (netW nets ((a : Int),t)) []).length = 2) && (nets.getD (netW nets ((a : Int),t)) []).any (((b : Int),t) == ·)
def drvB (ps : List Prt) (nets : List (List PortZ)) (i v : Nat) : Bool:=(kindOf ps v == 2 || kindOf ps v == 3) && (pairZ nets i v [50] && pairZ nets i v [52])
def valveZ (ps : List Prt) (nets : List (List PortZ)) (i : Nat) : Option Nat:=(List.range ps.length).findIdx? (drvB ps nets i)
abbrev Drv:=Nat × Nat
def cylsN (ps : List Prt) (n : Nat) : List Nat:=(List.range n).filter fun i=>kindOf ps i == 1
def drvE (ps : List Prt) (nets : List (List PortZ)) : Int:=
 if ((cylsN ps ps.length).any fun i=>(valveZ ps nets i).isNone) = true then 14 else if cylsN ps ps.length = [] then 13 else 0
def drvN (ps : List Prt) (nets : List (List PortZ)) (n : Nat) : List Drv:=(cylsN ps n).map fun i=>(i,(valveZ ps nets i).getD 0)
def drivenZ (d : List Drv) (i : Nat) : Option Nat:=d.findIdx? fun q=>q.2 == i
def countsZ (ps : List Prt) (l : List PortZ) : Bool:=decide (1 < l.length) || match l with
 | q :: _=>roleK (kindOf ps q.1.toNat) q.2 == some 3
 | []=>false
structure Gift where
 part : Nat
 pos : Nat
 pass : PassP
 deriving DecidableEq
def givenZ (ps : List Prt) (x : PortZ) : List Gift:=(List.range (manyK (kindOf ps x.1.toNat))).flatMap fun pos=>((passK (kindOf ps x.1.toNat) pos).filter fun y=>y.to == x.2).map fun y=>⟨x.1.toNat,pos,y⟩
def giftsZ (ps : List Prt) (d : List Drv) (x : PortZ) : List Gift:=if (drivenZ d x.1.toNat).isSome = true then [] else givenZ ps x
def takesZ (ps : List Prt) (nets : List (List PortZ)) (order : List Nat) (g : Gift) (t : List UInt8) : Bool:=
 countsZ ps (nets.getD (netW nets ((g.part : Int),t)) []) && !(order.any (netW nets ((g.part : Int),t) == ·))
def readyZ (ps : List Prt) (d : List Drv) (nets : List (List PortZ)) (order : List Nat) (net : Nat) : Bool:=
 (nets.getD net []).all fun x=>(giftsZ ps d x).all fun g=>g.pass.src.all fun t=>!takesZ ps nets order g t
def countsI (ps : List Prt) (nets : List (List PortZ)) (i : Nat) : Bool:=countsZ ps (nets.getD i [])
def restZ (ps : List Prt) (nets : List (List PortZ)) (order : List Nat) : List Nat:=(List.range nets.length).filter fun i=>countsI ps nets i && !(order.any (i == ·))
def nextZ (ps : List Prt) (d : List Drv) (nets : List (List PortZ)) (order : List Nat) : Option Nat:=(restZ ps nets order).find? (readyZ ps d nets order)
def orderN (ps : List Prt) (d : List Drv) (nets : List (List PortZ)) : Nat → List Nat
 | 0=>[]
 | n + 1=>match nextZ ps d nets (orderN ps d nets n) with
  | some i=>orderN ps d nets n ++ [i]
  | none=>orderN ps d nets n
def manyC (ps : List Prt) (nets : List (List PortZ)) : Nat:=(restZ ps nets []).length
structure Pln where
 ps : List Prt
 nets : List (List PortZ)
 drives : List Drv
 order : List Nat
def planE (c : Cir) : Int:=
 if cirE c ≠ 0 then cirE c
 else if drvE c.parts (netsZ c) ≠ 0 then drvE c.parts (netsZ c)
 else if (orderN c.parts (drvN c.parts (netsZ c) c.parts.length) (netsZ c) (manyC c.parts (netsZ c))).length = manyC c.parts (netsZ c) then 0 else 20
def planZ (c : Cir) : Pln:=⟨c.parts,netsZ c,drvN c.parts (netsZ c) c.parts.length,orderN c.parts (drvN c.parts (netsZ c) c.parts.length) (netsZ c) (manyC c.parts (netsZ c))⟩
def buttN (ps : List Prt) (n : Nat) : List Nat:=(List.range n).filter fun i=>kindOf ps i == 7
def valvN (ps : List Prt) (d : List Drv) (n : Nat) : List Nat:=(List.range n).filter fun i=>(plusK (kindOf ps i) != []) && (drivenZ d i).isNone
def Pln.butt (p : Pln) : List Nat:=buttN p.ps p.ps.length
def Pln.valv (p : Pln) : List Nat:=valvN p.ps p.drives p.ps.length
def Pln.first (p : Pln) : Nat:=2 * p.drives.length + p.butt.length
def varE (n : Int) : Expr:=⟨1,n,[]⟩
def notE (x : Expr) : Expr:=⟨2,0,[x]⟩
def nulE : Expr:=⟨0,0,[]⟩
def sevE (op : Int) : List Expr → Expr
 | []=>nulE
 | [x]=>x
 | l=>⟨op,0,l⟩
def Pln.gate (p : Pln) (i : Nat) (t : List UInt8) : Expr:=match p.order.findIdx? (netW p.nets ((i : Int),t) == ·) with
 | some k=>varE (p.first + k : Nat)
 | none=>nulE
def Pln.line (p : Pln) (i : Nat) : Option Nat:=match p.ps[i]? with
 | none=>none
 | some x=>
  if x.kind = 7 then some (2 * p.drives.length + p.butt.idxOf i)
  else if x.kind = 6 then some (2 * (p.drives.findIdx fun d=>(p.ps.getD d.1 x).name == x.name.dropLast) + (if x.name.getLast? = some 49 then 1 else 0))
  else if i ∈ p.valv then some (p.first + p.order.length + p.valv.idxOf i)
  else none
def Pln.term (p : Pln) (g : Gift) : Expr:=
 sevE 3 ((if 1 < manyK (kindOf p.ps g.part) then [if g.pos = 0 then notE (varE ((p.line g.part).getD 0 : Nat)) else varE ((p.line g.part).getD 0 : Nat)] else []) ++
  (if g.pass.all = true then g.pass.src.map (p.gate g.part) else [sevE 4 (g.pass.src.map (p.gate g.part))]))
def Pln.fedL (p : Pln) (l : List PortZ) : List Expr:=l.flatMap fun x=>(if kindOf p.ps x.1.toNat = 0 then [⟨0,1,[]⟩] else []) ++ (giftsZ p.ps p.drives x).map p.term
def Pln.fed (p : Pln) (net : Nat) : Expr:=sevE 4 (p.fedL (p.nets.getD net []))
def decN (n : Nat) : List UInt8:=Go.Lib.decDigits n
def Pln.netS (p : Pln) (net : Nat) : Signal:=⟨110 :: decN net,0,p.fed net,nulE,0,false⟩
def Pln.movS (p : Pln) (i : Nat) : Signal:=
 ⟨118 :: decN i,if kindOf p.ps i = 12 then 2 else 1,p.gate i (plusK (kindOf p.ps i)),
  if kindOf p.ps i = 12 then nulE else if minusK (kindOf p.ps i) ≠ [] then p.gate i (minusK (kindOf p.ps i)) else notE (p.gate i (plusK (kindOf p.ps i))),
  if kindOf p.ps i = 12 then ((p.ps[i]?).map (·.delay)).getD 0 else 0,false⟩
def Pln.sprS (p : Pln) (v : Nat) : Signal:=⟨119 :: decN v,0,notE (p.gate v [49,52]),nulE,0,false⟩
def Pln.sig0 (p : Pln) : List Signal:=p.order.map p.netS ++ p.valv.map p.movS
def Pln.drvS (p : Pln) (q : List Int × List Int × List Signal) (d : Drv) : List Int × List Int × List Signal:=
 (q.1 ++ [(p.gate d.2 [49,52]).index],
  q.2.1 ++ [if kindOf p.ps d.2 = 2 then (p.gate d.2 [49,50]).index else (p.first + q.2.2.length : Nat)],
  if kindOf p.ps d.2 = 2 then q.2.2 else q.2.2 ++ [p.sprS d.2])
def Pln.pil (p : Pln) (n : Nat) : List Int × List Int × List Signal:=(p.drives.take n).foldl p.drvS ([],[],p.sig0)
def Pln.ctl (p : Pln) : Control:=
 ⟨p.drives.length,p.butt.map fun i=>((p.ps[i]?).map (·.name)).getD [],(p.pil p.drives.length).2.2,(p.pil p.drives.length).1,(p.pil p.drives.length).2.1⟩
end Go.Proofs.YtpadinblmjlggaaGreatDoor
end

section
namespace Go.Proofs.YtpadinblmjlggaaGreatDoor
set_option maxHeartbeats 8000000
set_option maxRecDepth 10000
theorem LetterR_fn (n : Nat) : CallFn Tryz.prog 303 [.dat (.int .u8 n)] (aB (letC n)):=by
 refine callFz_of Tryz.func303 rfl Tryz.ntmps303 (rs:=[.tmp 2]) rfl (by kernel_rfl) (by simp) (by kernel_rfl) ?_
 simp
 unfold letC
 by_cases h1 : 97 ≤ n <;> by_cases h2 : n ≤ 122 <;> by_cases h3 : 65 ≤ n <;> by_cases h4 : n ≤ 90 <;> simp [h1,h2,h3,h4] <;> omega
theorem DigitR_fn (n : Nat) : CallFn Tryz.prog 325 [.dat (.int .u8 n)] (aB (digQ n)):=by
 refine callFz_of Tryz.func325 rfl Tryz.ntmps325 (rs:=[.tmp 2]) rfl (by kernel_rfl) (by simp) (by kernel_rfl) ?_
 simp
 unfold digQ
 by_cases h1 : 48 ≤ n <;> by_cases h2 : n ≤ 57 <;> simp [h1,h2] <;> omega
theorem innerR_fn (n : Nat) : CallFn Tryz.prog 304 [.dat (.int .u8 n)] (aB (innC n)):=by
 have h1:=LetterR_fn n
 have h2:=DigitR_fn n
 refine callFz_of Tryz.func304 rfl Tryz.ntmps304 (rs:=[.tmp 2]) rfl (by kernel_rfl) (by simp) (by kernel_rfl) ?_
 simp
 refine h1.s ?_
 unfold innC
 cases letC n
 ·simp
  refine GCall.fn (aB (digQ n)) (fun _=>⟨trivial,h2⟩) ?_
  cases digQ n
  ·by_cases h : n = 95
   ·subst h; simp
   ·simp [h]
    try omega
  ·simp
 ·simp
  refine GCall.fn .undef (fun h=>absurd h (by simp)) ?_
  simp
theorem WordR_fn (s : List UInt8) (hs : s.length ≤ 1000000000) : CallFn Tryz.prog 274 [aT s] (aI (wordE s)):=by
 refine callFz_of Tryz.func274 rfl Tryz.ntmps274 (rs:=[.tmp 2]) rfl (by kernel_rfl) (by simp) (by kernel_rfl) ?_
 cases s with
 | nil=>
  unfold wordE
  simp
  refine GCall.fn .undef (fun h=>absurd h (by simp)) ?_
  simp
 | cons b r=>
  have hcf:=LetterR_fn b.toNat
  have hw : wordE (b :: r) = if letC b.toNat = false then 3 else if ((b :: r).all fun b=>innC b.toNat) = false then 3 else if 24 < r.length + 1 then 17 else 0:=by
   simp [wordE]
  obtain ⟨s,hsd⟩ : ∃ s,b :: r = s:=⟨_,rfl⟩
  have hl : s.length = r.length + 1:=by rw [← hsd]; rfl
  have hb0 : s[0]? = some b:=by rw [← hsd]; rfl
  rw [hsd] at hs hw ⊢
  rw [← hl] at hw
  rw [hw]
  have hpos : 0 < s.length:=by omega
  have hne : ¬ (s.length : Int) = 0:=by omega
  have hb1 : s[0] = b:=by simpa [List.getElem?_eq_getElem hpos] using hb0
  have hnil : ¬ s = []:=by rintro rfl; simp at hpos
  simp [hne,hb0,hb1,hpos,hnil]
  refine GCall.fn (aB (letC b.toNat)) (fun _=>⟨trivial,hcf⟩) ?_
  cases letC b.toNat
  ·simp
  ·simp [hnil]
   refine V.forI (σ:=Unit) s.length [0] (by simp; exact rfl) (fun i _=>[(2,aI 0),(3,aI i)]) (fun _ _=>[]) (fun i _=>∀ j (hj : j < s.length),j < i → innC s[j].toNat = true) () (by simp) (by simp) ⟨by simp; exact rfl,by simp⟩ ?_ ?_
   ·rintro i - hi hI
    obtain ⟨b,hb1⟩ : ∃ b,s[i] = b:=⟨_,rfl⟩
    have hbo : s[i]? = some b:=by rw [List.getElem?_eq_getElem hi,hb1]
    have hin:=innerR_fn b.toNat
    simp [hi,hbo,hb1]
    refine hin.s ?_
    cases h : innC b.toNat
    ·have : (s.all fun b=>innC b.toNat) = false:=List.all_eq_false.2 ⟨b,List.mem_of_getElem? hbo,by simp [h]⟩
     simp [this]
    ·simp
     refine ⟨by omega,fun j hj hji=>?_⟩
     by_cases e : j = i
     ·subst e
      rw [hb1,h]
     ·exact hI j hj (by omega)
   ·rintro - hI
    have : (s.all fun b=>innC b.toNat) = true:=by
     rw [List.all_eq_true]
     intro b hb
     obtain ⟨j,hj,e⟩:=List.getElem_of_mem hb
     rw [← e,hI j hj hj]
    simp [this]
    by_cases h24 : 24 < s.length
    ·simp [h24]
     try omega
    ·simp [h24]
     try omega
theorem RightK_fn (k : Int) : CallFn Tryz.prog 226 [aI k] (aI (if 0 ≤ k ∧ k < 14 then 0 else 1)):=by
 refine callFz_of Tryz.func226 rfl Tryz.ntmps226 (rs:=[.tmp 2]) rfl (by kernel_rfl) (by simp) (by kernel_rfl) ?_
 by_cases h1 : k < 0
 ·simp [h1]
  try omega
 ·by_cases h2 : 14 ≤ k
  ·simp [h1,h2]
   try omega
  ·simp [h1,h2]
   try omega
theorem CheckP_fn (p : Prt) (hs : p.name.length ≤ 1000000000) : CallFn Tryz.prog 220 [.record (encPa p)] (aI (partE p)):=by
 obtain ⟨k,n,d⟩:=p
 have h1:=RightK_fn k
 have h2:=WordR_fn n hs
 refine callFz_cut 2 Tryz.func220 rfl Tryz.ntmps220 (rs:=[.tmp 2]) rfl (by kernel_rfl) (by simp) (by kernel_rfl) ?_
 unfold partE
 simp
 refine h1.s ?_
 by_cases hk : 0 ≤ k ∧ k < 14
 ·simp [hk]
  refine V.cutV [(1,.rptr [.int .i64 k,.str n,.int .i64 d]),(2,aI 0),(3,aI 0)] (Hs:=[]) (by simp) (by simp) (V.of_vc ?_)
  simp
  refine h2.s ?_
  by_cases hw : wordE n = 0
  ·simp [hw]
   by_cases h12 : k = 12
   ·subst h12
    by_cases ha : d < 1
    ·simp [ha]
     omega
    ·by_cases hb : 1000000 < d
     ·simp [ha,hb]
     ·simp [ha,hb]
   ·by_cases ha : d = 0
    ·simp [h12,ha]
     omega
    ·simp [h12,ha]
     omega
  ·simp [hw]
   intro h
   have:=h hk.1
   omega
 ·simp [hk]
def stepP (s : List UInt8) (q : List (List UInt8) × Bool) (x : List UInt8) : List (List UInt8) × Bool:=
 if q.2 = false ∧ ltB x s = false then (if x = s then (q.1 ++ [s],true) else (q.1 ++ [s] ++ [x],true)) else (if x = s then q else (q.1 ++ [x],q.2))
def putT (l : List (List UInt8)) (s : List UInt8) : List (List UInt8):=if (l.foldl (stepP s) ([],false)).2 = true then (l.foldl (stepP s) ([],false)).1 else (l.foldl (stepP s) ([],false)).1 ++ [s]
theorem foldl_take {α β : Type} {f : β → α → β} {b : β} {l : List α} {i : Nat} {x : α} (h : l[i]? = some x) : (l.take (i + 1)).foldl f b = f ((l.take i).foldl f b) x:=by
 rw [List.take_add_one,h,List.foldl_append]
 rfl
theorem stepP_len (s : List UInt8) : ∀ (l : List (List UInt8)),(l.foldl (stepP s) ([],false)).1.length ≤ 2 * l.length:=by
 have : ∀ (l : List (List UInt8)) (q : List (List UInt8) × Bool),(l.foldl (stepP s) q).1.length ≤ q.1.length + 2 * l.length:=by
  intro l
  induction l with
  | nil=>simp
  | cons x l ih=>
   intro q
   rw [List.foldl_cons]
   have:=ih (stepP s q x)
   have h2 : (stepP s q x).1.length ≤ q.1.length + 2:=by
    unfold stepP
    (repeat' split) <;> simp
   simp only [List.length_cons]
   omega
 intro l
 simpa using this l ([],false)
theorem Put_fn (l : List (List UInt8)) (s : List UInt8) (hl : l.length ≤ 1000000) : CallFn Tryz.prog 239 [aTs l,aT s] (aTs (putT l s)):=by
 have hlen:=stepP_len s
 refine callFz_of Tryz.func239 rfl Tryz.ntmps239 (rs:=[.tmp 4]) rfl (by kernel_rfl) (by simp) (by kernel_rfl) ?_
 simp
 refine V.forI (σ:=Value) l.length [0,1,4] (by simp; exact rfl) (fun i g=>[(5,.own 50 g),(6,aB ((l.take i).foldl (stepP s) ([],false)).2),(7,aI i)])
  (fun i g=>[(50,.seq g 9 1 (((l.take i).foldl (stepP s) ([],false)).1.map rT))]) (fun _ _=>True) (.slice none 0 0) trivial (by simp) ⟨by simp; exact rfl,by simp⟩ ?_ ?_
 ·rintro i g hi -
  obtain ⟨x,hx⟩ : ∃ x,l[i] = x:=⟨_,rfl⟩
  have hxo : l[i]? = some x:=by rw [List.getElem?_eq_getElem hi,hx]
  have hln:=hlen (l.take i)
  rw [List.length_take] at hln
  have hmin : min i l.length ≤ 1000000:=by omega
  rw [foldl_take hxo]
  generalize (l.take i).foldl (stepP s) ([],false) = q at *
  obtain ⟨q1,q2⟩:=q
  simp only at hln
  cases q2
  ·cases hlt : ltB x s
   ·by_cases e : x = s
    ·subst e
     simp [hi,hx,hxo,stepP,hlt]
     omega
    ·simp [hi,hx,hxo,stepP,hlt,e]
     omega
   ·have e : ¬ x = s:=by rintro rfl; rw [ltB_irrefl] at hlt; cases hlt
    simp [hi,hx,hxo,stepP,hlt,e]
    omega
  ·by_cases e : x = s
   ·subst e
    simp [hi,hx,hxo,stepP]
    omega
   ·simp [hi,hx,hxo,stepP,e]
    omega
 ·rintro g -
  have hln:=hlen l
  unfold putT
  simp only [List.take_length]
  generalize l.foldl (stepP s) ([],false) = q at *
  obtain ⟨q1,q2⟩:=q
  simp only at hln
  cases q2
  ·simp
   omega
  ·simp
end Go.Proofs.YtpadinblmjlggaaGreatDoor
end
