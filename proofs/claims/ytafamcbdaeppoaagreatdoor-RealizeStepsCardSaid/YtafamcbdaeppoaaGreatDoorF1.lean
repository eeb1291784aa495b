/- Texts joined by a program: Fwc,Fwd,Fwe. -/
import Derived.Laws.Tables
import Derived.Test.YtafamcbdaeppoaaGreatDoorF0
set_option linter.unusedSimpArgs false
set_option linter.unusedVariables false
namespace Go.Proofs.YtafamcbdaeppoaaGreatDoor
section
def tk (P:Program) (t:TypeId):Nat:=
 match P.underlying t,P.info? t with
 | some (.struct _),some _=>2
 | some (.array _ _),some _=>2
 | some _,some _=>1
 | _,_=>0
def foff (P:Program) (t:TypeId) (k:Nat):Option (Nat×TypeId):=
 match P.underlying t with
 | some (.struct fs)=>(fs[k]?).map fun f=>(f.offset,f.type)
 | _=>none
def slT (P:Program) (t:TypeId):Option TypeId:=
 match P.underlying t with
 | some (.slice e)=>some e
 | _=>none
def arT (P:Program) (t:TypeId):Option (Nat×TypeId):=
 match P.underlying t with
 | some (.array n e)=>some (n,e)
 | _=>none
def isStr (P:Program) (t:TypeId):Bool:=
 match P.underlying t with
 | some .string=>true
 | _=>false
def isBool (P:Program) (t:TypeId):Bool:=
 match P.underlying t with
 | some .bool=>true
 | _=>false
def intT (P:Program) (t:TypeId):Option IntKind:=
 match P.underlying t with
 | some (.int k)=>some k
 | _=>none
abbrev szT (P:Program) (t:TypeId):Nat:=P.cellsOf t
variable {P:Program}
theorem slT_und {t e:TypeId}(h:slT P t=some e):P.underlying t=some (.slice e):=by
 unfold slT at h;split at h<;>simp_all
theorem arT_und {t e:TypeId}{n:Nat}(h:arT P t=some (n,e)):P.underlying t=some (.array n e):=by
 unfold arT at h;split at h<;>simp_all
theorem isStr_und {t:TypeId}(h:isStr P t=true):P.underlying t=some .string:=by
 unfold isStr at h;split at h<;>simp_all
theorem isBool_und {t:TypeId}(h:isBool P t=true):P.underlying t=some .bool:=by
 unfold isBool at h;split at h<;>simp_all
theorem intT_und {t:TypeId}{k:IntKind}(h:intT P t=some k):P.underlying t=some (.int k):=by
 unfold intT at h;split at h<;>simp_all
theorem foff_und {t k o ft:Nat}(h:foff P t k=some (o,ft)):∃fs f,P.underlying t=some (.struct fs)∧fs[k]?=some f∧f.offset=o∧f.type=ft:=by
 unfold foff at h
 split at h
 ·rename_i fs hu
  simp only[Option.map_eq_some_iff,Prod.mk.injEq]at h
  obtain⟨f,h1,h2,h3⟩:=h
  exact⟨fs,f,hu,h1,h2,h3⟩
 ·simp at h
theorem tk_info {t:TypeId}(h:tk P t≠0):∃i,P.info? t=some i:=by
 unfold tk at h;split at h<;>simp_all
theorem tk_one {t:TypeId}(h:tk P t=1):∃d i,P.underlying t=some d∧P.info? t=some i∧(∀f,d≠.struct f)∧(∀n e,d≠.array n e):=by
 unfold tk at h
 split at h<;>try (simp at h;done)
 rename_i d i h1 h2 h3 h4
 exact⟨d,i,h3,h4,fun f e=>h1 f e,fun n e' e=>h2 n e' e⟩
theorem tk_two {t:TypeId}(h:tk P t=2):∃d i,P.underlying t=some d∧P.info? t=some i∧((∃f,d=.struct f)∨∃n e,d=.array n e):=by
 unfold tk at h
 split at h<;>try (simp at h;done)
 ·rename_i f i h3 h4;exact⟨_,i,h3,h4,.inl ⟨f,rfl⟩⟩
 ·rename_i n e i h3 h4;exact⟨_,i,h3,h4,.inr ⟨n,e,rfl⟩⟩
theorem run_isAgg1 {t:TypeId}(h:tk P t=1) (w:World):(isAgg t).run P w=.ok false w:=by
 obtain⟨d,i,h1,_,h3,h4⟩:=tk_one h
 unfold isAgg
 rw[Sem.run_bind,run_underlying h1]
 simp only[Result.andThen_ok]
 cases d<;>first | rfl | exact absurd rfl (h3 _) | exact absurd rfl (h4 _ _)
theorem run_isAgg2 {t:TypeId}(h:tk P t=2) (w:World):(isAgg t).run P w=.ok true w:=by
 obtain⟨d,i,h1,_,h3⟩:=tk_two h
 unfold isAgg
 rw[Sem.run_bind,run_underlying h1]
 simp only[Result.andThen_ok]
 rcases h3 with⟨f,rfl⟩|⟨n,e,rfl⟩<;>rfl
theorem run_sizeOf' {t:TypeId}(h:tk P t≠0) (w:World):(sizeOf t).run P w=.ok (szT P t) w:=by
 obtain⟨i,hi⟩:=tk_info h
 simp[sizeOf,run_typeInfo _ hi,szT,Program.cellsOf,hi]
theorem add_none (b off j:Nat):(⟨b,off,none⟩:Addr).add j=⟨b,off+j,none⟩:=by
 unfold Addr.add;split
 ·rename_i h;simp[h]
 ·rfl
theorem run_loadVar1 {t:TypeId}(h:tk P t=1) {w:World}{a:Addr}{v:Value}(hc:w.cell? a=some v):(loadVar t a).run P w=.ok v w:=by
 unfold loadVar
 rw[Sem.run_bind,run_isAgg1 h]
 simp[hc]
theorem run_loadVar2 {t:TypeId}(h:tk P t=2) {w:World}{b off:Nat}{vs:List Value}(hl:vs.length=szT P t)
  (hc:∀j v,vs[j]?=some v->w.cell? ⟨b,off+j,none⟩=some v):(loadVar t ⟨b,off,none⟩).run P w=.ok (.agg vs.toArray) w:=by
 unfold loadVar
 rw[Sem.run_bind,run_isAgg2 h]
 simp only[Result.andThen_ok,if_true,Sem.run_bind,run_sizeOf' (show tk P t≠0 by omega),<- hl]
 rw[run_loadCells_list w ⟨b,off,none⟩ vs (fun j v hj=>by rw[add_none];exact hc j v hj)]
 rfl
structure Grow (x y:X):Prop where
 le:x.le y
 new:∀b,y.ok b->x.ok b∨x.w.heap.size<=b
 bd:(∀b,x.ok b->b<x.w.heap.size)->∀b,y.ok b->b<y.w.heap.size
 old:∀b,b<x.w.heap.size->y.w.heap[b]?=x.w.heap[b]?
theorem Grow.refl (x:X):Grow x x:=⟨X.le.refl x,fun _ h=>.inl h,fun h=>h,fun _ _=>rfl⟩
theorem Grow.trans {x y z:X}(h:Grow x y) (k:Grow y z):Grow x z:=
 ⟨h.le.trans k.le,fun b hb=>(k.new b hb).elim (h.new b) (fun hle=>.inr (Nat.le_trans h.le.size hle)),fun hx=>k.bd (h.bd hx),
  fun b hb=>(k.old b (Nat.lt_of_lt_of_le hb h.le.size)).trans (h.old b hb)⟩
theorem Inv.grow {x y:X}{H:Heap}(h:Inv x H) (g:Grow x y):Inv y H:=
 h.step g.le (g.bd h.bd) g.new fun p hp b ho=>g.old b (h.own p hp b ho).1
def X.new (x:X) (o:Obj):X:=⟨x.w.alloc o,fun b=>x.ok b∨b=x.w.heap.size⟩
theorem heap_alloc_old (w:World) (o:Obj) {b:Nat}(h:b<w.heap.size):(w.alloc o).heap[b]?=w.heap[b]?:=by
 show (w.heap.push o)[b]?=_
 rw[Array.getElem?_push,if_neg (by omega)]
theorem heap_alloc_new (w:World) (o:Obj):(w.alloc o).heap[w.heap.size]?=some o:=by
 show (w.heap.push o)[w.heap.size]?=_
 simp
theorem X.new_grow (x:X) (o:Obj) (hb:∀b,x.ok b->b<x.w.heap.size):Grow x (x.new o):=
 ⟨⟨fun b h=>⟨.inl h,heap_alloc_old _ _ (hb b h)⟩,rfl,rfl,rfl,by simp[X.new],Nat.le_refl _⟩,fun b h=>h.elim .inl fun e=>.inr (Nat.le_of_eq e.symm),
  fun hx b h=>by rcases h with h | h;exact Nat.lt_of_lt_of_le (hx b h) (by simp[X.new]);subst h;simp[X.new],
  fun b h=>heap_alloc_old _ _ h⟩
def X.drew (x:X):X:=⟨x.w.drew,x.ok⟩
theorem X.drew_grow (x:X):Grow x x.drew:=⟨⟨fun _ h=>⟨h,rfl⟩,rfl,rfl,rfl,Nat.le_refl _,Nat.le_succ _⟩,fun _ h=>.inl h,fun h=>h,fun _ _=>rfl⟩
theorem rdCells_new {x:X}{b:Nat}{c:Array Value}{ty:TypeId}{fr:Nat×Nat}(hok:x.ok b) (hh:x.w.heap[b]?=some (.cells c ty fr)) :
  ∀(ls:List L) (vs:List Value) (off:Nat),RdLs x ls vs->(∀j v,vs[j]?=some v->c[off+j]?=some v)->RdCells x ls b off
 | [],_,_,_,_=>by simp[RdCells]
 | l::ls,[],_,h,_=>by simp[RdLs]at h
 | l::ls,v::vs,off,h,hc=>by
  simp only[RdLs]at h
  simp only[RdCells]
  refine⟨⟨hok,v,?_,h.1⟩,rdCells_new hok hh ls vs (off+1) h.2 fun j u hj=>?_⟩
  ·have:=hc 0 v (by simp)
   simp only[Nat.add_zero]at this
   simp[World.cell?,hh,this]
  ·have:=hc (j+1) u (by simpa using hj)
   rwa [Nat.add_assoc,Nat.add_comm 1 j]
def asL:A->Option (List L)
 | .dat l=>some [l]
 | .record ls=>some ls
 | .nils=>some [.sl []]
 | _=>none
theorem RdL.cells {x:X}{l:L}{v:Value}(h:RdL x l v):v.cells=#[v]:=by
 cases l<;>simp only[RdL]at h
 ·subst h;rfl
 ·subst h;rfl
 ·subst h;rfl
 ·rcases h with⟨rfl,_⟩|⟨b,off,cap,rfl,_,_⟩|⟨a,rfl,_⟩<;>rfl
theorem asL_ok {x:X}{a:A}{ls:List L}{v:Value}(h:asL a=some ls) (hv:D x a v):RdLs x ls v.cells.toList:=by
 cases a<;>simp only[asL,Option.some.injEq,reduceCtorEq]at h
 ·subst h
  simp only[D]at hv
  rw[hv.cells]
  simpa [RdLs]using hv
 ·subst h
  simp only[D]at hv
  obtain⟨vs,rfl,hr⟩:=hv
  exact hr
 ·subst h
  simp only[D]at hv
  subst hv
  simp[Value.cells,RdLs,RdL]
def toLs:List A->Option (List L)
 | []=>some []
 | .dat l::r=>(toLs r).map (l::·)
 | .nils::r=>(toLs r).map (.sl []::·)
 | .owd _ xs::r=>(toLs r).map (.sl xs::·)
 | _::_=>none
def packA (az:List A):A:=
 match toLs az with
 | some ls=>.record ls
 | none=>.agg az
theorem toLs_ok {x:X}:∀ {az:List A}{ls:List L}{vs:List Value},toLs az=some ls->Ds x az vs->RdLs x ls vs
 | [],ls,[],h,_=>by simp[toLs]at h;subst h;simp[RdLs]
 | [],ls,_::_,_,h=>by simp[Ds]at h
 | _::_,_,[],_,h=>by simp[Ds]at h
 | a::az,ls,v::vs,h,hd=>by
  simp only[Ds]at hd
  cases a<;>simp only[toLs,Option.map_eq_some_iff,reduceCtorEq]at h
  ·obtain⟨ls',h1,rfl⟩:=h
   simp only[RdLs]
   exact⟨by simpa [D]using hd.1,toLs_ok h1 hd.2⟩
  ·obtain⟨ls',h1,rfl⟩:=h
   simp only[RdLs]
   have:=hd.1
   simp only[D]at this
   exact⟨by simp[RdL,this],toLs_ok h1 hd.2⟩
  ·obtain⟨ls',h1,rfl⟩:=h
   simp only[RdLs]
   have:=hd.1
   simp only[D]at this
   exact⟨this.2,toLs_ok h1 hd.2⟩
theorem packA_ok {x:X}{az:List A}{vs:Array Value}(h:Ds x az vs.toList):D x (packA az) (.agg vs):=by
 unfold packA
 split
 ·rename_i ls hl
  simp only[D];exact⟨vs,rfl,toLs_ok hl h⟩
 ·simp only[D];exact⟨vs,rfl,h⟩
def hasNil:List A->Bool
 | []=>false
 | .nils::_=>true
 | _::r=>hasNil r
def packB (az:List A):A:=match hasNil az with
 | true=>.agg az
 | false=>packA az
theorem packB_ok {x:X}{az:List A}{vs:Array Value}(h:Ds x az vs.toList):D x (packB az) (.agg vs):=by
 unfold packB
 split
 ·simp only[D];exact⟨vs,rfl,h⟩
 ·exact packA_ok h
def stR:A->Prop×A
 | .cond p a=>(p,a)
 | .nn xs=>(True,.dat (.sl xs))
 | .clip xs=>(True,.dat (.sl xs))
 | .owd _ xs=>(True,.dat (.sl xs))
 | a=>(True,a)
theorem stR_ok {x:X}{a:A}{v:Value}(h:D x a v) (hp:(stR a).1):D x (stR a).2 v:=by
 cases a<;>simp only[stR]at hp ⊢<;>try exact h
 ·simp only[D]at h ⊢
  exact h.1
 ·simp only[D]at h
  exact h.1 hp
 ·simp only[D]at h ⊢
  exact h.1
 ·simp only[D]at h ⊢
  exact h.2
def nilsA (az:List A):A:=match hasNil az with
 | true=>packA az
 | false=>.agg az
def st:A->Prop×A
 | .cond p a=>(p,a)
 | .nn xs=>(True,.dat (.sl xs))
 | .clip xs=>(True,.dat (.sl xs))
 | .owd _ xs=>(True,.dat (.sl xs))
 | .agg az=>(True,nilsA az)
 | a=>(True,a)
theorem st_ok {x:X}{a:A}{v:Value}(h:D x a v) (hp:(st a).1):D x (st a).2 v:=by
 cases a<;>simp only[st]at hp ⊢<;>try exact h
 ·simp only[D]at h ⊢
  exact h.1
 ·unfold nilsA
  split
  ·simp only[D]at h
   obtain⟨vs,rfl,h2⟩:=h
   exact packA_ok h2
  ·exact h
 ·simp only[D]at h
  exact h.1 hp
 ·simp only[D]at h ⊢
  exact h.1
 ·simp only[D]at h ⊢
  exact h.2
def inR (k:IntKind) (n:Int):Prop:=k.wrap n=n
def loadA (P:Program) (t:TypeId):A->Option (Prop×A)
 | .rptr ls=>match tk P t with
  | 2=>some (szT P t<=ls.length,.record (ls.take (szT P t)))
  | 1=>match ls with
   | l::_=>some (True,.dat l)
   | []=>none
  | _=>none
 | _=>none
theorem loadA_ok {t:TypeId}{a a':A}{p:Prop}(h:loadA P t a=some (p,a')) (hp:p) {x:X}{v:Value}(hv:D x a v) :
  ∃u,(Instr.loadAt t v).run P x.w=.ok u x.w∧D x a' u:=by
 unfold loadA at h
 split at h<;>try (simp at h;done)
 rename_i ls
 simp only[D]at hv
 obtain⟨b,off,rfl,hr⟩:=hv
 split at h
 ·rename_i ht
  simp only[Option.some.injEq,Prod.mk.injEq]at h
  obtain⟨rfl,rfl⟩:=h
  obtain⟨vs,h1,h2⟩:=(hr.take (szT P t)).vals
  refine⟨.agg vs.toArray,?_,?_⟩
  ·have hl:vs.length=szT P t:=by rw[h1.length,List.length_take];omega
   simp[Instr.loadAt,Instr.sureAddr,run_loadVar2 ht hl h2]
  ·simp only[D];exact⟨_,rfl,by simpa using h1⟩
 ·rename_i ht
  split at h<;>try (simp at h;done)
  simp only[Option.some.injEq,Prod.mk.injEq]at h
  obtain⟨_,rfl⟩:=h
  simp only[RdCells]at hr
  obtain⟨⟨_,u,hc,hu⟩,_⟩:=hr
  exact⟨u,by simp[Instr.loadAt,Instr.sureAddr,run_loadVar1 ht hc],by simpa [D]using hu⟩
 ·simp at h
def fieldA (P:Program) (t:TypeId) (k:Nat):A->Option (Prop×A)
 | .rptr ls=>match foff P t k with
  | some (o,ft)=>some (tk P ft≠0∧szT P ft≠0,.rptr (ls.drop o))
  | none=>none
 | .ptr g b off=>match foff P t k with
  | some (o,ft)=>some (tk P ft≠0∧szT P ft≠0,.ptr g b (off+o))
  | none=>none
 | .eptr g h sz i j=>match foff P t k with
  | some (o,ft)=>some (tk P ft≠0∧szT P ft≠0,.eptr g h sz i (j+o))
  | none=>none
 | _=>none
theorem run_fieldAt {t k o ft:Nat}(h:foff P t k=some (o,ft)) (h1:tk P ft≠0) (h2:szT P ft≠0) (w:World) (b off:Nat) :
  (Instr.fieldAt t (.pointer (some ⟨b,off,none⟩)) k).run P w=.ok (.pointer (some ⟨b,off+o,none⟩)) w:=by
 obtain⟨fs,f,hu,hf,rfl,rfl⟩:=foff_und h
 simp[Instr.fieldAt,run_underlying hu,hf,Instr.sureAddr,fieldPlace,run_sizeOf' h1,h2,add_none]
theorem fieldA_ok {t k:Nat}{a a':A}{p:Prop}(h:fieldA P t k a=some (p,a')) (hp:p) {x:X}{v:Value}(hv:D x a v) :
  ∃u,(Instr.fieldAt t v k).run P x.w=.ok u x.w∧D x a' u:=by
 unfold fieldA at h
 split at h<;>try (simp at h;done)
 all_goals
  split at h<;>try (simp at h;done)
  rename_i o ft hf
  simp only[Option.some.injEq,Prod.mk.injEq]at h
  obtain⟨rfl,rfl⟩:=h
  simp only[D]at hv
 ·obtain⟨b,off,rfl,hr⟩:=hv
  exact⟨_,run_fieldAt hf hp.1 hp.2 x.w b off,by simp only[D];exact⟨b,off+o,rfl,hr.drop o⟩⟩
 ·subst hv
  exact⟨_,run_fieldAt hf hp.1 hp.2 x.w _ _,by simp only[D]⟩
 ·obtain⟨b,off,n,cap,e,rfl⟩:=hv
  exact⟨_,run_fieldAt hf hp.1 hp.2 x.w _ _,by simp only[D];exact⟨b,off,n,cap,e,by simp[Nat.add_assoc]⟩⟩
def rl (xs:List (List L)) (n:Nat):Prop:=∀r∈xs,r.length=n
theorem rl_map {α:Type}{f:α->List L}{n:Nat}(h:∀a,(f a).length=n) (xs:List α):rl (xs.map f) n=True:=by
 simp only[rl,eq_iff_iff,iff_true]
 intro r hr
 obtain⟨a,_,rfl⟩:=List.mem_map.1 hr
 exact h a
theorem rl_take {xs:List (List L)}{n k:Nat}(h:rl xs n=True):rl (xs.take k) n=True:=by
 simp only[eq_iff_iff,iff_true]at h ⊢
 exact fun r hr=>h r (List.mem_of_mem_take hr)
theorem rl_drop {xs:List (List L)}{n k:Nat}(h:rl xs n=True):rl (xs.drop k) n=True:=by
 simp only[eq_iff_iff,iff_true]at h ⊢
 exact fun r hr=>h r (List.mem_of_mem_drop hr)
theorem rl_app {xs ys:List (List L)}{n:Nat}(h:rl xs n=True) (k:rl ys n=True):rl (xs++ys) n=True:=by
 simp only[eq_iff_iff,iff_true]at h k ⊢
 intro r hr
 rcases List.mem_append.1 hr with hr | hr
 ·exact h r hr
 ·exact k r hr
theorem rl_nil (n:Nat):rl [] n=True:=by simp[rl]
theorem rl_cons (r:List L) (rs:List (List L)) (n:Nat):rl (r::rs) n=(r.length=n∧rl rs n):=by simp[rl]
def indexA (P:Program) (t:TypeId):A->A->Option (Prop×A)
 | .dat (.sl xs),.dat (.int _ n)=>match slT P t with
  | some e=>some (tk P e≠0∧rl xs (szT P e)∧0<=n∧n<xs.length,.rptr ((xs[n.toNat]?).getD []))
  | none=>none
 | .rptr ls,.dat (.int _ n)=>match arT P t with
  | some (len,e)=>some (tk P e≠0∧0<=n∧n<len,.rptr (ls.drop (n.toNat*szT P e)))
  | none=>none
 | .ptr g b off,.dat (.int _ n)=>match arT P t with
  | some (len,e)=>some (tk P e≠0∧0<=n∧n<len,.ptr g b (off+n.toNat*szT P e))
  | none=>none
 | _,_=>none
theorem indexA_ok {t:Nat}{a i a':A}{p:Prop}(h:indexA P t a i=some (p,a')) (hp:p) {x:X}{v u:Value}(hv:D x a v) (hu:D x i u) :
  ∃r,(Instr.indexAt t v u).run P x.w=.ok r x.w∧D x a' r:=by
 unfold indexA at h
 split at h<;>try (simp at h;done)
 all_goals
  simp only[D,RdL]at hu
  subst hu
  split at h<;>try (simp at h;done)
  simp only[Option.some.injEq,Prod.mk.injEq]at h
  obtain⟨rfl,rfl⟩:=h
 ·rename_i xs kk n o e he
  obtain⟨h1,h2,h3,h4⟩:=hp
  simp only[D,RdL]at hv
  rcases hv with⟨_,rfl⟩|⟨b,off,cap,rfl,_,hr⟩|⟨a,_,rfl⟩
  rotate_right
  ·simp at h4;omega
  ·simp at h4;omega
  ·have hn:n.toNat<xs.length:=by omega
   obtain⟨r,hr1⟩:∃r,xs[n.toNat]?=some r:=⟨_,List.getElem?_eq_getElem hn⟩
   have:=RdRows.get n.toNat xs b off r h2 hr hr1
   refine⟨.pointer (some ⟨b,off+n.toNat*szT P e,none⟩),?_,?_⟩
   ·simp[Instr.indexAt,asIntOf,run_underlying (slT_und he),h3,h4,run_sizeOf' h1,add_none]
   ·simp only[D,hr1,Option.getD_some];exact⟨b,_,rfl,this⟩
 ·rename_i ls kk n o len e he
  obtain⟨h1,h3,h4⟩:=hp
  simp only[D]at hv
  obtain⟨b,off,rfl,hr⟩:=hv
  refine⟨.pointer (some ⟨b,off+n.toNat*szT P e,none⟩),?_,?_⟩
  ·simp[Instr.indexAt,asIntOf,run_underlying (arT_und he),Instr.sureAddr,h3,h4,run_sizeOf' h1,add_none]
  ·simp only[D];exact⟨b,_,rfl,hr.drop _⟩
 ·rename_i g b off kk n o len e he
  obtain⟨h1,h3,h4⟩:=hp
  simp only[D]at hv
  subst hv
  refine⟨.pointer (some ⟨b,off+n.toNat*szT P e,none⟩),?_,by simp only[D]⟩
  simp[Instr.indexAt,asIntOf,run_underlying (arT_und he),Instr.sureAddr,h3,h4,run_sizeOf' h1,add_none]
def lenA (P:Program) (t:TypeId):A->Option (Prop×A)
 | .dat (.sl xs)=>some ((slT P t).isSome=true,.dat (.int .i64 xs.length))
 | .nils=>some ((slT P t).isSome=true,.dat (.int .i64 0))
 | .dat (.str s)=>some (isStr P t=true,.dat (.int .i64 s.length))
 | _=>none
theorem lenA_ok {t ty:Nat}{ts:Array TypeId}{a a':A}{p:Prop}(h:lenA P t a=some (p,a')) (hp:p) {x:X}{v:Value}(hv:D x a v) (ht:ts[0]?=some t) :
  ∃u,(Builtin.len_ ts ty #[v]).run P x.w=.ok u x.w∧D x a' u:=by
 unfold lenA at h
 split at h<;>try (simp at h;done)
 all_goals
  simp only[Option.some.injEq,Prod.mk.injEq]at h
  obtain⟨rfl,rfl⟩:=h
  simp only[D,RdL]at hv
 ·obtain⟨e,he⟩:=Option.isSome_iff_exists.1 hp
  rcases hv with⟨rfl,rfl⟩|⟨b,off,cap,rfl,_,hr⟩|⟨a,rfl,rfl⟩
  rotate_right
  ·exact⟨.int .i64 0,by simp[Builtin.len_,ht,run_underlying (slT_und he),goInt],by simp[D,RdL]⟩
  ·exact⟨.int .i64 0,by simp[Builtin.len_,ht,run_underlying (slT_und he),goInt],by simp[D,RdL]⟩
  ·rename_i xs _
   exact⟨.int .i64 xs.length,by simp[Builtin.len_,ht,run_underlying (slT_und he),goInt],by simp[D,RdL]⟩
 ·obtain⟨e,he⟩:=Option.isSome_iff_exists.1 hp
  subst hv
  exact⟨.int .i64 0,by simp[Builtin.len_,ht,run_underlying (slT_und he),goInt],by simp[D,RdL]⟩
 ·rename_i s
  subst hv
  refine⟨.int .i64 s.length,?_,by simp[D,RdL]⟩
  have hs:(ByteArray.mk s.toArray).size=s.length:=by simp[ByteArray.size]
  simp[Builtin.len_,ht,run_underlying (isStr_und hp),goInt,hs]
def shlI (k:IntKind) (a b:Int):Int:=k.wrap (a*2 ^ (min b.toNat k.bits))
def shrI (k:IntKind) (a b:Int):Int:=a.fdiv (2 ^ (min b.toNat k.bits))
def andI (k:IntKind) (a b:Int):Int:=k.wrap ((BitVec.ofInt k.bits a) &&& (BitVec.ofInt k.bits b)).toNat
def orI (k:IntKind) (a b:Int):Int:=k.wrap ((BitVec.ofInt k.bits a) ||| (BitVec.ofInt k.bits b)).toNat
def xorI (k:IntKind) (a b:Int):Int:=k.wrap ((BitVec.ofInt k.bits a) ^^^ (BitVec.ofInt k.bits b)).toNat
def isPtr (P:Program) (t:TypeId):Bool:=
 match P.underlying t with
 | some (.pointer _)=>true
 | _=>false
theorem isPtr_und {t:TypeId}(h:isPtr P t=true):∃e,P.underlying t=some (.pointer e):=by
 unfold isPtr at h
 split at h
 ·rename_i e he
  exact⟨e,he⟩
 ·cases h
theorem run_equal_ptr {t e:TypeId}(hu:P.underlying t=some (.pointer e)) (a:Option Addr) (w:World):(Op.equal t (.pointer a) (.pointer none)).run P w=.ok a.isNone w:=by
 show (Op.equalIn (9999+1) t (.pointer a) (.pointer none)).run P w=_
 rw[Op.equalIn,Sem.run_bind,run_underlying hu]
 cases a<;>rfl
def binA (P:Program) (op:BinOp) (t:TypeId):A->A->Option (Prop×A)
 | .dat (.int k a),.dat (.int k' b)=>match op with
  | .shl=>some (0<=b,.dat (.int k (shlI k a b)))
  | .shr=>some (0<=b,.dat (.int k (shrI k a b)))
  | .and=>some (k=k',.dat (.int k (andI k a b)))
  | .or=>some (k=k',.dat (.int k (orI k a b)))
  | .xor=>some (k=k',.dat (.int k (xorI k a b)))
  | .add=>some (k=k'∧inR k (a+b),.dat (.int k (a+b)))
  | .sub=>some (k=k'∧inR k (a-b),.dat (.int k (a-b)))
  | .mul=>some (k=k'∧inR k (a*b),.dat (.int k (a*b)))
  | .quo=>some (k=k'∧b≠0∧inR k (a.tdiv b),.dat (.int k (a.tdiv b)))
  | .rem=>some (k=k'∧b≠0,.dat (.int k (a.tmod b)))
  | .eql=>some (k=k',.dat (.bool (a==b)))
  | .neq=>some (k=k',.dat (.bool (a != b)))
  | .lss=>some (k=k',.dat (.bool (decide (a<b))))
  | .leq=>some (k=k',.dat (.bool (decide (a<=b))))
  | .gtr=>some (k=k',.dat (.bool (decide (b<a))))
  | .geq=>some (k=k',.dat (.bool (decide (b<=a))))
  | _=>none
 | .dat (.bool a),.dat (.bool b)=>match op with
  | .eql=>some (isBool P t=true,.dat (.bool (a==b)))
  | .neq=>some (isBool P t=true,.dat (.bool (a != b)))
  | _=>none
 | .dat (.str a),.dat (.str b)=>match op with
  | .eql=>some (True,.dat (.bool (a==b)))
  | .neq=>some (True,.dat (.bool (a != b)))
  | .add=>some (((a.length+b.length:Nat):Int)<=9223372036854775807,.dat (.str (a++b)))
  | .lss=>some (True,.dat (.bool (Go.Op.bytesLess a b)))
  | .leq=>some (True,.dat (.bool (Go.Op.bytesLess a b||a==b)))
  | .gtr=>some (True,.dat (.bool (!(Go.Op.bytesLess a b||a==b))))
  | .geq=>some (True,.dat (.bool (!Go.Op.bytesLess a b)))
  | _=>none
 | .record xs,.record ys=>match cmpT P t with
  | some ks=>match op with
   | .eql=>some (fitLs ks xs=true∧fitLs ks ys=true,.dat (.bool (leqs xs ys)))
   | .neq=>some (fitLs ks xs=true∧fitLs ks ys=true,.dat (.bool (!leqs xs ys)))
   | _=>none
  | none=>none
 | .rptr _,.nilp=>match op with
  | .eql=>some (isPtr P t=true,.dat (.bool false))
  | .neq=>some (isPtr P t=true,.dat (.bool true))
  | _=>none
 | .nilp,.nilp=>match op with
  | .eql=>some (isPtr P t=true,.dat (.bool true))
  | .neq=>some (isPtr P t=true,.dat (.bool false))
  | _=>none
 | _,_=>none
theorem str_toList (s:List UInt8):(ByteArray.mk s.toArray).toList=s:=by
 rw[ByteArray.toList_eq]
theorem run_equal_bool {t:TypeId}(hu:P.underlying t=some .bool) (a b:Bool) (w:World):(Op.equal t (.bool a) (.bool b)).run P w=.ok (a==b) w:=by
 show (Op.equalIn (9999+1) t (.bool a) (.bool b)).run P w=_
 rw[Op.equalIn,Sem.run_bind,run_underlying hu]
 rfl
theorem str_append (a b:List UInt8):(ByteArray.mk a.toArray)++(ByteArray.mk b.toArray)=ByteArray.mk (a++b).toArray:=by
 apply ByteArray.ext
 simp[ByteArray.data_append]
theorem binA_ok {op:BinOp}{t:Nat}{a b c:A}{p:Prop}(h:binA P op t a b=some (p,c)) (hp:p) {x:X}{v u:Value}(hv:D x a v) (hu:D x b u) (ox oy:Operand) :
  ∃r,(do eqGuard op t ox oy v u;binOp op t v u:Sem Value).run P x.w=.ok r x.w∧D x c r:=by
 unfold binA at h
 split at h<;>try (simp at h;done)
 ·simp only[D,RdL]at hv hu
  subst hv;subst hu
  split at h<;>try (simp at h;done)
  all_goals
   simp only[Option.some.injEq,Prod.mk.injEq]at h
   obtain⟨rfl,rfl⟩:=h
   simp only[D,RdL]
  ·refine⟨_,?_,rfl⟩;simp[eqGuard,binOp,Op.shift,Int.not_lt.2 hp,shlI]
  ·refine⟨_,?_,rfl⟩;simp[eqGuard,binOp,Op.shift,Int.not_lt.2 hp,shrI]
  ·subst hp;refine⟨_,?_,rfl⟩;simp[eqGuard,binOp,Op.intBits,andI]
  ·subst hp;refine⟨_,?_,rfl⟩;simp[eqGuard,binOp,Op.intBits,orI]
  ·subst hp;refine⟨_,?_,rfl⟩;simp[eqGuard,binOp,Op.intBits,xorI]
  ·obtain⟨rfl,h2⟩:=hp;refine⟨_,?_,rfl⟩;simp[eqGuard,binOp,Op.intArith];exact h2
  ·obtain⟨rfl,h2⟩:=hp;refine⟨_,?_,rfl⟩;simp[eqGuard,binOp,Op.intArith];exact h2
  ·obtain⟨rfl,h2⟩:=hp;refine⟨_,?_,rfl⟩;simp[eqGuard,binOp,Op.intArith];exact h2
  ·obtain⟨rfl,h1,h2⟩:=hp;refine⟨_,?_,rfl⟩;simp[eqGuard,binOp,Op.intDiv,h1];exact h2
  ·obtain⟨rfl,h1⟩:=hp;refine⟨_,?_,rfl⟩;simp[eqGuard,binOp,Op.intDiv,h1]
  all_goals subst hp;refine⟨_,?_,rfl⟩;simp[eqGuard,binOp,Op.intCmp]
 ·simp only[D,RdL]at hv hu
  subst hv;subst hu
  split at h<;>try (simp at h;done)
  all_goals
   simp only[Option.some.injEq,Prod.mk.injEq]at h
   obtain⟨rfl,rfl⟩:=h
   simp only[D,RdL]
   refine⟨_,?_,rfl⟩
   simp[eqGuard,binOp,run_equal_bool (isBool_und hp),bne]
 ·simp only[D,RdL]at hv hu
  subst hv;subst hu
  split at h<;>try (simp at h;done)
  all_goals
   simp only[Option.some.injEq,Prod.mk.injEq]at h
   obtain⟨rfl,rfl⟩:=h
   simp only[D,RdL]
  ·refine⟨_,?_,rfl⟩;simp[eqGuard,binOp,Op.stringOp,str_toList]
  ·refine⟨_,?_,rfl⟩;simp[eqGuard,binOp,Op.stringOp,str_toList,bne]
  ·rename_i a b _
   refine⟨_,?_,rfl⟩
   have hs:¬((((ByteArray.mk a.toArray).size+(ByteArray.mk b.toArray).size:Nat):Int)>IntKind.i64.max):=by
    simp only[ByteArray.size,List.size_toArray,IntKind.max]
    simp[IntKind.signed,IntKind.bits]
    omega
   simp only[eqGuard,binOp,Op.stringOp,hs,if_false,str_append]
   simp
  all_goals refine⟨_,?_,rfl⟩;simp[eqGuard,binOp,Op.stringOp,str_toList]
 ·simp only[D]at hv hu
  obtain⟨vs,rfl,hv⟩:=hv
  obtain⟨us,rfl,hu⟩:=hu
  split at h<;>try (simp at h;done)
  rename_i ks hks
  split at h<;>try (simp at h;done)
  all_goals
   simp only[Option.some.injEq,Prod.mk.injEq]at h
   obtain⟨rfl,rfl⟩:=h
   simp only[D,RdL]
   have hq:=struct_eq hks hp.1 hp.2 hv hu ox oy
  ·exact⟨_,hq.1,rfl⟩
  ·exact⟨_,hq.2,rfl⟩
 ·simp only[D]at hv hu
  obtain⟨bb,off,rfl,_⟩:=hv
  subst hu
  split at h<;>try (simp at h;done)
  all_goals
   simp only[Option.some.injEq,Prod.mk.injEq]at h
   obtain⟨rfl,rfl⟩:=h
   obtain⟨e,he⟩:=isPtr_und hp
   simp only[D,RdL]
   refine⟨_,?_,rfl⟩
   simp[eqGuard,binOp,run_equal_ptr he]
 ·simp only[D]at hv hu
  subst hv;subst hu
  split at h<;>try (simp at h;done)
  all_goals
   simp only[Option.some.injEq,Prod.mk.injEq]at h
   obtain⟨rfl,rfl⟩:=h
   obtain⟨e,he⟩:=isPtr_und hp
   simp only[D,RdL]
   refine⟨_,?_,rfl⟩
   simp[eqGuard,binOp,run_equal_ptr he]
end
section
variable {P:Program}
theorem newVar_ok {x:X}(hb:∀b,x.ok b->b<x.w.heap.size) {ls:List L}{cells:Array Value}(h:RdLs x ls cells.toList) (ty:TypeId) :
  (newRow ty cells).run P x.w=.ok ⟨x.w.heap.size,0,none⟩ (x.new (.cells cells ty)).w∧Grow x (x.new (.cells cells ty)) ∧
   RdCells (x.new (.cells cells ty)) ls x.w.heap.size 0:=by
 refine⟨by simp[newRow,X.new],X.new_grow x _ hb,?_⟩
 refine rdCells_new (x:=x.new (.cells cells ty)) (c:=cells) (ty:=ty) (fr:=(0,0)) (Or.inr rfl) (heap_alloc_new _ _) ls cells.toList 0 (RdLs.mono (X.new_grow x _ hb).le _ _ h) ?_
 intro j v hj
 simpa using hj
def boxA (a:A):Option (Prop×A):=
 match a with
 | .nils=>none
 | a=>match asL a with
  | some ls=>some (True,.rptr ls)
  | none=>none
theorem boxA_ok {t:TypeId}{a a':A}{p:Prop}(h:boxA a=some (p,a')) {x:X}(hb:∀b,x.ok b->b<x.w.heap.size) {v:Value}(hv:D x a v) :
  ∃u y,(Instr.box t v).run P x.w=.ok u y.w∧Grow x y∧D y a' u:=by
 unfold boxA at h
 split at h<;>try (simp at h;done)
 split at h<;>try (simp at h;done)
 rename_i ls hl
 simp only[Option.some.injEq,Prod.mk.injEq]at h
 obtain⟨_,rfl⟩:=h
 obtain⟨h1,h2,h3⟩:=newVar_ok (P:=P) hb (asL_ok hl hv) t
 refine⟨.pointer (some ⟨x.w.heap.size,0,none⟩),_,?_,h2,by simp only[D];exact⟨_,_,rfl,h3⟩⟩
 simp[Instr.box,newVar,h1]
def flatA:A->Option (List A)
 | .dat l=>some [.dat l]
 | .record ls=>some (ls.map .dat)
 | .agg az=>some az
 | .any=>none
 | .undef=>none
 | .tuple _=>none
 | .cond _ _=>none
 | .nn _=>none
 | .clip _=>none
 | a=>some [a]
theorem flatA_ok {x:X}{a:A}{cs:List A}{v:Value}(h:flatA a=some cs) (hv:D x a v):Ds x cs v.cells.toList:=by
 cases a<;>simp only[flatA,Option.some.injEq,reduceCtorEq]at h<;>subst h
 ·simp only[D]at hv
  rw[hv.cells]
  simpa [Ds,D]using hv
 ·simp only[D]at hv
  obtain⟨vs,rfl,hr⟩:=hv
  exact Ds.of_ls hr
 ·simp only[D]at hv
  obtain⟨vs,rfl,hr⟩:=hv
  exact hr
 all_goals
  have hc:v.cells=#[v]:=by
   first
    | (simp only[D]at hv;subst hv;rfl)
    | (simp only[D]at hv;obtain⟨rfl,_,_,_,rfl⟩:=hv;rfl)
    | (simp only[D]at hv;exact hv.2.cells)
    | (simp only[D]at hv;obtain⟨_,_,rfl,_⟩:=hv;rfl)
    | (simp only[D]at hv;obtain⟨_,_,_,_,_,rfl⟩:=hv;rfl)
    | skip
  rw[hc]
  simpa [Ds]using hv
def bldT (P:Program) (t:TypeId):Option (List Value×List (Nat×Nat)):=
 match P.info? t,P.underlying t with
 | some it,some (.array n e)=>
  match it.zero,P.info? e with
  | some z,some ie=>some (z.cells.toList,(List.range n).map fun i=>(i*ie.size,ie.size))
  | _,_=>none
 | some it,some (.struct fields)=>
  match it.zero,fields.toList.mapM (fun f=>(P.info? f.type).map fun i=>(f.offset,i.size)) with
  | some z,some places=>some (z.cells.toList,places)
  | _,_=>none
 | _,_=>none
def splice {α:Type}(cs:List α) (off:Nat) (us:List α):List α:=cs.take off++(us++cs.drop (off+us.length))
def fillA (pl:List (Nat×Nat)) (cells:List A):List (Nat×A)->Option (List A)
 | []=>some cells
 | (i,a)::r=>match pl[i]?,flatA a with
  | some (off,size),some cs=>if cs.length=size∧off+size<=cells.length then fillA pl (splice cells off cs) r else none
  | _,_=>none
theorem foldl_splice:∀(us:List Value) (k:Nat) (off:Nat) (cs:Array Value),off+k+us.length<=cs.size ->
  ((us.zipIdx k).foldl (fun cs (c,j)=>cs.setIfInBounds (off+j) c) cs).toList=splice cs.toList (off+k) us
 | [],k,off,cs,h=>by simp[splice]
 | u::us,k,off,cs,h=>by
  simp only[List.length_cons]at h
  simp only[List.zipIdx_cons,List.foldl_cons]
  have ih:=foldl_splice us (k+1) off (cs.setIfInBounds (off+k) u) (by simp;omega)
  rw[ih]
  have hm:off+k<cs.toList.length:=by simp;omega
  have hl:(cs.toList.take (off+k)).length=off+k:=by simp;omega
  simp only[splice,Array.toList_setIfInBounds]
  rw[List.set_eq_take_append_cons_drop,if_pos hm,show off+(k+1)=(cs.toList.take (off+k)).length+1 by omega,Nat.add_assoc,List.take_length_add_append,
   Nat.add_assoc,List.drop_length_add_append]
  have e2:off+(k+(u::us).length)=off+(k+1)+us.length:=by simp;omega
  have e1:1+us.length=us.length+1:=by omega
  rw[e1,List.drop_succ_cons,List.drop_drop,Nat.add_assoc off k (u::us).length,e2]
  simp[Nat.add_assoc]
theorem Ds.splice {x:X}{cs us:List A}{vs ws:List Value}{off:Nat}(h:Ds x cs vs) (k:Ds x us ws):Ds x (splice cs off us) (splice vs off ws):=by
 unfold Go.Proofs.YtafamcbdaeppoaaGreatDoor.splice
 rw[k.length]
 exact (h.take _).append (k.append (h.drop _))
def PartsOK (x:X):List (Nat×A)->List (Nat×Value)->Prop
 | [],[]=>True
 | (i,a)::r,(j,v)::s=>i=j∧D x a v∧PartsOK x r s
 | [],_::_=>False
 | _::_,[]=>False
theorem fillA_ok {x:X}{pl:List (Nat×Nat)}{place:Nat->Option (Nat×Nat)}(hpl:∀i o s,pl[i]?=some (o,s)->place i=some (o,s)) :
  ∀(ps:List (Nat×A)) (qs:List (Nat×Value)) (cells out:List A) (cv:Array Value),PartsOK x ps qs->Ds x cells cv.toList->fillA pl cells ps=some out ->
   ∃ov,Instr.fill place cv qs=some ov∧Ds x out ov.toList
 | [],[],cells,out,cv,_,hd,h=>by
  simp only[fillA,Option.some.injEq]at h;subst h
  exact⟨cv,rfl,hd⟩
 | [],_::_,_,_,_,hp,_,_=>by simp[PartsOK]at hp
 | _::_,[],_,_,_,hp,_,_=>by simp[PartsOK]at hp
 | (i,a)::r,(j,v)::s,cells,out,cv,hp,hd,h=>by
  simp only[PartsOK]at hp
  obtain⟨rfl,hv,hr⟩:=hp
  simp only[fillA]at h
  split at h<;>try (simp at h;done)
  rename_i o sz cs hi hf
  split at h<;>try (simp at h;done)
  rename_i hc
  have hcs:=flatA_ok hf hv
  have hl:=hcs.length
  have hl2:=hd.length
  simp only[Array.length_toList]at hl hl2
  simp only[Instr.fill,hpl i o sz hi]
  rw[if_neg (by simp;omega)]
  refine fillA_ok hpl r s _ out _ hr ?_ h
  have:=foldl_splice v.cells.toList 0 o cv (by simp;omega)
  rw[<- Array.foldl_toList]
  simp only[Array.toList_zipIdx]
  rw[this]
  simpa using hd.splice (off:=o+0) hcs
def evs (E:Env) (ps:List (Nat×Operand)):List (Nat×A):=ps.map fun (i,o)=>(i,(st (ev E o)).2)
def evp (E:Env) (ps:List (Nat×Operand)):Prop:=∀p∈ps,(st (ev E p.2)).1
theorem parts_ok {n:Nat}{ds:List Deferred}{x:X}{act:Act}{E:Env}(he:EnvOK n ds x act E):∀(ps:List (Nat×Operand)),evp E ps->PartsOK x (evs E ps) (ps.map fun (i,o)=>(i,act.eval o))
 | [],_=>by simp[PartsOK,evs]
 | (i,o)::r,hp=>by
  simp only[evs,List.map_cons,PartsOK]
  exact⟨trivial,st_ok (ev_ok he o) (hp (i,o) (by simp)),parts_ok he r fun p hp'=>hp p (by simp[hp'])⟩
theorem Ds_kA (x:X):∀(vs:List Value),Ds x (vs.map kA) vs
 | []=>by simp[Ds]
 | v::vs=>by simp only[List.map_cons,Ds];exact⟨kA_ok x v,Ds_kA x vs⟩
def buildA (P:Program) (t:TypeId) (ps:List (Nat×A)):Option A:=
 match bldT P t with
 | some (zs,pl)=>(fillA pl (zs.map kA) ps).map packB
 | none=>none
theorem buildA_ok {t:TypeId}{ps:List (Nat×A)}{qs:Array (Nat×Value)}{a:A}(h:buildA P t ps=some a) {x:X}(hp:PartsOK x ps qs.toList) :
  ∃u,(Instr.build t qs).run P x.w=.ok u x.w∧D x a u:=by
 unfold buildA at h
 split at h<;>try (simp at h;done)
 rename_i zs pl hb
 simp only[Option.map_eq_some_iff]at h
 obtain⟨out,h1,rfl⟩:=h
 unfold bldT at hb
 split at hb<;>try (simp at hb;done)
 ·rename_i it n e hi hu
  split at hb<;>try (simp at hb;done)
  rename_i z ie hz hie
  simp only[Option.some.injEq,Prod.mk.injEq]at hb
  obtain⟨rfl,rfl⟩:=hb
  obtain⟨ov,h2,h3⟩:=fillA_ok (place:=fun i=>some (i*ie.size,ie.size)) (by
   intro i o s hi
   simp only[List.getElem?_map,Option.map_eq_some_iff]at hi
   obtain⟨j,hj,e⟩:=hi
   have hji:j=i:=by
    have hlt:i<n:=by
     rcases Nat.lt_or_ge i n with h | h
     ·exact h
     ·rw[List.getElem?_eq_none (by simpa using h)]at hj;cases hj
    rw[List.getElem?_range hlt]at hj
    simpa using hj.symm
   subst hji;rw[<- e]) ps qs.toList _ out z.cells hp (Ds_kA x _) h1
  exact⟨_,run_build x.w t qs ov (by simp only[Program.built,hi,hu,hz,hie];exact h2),packB_ok h3⟩
 ·rename_i it fs hi hu
  split at hb<;>try (simp at hb;done)
  rename_i z places hz hpl
  simp only[Option.some.injEq,Prod.mk.injEq]at hb
  obtain⟨rfl,rfl⟩:=hb
  obtain⟨ov,h2,h3⟩:=fillA_ok (place:=(places.toArray[·]?)) (by intro i o s hi;simpa using hi) ps qs.toList _ out z.cells hp (Ds_kA x _) h1
  exact⟨_,run_build x.w t qs ov (by simp only[Program.built,hi,hu,hz,hpl];exact h2),packB_ok h3⟩
end
section
variable {P:Program}
def pickA (c a b:A):Option (Prop×A):=
 match st c,st a,st b with
 | (pc,.dat (.bool t)),(pa,.dat (.bool u)),(pb,.dat (.bool v))=>some (pc∧(t=true->pa)∧(t=false->pb),.dat (.bool (cond t u v)))
 | (pc,.dat (.bool t)),(pa,.dat (.bool u)),_=>some (pc∧t=true∧pa,.dat (.bool u))
 | (pc,.dat (.bool t)),_,(pb,.dat (.bool v))=>some (pc∧t=false∧pb,.dat (.bool v))
 | _,_,_=>none
theorem pickA_ok {c a b a':A}{p:Prop}(h:pickA c a b=some (p,a')) (hp:p) {x:X}{vc va vb:Value}(hc:D x c vc) (ha:D x a va) (hb:D x b vb) (w:World) :
  ∃u,(do pure (Next.value (if <- asBool vc then va else vb)):Sem Next).run P w=.ok (.value u) w∧D x a' u:=by
 unfold pickA at h
 split at h<;>try (simp at h;done)
 ·rename_i pc t pa u pb v e1 e2 e3
  simp only[Option.some.injEq,Prod.mk.injEq]at h
  obtain⟨rfl,rfl⟩:=h
  obtain⟨h1,h2,h3⟩:=hp
  have k1:=st_ok hc (by rw[e1];exact h1)
  rw[e1]at k1
  simp only[D,RdL]at k1
  subst k1
  cases t
  ·have k2:=st_ok hb (by rw[e3];exact h3 rfl)
   rw[e3]at k2
   simp only[D,RdL]at k2
   subst k2
   exact⟨_,by simp[asBool];rfl,by simp[D,RdL]⟩
  ·have k2:=st_ok ha (by rw[e2];exact h2 rfl)
   rw[e2]at k2
   simp only[D,RdL]at k2
   subst k2
   exact⟨_,by simp[asBool];rfl,by simp[D,RdL]⟩
 ·rename_i pc t pa u e1 e2 _
  simp only[Option.some.injEq,Prod.mk.injEq]at h
  obtain⟨rfl,rfl⟩:=h
  obtain⟨h1,rfl,h3⟩:=hp
  have k1:=st_ok hc (by rw[e1];exact h1)
  rw[e1]at k1
  simp only[D,RdL]at k1
  subst k1
  have k2:=st_ok ha (by rw[e2];exact h3)
  rw[e2]at k2
  simp only[D,RdL]at k2
  subst k2
  exact⟨_,by simp[asBool];rfl,by simp[D,RdL]⟩
 ·rename_i pc t pb v e1 e3 _
  simp only[Option.some.injEq,Prod.mk.injEq]at h
  obtain⟨rfl,rfl⟩:=h
  obtain⟨h1,rfl,h3⟩:=hp
  have k1:=st_ok hc (by rw[e1];exact h1)
  rw[e1]at k1
  simp only[D,RdL]at k1
  subst k1
  have k2:=st_ok hb (by rw[e3];exact h3)
  rw[e3]at k2
  simp only[D,RdL]at k2
  subst k2
  exact⟨_,by simp[asBool];rfl,by simp[D,RdL]⟩
def unA (op:UnOp):A->Option (Prop×A)
 | .dat (.bool b)=>match op with
  | .not=>some (True,.dat (.bool (!b)))
  | _=>none
 | .dat (.int k n)=>match op with
  | .neg=>some (inR k (-n),.dat (.int k (-n)))
  | _=>none
 | _=>none
theorem unA_ok {op:UnOp}{a a':A}{p:Prop}(h:unA op a=some (p,a')) (hp:p) {x:X}{v:Value}(hv:D x a v) :
  ∃u,(Op.unary op v).run P x.w=.ok u x.w∧D x a' u:=by
 unfold unA at h
 split at h<;>try (simp at h;done)
 all_goals
  split at h<;>try (simp at h;done)
  simp only[Option.some.injEq,Prod.mk.injEq]at h
  obtain⟨rfl,rfl⟩:=h
  simp only[D,RdL]at hv
  subst hv
 ·exact⟨_,rfl,by simp[D,RdL]⟩
 ·rename_i k n _
  refine⟨.int k (-n),?_,by simp only[D,RdL]⟩
  simp only[Op.unary,Op.intArith,Int.zero_sub,Sem.run_pure]
  rw[hp]
def partA (P:Program) (t:TypeId) (off:Nat):A->Option (Prop×A)
 | .record ls=>match tk P t with
  | 2=>some (off+szT P t<=ls.length,.record ((ls.drop off).take (szT P t)))
  | 1=>match ls[off]? with
   | some l=>some (True,.dat l)
   | none=>none
  | _=>none
 | .agg az=>match tk P t with
  | 2=>some (off+szT P t<=az.length,packA ((az.drop off).take (szT P t)))
  | 1=>match az[off]? with
   | some a=>some (True,a)
   | none=>none
  | _=>none
 | _=>none
theorem partA_ok {t off:Nat}{a a':A}{p:Prop}(h:partA P t off a=some (p,a')) (hp:p) {x:X}{v:Value}(hv:D x a v) :
  ∃cs u,v=.agg cs∧(part t cs off).run P x.w=.ok u x.w∧D x a' u:=by
 unfold partA at h
 split at h<;>try (simp at h;done)
 all_goals
  simp only[D]at hv
  obtain⟨vs,rfl,hr⟩:=hv
  refine⟨vs,?_⟩
  split at h
 ·rename_i ht
  simp only[Option.some.injEq,Prod.mk.injEq]at h
  obtain⟨rfl,rfl⟩:=h
  refine⟨.agg (vs.extract off (off+szT P t)),rfl,?_,?_⟩
  ·simp[part,run_isAgg2 ht,run_sizeOf' (show tk P t≠0 by omega)]
  ·simp only[D];exact⟨_,rfl,by simpa [Array.toList_extract,List.extract_eq_drop_take']using (hr.drop off).take (szT P t)⟩
 ·rename_i ht
  split at h<;>try (simp at h;done)
  rename_i l hl
  simp only[Option.some.injEq,Prod.mk.injEq]at h
  obtain⟨_,rfl⟩:=h
  obtain⟨u,h1,h2⟩:=hr.at off hl
  refine⟨u,rfl,?_,by simpa [D]using h2⟩
  simp only[Array.getElem?_toList]at h1
  simp[part,run_isAgg1 ht,h1]
 ·simp at h
 ·rename_i ht
  simp only[Option.some.injEq,Prod.mk.injEq]at h
  obtain⟨rfl,rfl⟩:=h
  refine⟨.agg (vs.extract off (off+szT P t)),rfl,?_,?_⟩
  ·simp[part,run_isAgg2 ht,run_sizeOf' (show tk P t≠0 by omega)]
  ·exact packA_ok (by simpa [Array.toList_extract,List.extract_eq_drop_take']using (hr.drop off).take (szT P t))
 ·rename_i ht
  split at h<;>try (simp at h;done)
  rename_i l hl
  simp only[Option.some.injEq,Prod.mk.injEq]at h
  obtain⟨_,rfl⟩:=h
  obtain⟨u,h1,h2⟩:=hr.at hl
  refine⟨u,rfl,?_,h2⟩
  simp only[Array.getElem?_toList]at h1
  simp[part,run_isAgg1 ht,h1]
 ·simp at h
def fldA (P:Program) (t:TypeId) (k:Nat) (a:A):Option (Prop×A):=
 match foff P t k with
 | some (o,ft)=>partA P ft o a
 | none=>none
theorem fldA_ok {t k:Nat}{a a':A}{p:Prop}(h:fldA P t k a=some (p,a')) (hp:p) {x:X}{v:Value}(hv:D x a v) :
  ∃u,(Instr.field t v k).run P x.w=.ok u x.w∧D x a' u:=by
 unfold fldA at h
 split at h<;>try (simp at h;done)
 rename_i o ft hf
 obtain⟨fs,f,hu,hfk,rfl,rfl⟩:=foff_und hf
 obtain⟨cs,u,rfl,h1,h2⟩:=partA_ok h hp hv
 exact⟨u,by simp[Instr.field,run_underlying hu,hfk,asAgg,h1],h2⟩
def idxA (P:Program) (t:TypeId):A->A->Option (Prop×A)
 | .dat (.str s),.dat (.int _ n)=>some (isStr P t=true∧0<=n∧n<s.length,.dat (.int .u8 (((s[n.toNat]?).getD 0).toNat:Int)))
 | a,.dat (.int _ n)=>match arT P t with
  | some (len,e)=>match partA P e (n.toNat*szT P e) a with
   | some (p,a')=>some (tk P e≠0∧0<=n∧n<len∧p,a')
   | none=>none
  | none=>none
 | _,_=>none
theorem idxA_ok {t:Nat}{a i a':A}{p:Prop}(h:idxA P t a i=some (p,a')) (hp:p) {x:X}{v u:Value}(hv:D x a v) (hu:D x i u) :
  ∃r,(Instr.index t v u).run P x.w=.ok r x.w∧D x a' r:=by
 unfold idxA at h
 split at h<;>try (simp at h;done)
 ·rename_i s k n
  have hidx:∀m:Nat,m<s.length->(ByteArray.mk s.toArray)[m]?=s[m]?:=by
   intro m hm
   have hsz:m<(ByteArray.mk s.toArray).size:=by simpa [ByteArray.size]using hm
   have h1:=getElem?_pos (ByteArray.mk s.toArray) m hsz
   rw[h1,List.getElem?_eq_getElem hm]
   rfl
  simp only[Option.some.injEq,Prod.mk.injEq]at h
  obtain⟨rfl,rfl⟩:=h
  obtain⟨h1,h2,h3⟩:=hp
  simp only[D,RdL]at hv hu
  subst hv;subst hu
  have hn:n.toNat<s.length:=by omega
  refine⟨.int .u8 (((s[n.toNat]?).getD 0).toNat:Int),?_,by simp only[D,RdL]⟩
  have hg:=hidx n.toNat hn
  rw[List.getElem?_eq_getElem hn]at hg
  simp[Instr.index,asIntOf,run_underlying (isStr_und h1),h2,hg,hn]
 ·rename_i k n _
  split at h<;>try (simp at h;done)
  rename_i len e he
  split at h<;>try (simp at h;done)
  rename_i p' a'' hpa
  simp only[Option.some.injEq,Prod.mk.injEq]at h
  obtain⟨rfl,rfl⟩:=h
  obtain⟨h1,h2,h3,h4⟩:=hp
  simp only[D,RdL]at hu
  subst hu
  obtain⟨cs,r,rfl,k1,k2⟩:=partA_ok hpa h4 hv
  refine⟨r,?_,k2⟩
  simp[Instr.index,asIntOf,run_underlying (arT_und he),h2,h3,run_sizeOf' h1]
  exact k1
def extA (i:Nat):A->Option (Prop×A)
 | .tuple az=>match az[i]? with
  | some a=>some (True,a)
  | none=>none
 | _=>none
theorem extA_ok {i:Nat}{a a':A}{p:Prop}(h:extA i a=some (p,a')) {x:X}{v:Value}(hv:D x a v) :
  ∃u,(Instr.extract v i).run P x.w=.ok u x.w∧D x a' u:=by
 unfold extA at h
 split at h<;>try (simp at h;done)
 split at h<;>try (simp at h;done)
 rename_i a hl
 simp only[Option.some.injEq,Prod.mk.injEq]at h
 obtain⟨_,rfl⟩:=h
 simp only[D]at hv
 obtain⟨vs,rfl,hr⟩:=hv
 obtain⟨u,h1,h2⟩:=hr.at hl
 simp only[Array.getElem?_toList]at h1
 exact⟨u,by simp[Instr.extract,h1],h2⟩
def nilA:A->Option (Prop×A)
 | .fn f a b=>some (True,.fn f a b)
 | .ptr t b o=>some (True,.ptr t b o)
 | .rptr ls=>some (True,.rptr ls)
 | .eptr a b c d e=>some (True,.eptr a b c d e)
 | .yld l=>some (True,.yld l)
 | _=>none
def maxA (a b:A):Option (Prop×A):=
 match a,b with
 | .dat (.int k x),.dat (.int k' y)=>some (k=k',.dat (.int k (if y>x then y else x)))
 | _,_=>none
def minA (a b:A):Option (Prop×A):=
 match a,b with
 | .dat (.int k x),.dat (.int k' y)=>some (k=k',.dat (.int k (if y<x then y else x)))
 | _,_=>none
def encU (n:Int):List UInt8:=(Utf8.encode n).data.toList
def convA (P:Program) (src dst:TypeId):A->Option (Prop×A)
 | .dat (.int _ n)=>match intT P dst with
  | some k=>some ((P.underlying src).isSome=true∧inR k n,.dat (.int k n))
  | none=>if isStr P dst then some ((intT P src).isSome=true,.dat (.str (encU n))) else none
 | .dat (.str s)=>if isStr P src&&isStr P dst then some (True,.dat (.str s)) else none
 | _=>none
theorem convA_ok {s d:Nat}{a a':A}{p:Prop}(h:convA P s d a=some (p,a')) (hp:p) {x:X}{v:Value}(hv:D x a v) :
  ∃u,(convert s d v).run P x.w=.ok u x.w∧D x a' u:=by
 unfold convA at h
 split at h<;>try (simp at h;done)
 ·rename_i k n
  simp only[D,RdL]at hv
  subst hv
  split at h
  ·rename_i k' hk
   simp only[Option.some.injEq,Prod.mk.injEq]at h
   obtain⟨rfl,rfl⟩:=h
   obtain⟨h1,h2⟩:=hp
   obtain⟨ud,hud⟩:=Option.isSome_iff_exists.1 h1
   refine⟨.int k' n,?_,by simp only[D,RdL]⟩
   have:(Conv.intToInt k' n).run P x.w=.ok (.int k' n) x.w:=by simp only[Conv.intToInt,Sem.run_pure];rw[h2]
   simp only[convert,Sem.run_bind,run_underlying hud,run_underlying (intT_und hk),Result.andThen_ok]
   exact this
  ·split at h<;>try (simp at h;done)
   rename_i hs
   simp only[Option.some.injEq,Prod.mk.injEq]at h
   obtain⟨rfl,rfl⟩:=h
   obtain⟨k',hk⟩:=Option.isSome_iff_exists.1 hp
   refine⟨.string (Utf8.encode n),?_,by simp[D,RdL,encU]⟩
   simp only[convert,Sem.run_bind,run_underlying (intT_und hk),run_underlying (isStr_und hs),Result.andThen_ok]
   rfl
 ·rename_i str
  split at h<;>try (simp at h;done)
  rename_i hs
  simp only[Bool.and_eq_true]at hs
  simp only[Option.some.injEq,Prod.mk.injEq]at h
  obtain⟨_,rfl⟩:=h
  simp only[D,RdL]at hv
  subst hv
  refine⟨.string ⟨str.toArray⟩,?_,by simp[D,RdL]⟩
  simp only[convert,Sem.run_bind,run_underlying (isStr_und hs.1),run_underlying (isStr_und hs.2),Result.andThen_ok]
  rfl
def boundA (d:Nat):Option A->Option (Prop×Nat)
 | none=>some (True,d)
 | some (.dat (.int _ n))=>some (0<=n,n.toNat)
 | some _=>none
def sliceA (P:Program) (t:TypeId) (lo hi:Option A):A->Option (Prop×A)
 | .dat (.str s)=>match boundA 0 lo,boundA s.length hi with
  | some (p,l),some (q,h)=>some (isStr P t=true∧p∧q∧l<=h∧h<=s.length,.dat (.str ((s.take h).drop l)))
  | _,_=>none
 | .dat (.sl xs)=>match boundA 0 lo,boundA xs.length hi with
  | some (p,l),some (q,h)=>match slT P t with
   | some e=>some (tk P e≠0∧rl xs (szT P e)∧p∧q∧l<=h∧h<=xs.length,.dat (.sl ((xs.take h).drop l)))
   | none=>none
  | _,_=>none
 | .nils=>match boundA 0 lo,boundA 0 hi with
  | some (p,l),some (q,h)=>match slT P t with
   | some e=>some (tk P e≠0∧p∧q∧l=0∧h=0,.nils)
   | none=>none
  | _,_=>none
 | _=>none
def OptOK (x:X):Option A->Option Value->Prop
 | none,none=>True
 | some a,some v=>D x a v
 | _,_=>False
theorem boundA_ok {d:Nat}{o:Option A}{p:Prop}{l:Nat}(h:boundA d o=some (p,l)) (hp:p) {x:X}{v:Option Value}(hv:OptOK x o v) :
  (v=none∧l=d)∨∃k,v=some (.int k l):=by
 unfold boundA at h
 split at h<;>try (simp at h;done)
 ·simp only[Option.some.injEq,Prod.mk.injEq]at h
  cases v with
  | none=>exact .inl ⟨rfl,h.2.symm⟩
  | some v=>simp[OptOK]at hv
 ·rename_i k n
  simp only[Option.some.injEq,Prod.mk.injEq]at h
  obtain⟨rfl,rfl⟩:=h
  cases v with
  | none=>simp[OptOK]at hv
  | some v=>
   simp only[OptOK,D,RdL]at hv
   subst hv
   exact .inr ⟨k,by rw[Int.toNat_of_nonneg hp]⟩
theorem run_sliceBounds {isS:Bool}{len cap l h:Nat}{lo hi:Option Value}(w:World) (hl:(lo=none∧l=0)∨∃k,lo=some (.int k l)) (hh:(hi=none∧h=len)∨∃k,hi=some (.int k h))
  (h1:l<=h) (h2:h<=cap):(Instr.sliceBounds isS len cap lo hi none).run P w=.ok (l,h,cap) w:=by
 rcases hh with⟨rfl,rfl⟩|⟨k,rfl⟩
 ·rcases hl with⟨rfl,rfl⟩|⟨k',rfl⟩
  ·simp[Instr.sliceBounds]
  ·have:(l:Int)<=h:=by omega
   simp[Instr.sliceBounds,Instr.sliceBound,asIntOf,h1]
 ·have hc:(h:Int)<=cap:=by omega
  rcases hl with⟨rfl,rfl⟩|⟨k',rfl⟩
  ·simp[Instr.sliceBounds,Instr.sliceBound,asIntOf,h2]
  ·have:(l:Int)<=h:=by omega
   simp[Instr.sliceBounds,Instr.sliceBound,asIntOf,h1,h2]
theorem sliceA_ok {t:Nat}{a a':A}{lo hi:Option A}{p:Prop}(h:sliceA P t lo hi a=some (p,a')) (hp:p) {x:X}{v:Value}{vl vh:Option Value}(hv:D x a v)
  (hl:OptOK x lo vl) (hh:OptOK x hi vh):∃u,(Instr.sliceAt t v vl vh none).run P x.w=.ok u x.w∧D x a' u:=by
 unfold sliceA at h
 split at h<;>try (simp at h;done)
 ·rename_i s
  split at h<;>try (simp at h;done)
  rename_i p1 l q h' e1 e2
  simp only[Option.some.injEq,Prod.mk.injEq]at h
  obtain⟨rfl,rfl⟩:=h
  obtain⟨h1,h2,h3,h4,h5⟩:=hp
  simp only[D,RdL]at hv
  subst hv
  have b1:=boundA_ok e1 h2 hl
  have b2:=boundA_ok e2 h3 hh
  refine⟨.string ((ByteArray.mk s.toArray).extract l h'),?_,?_⟩
  ·have hs:(ByteArray.mk s.toArray).size=s.length:=by simp[ByteArray.size]
   simp only[Instr.sliceAt,Instr.slice,Sem.run_bind,run_underlying (isStr_und h1),Result.andThen_ok,Option.isSome_none,Bool.false_eq_true,if_false]
   rw[hs]
   simp only[Sem.run_pure,Result.andThen_ok,Sem.run_bind,run_sliceBounds x.w b1 b2 h4 h5]
  ·simp only[D,RdL]
   congr 1
   apply ByteArray.ext
   have hll:l+(h'-l)=h':=by omega
   simp[ByteArray.data_extract,List.extract_eq_drop_take',List.take_drop,hll]
 ·rename_i xs
  split at h<;>try (simp at h;done)
  rename_i p1 l q h' e1 e2
  split at h<;>try (simp at h;done)
  rename_i e he
  simp only[Option.some.injEq,Prod.mk.injEq]at h
  obtain⟨rfl,rfl⟩:=h
  obtain⟨h0,h1,h2,h3,h4,h5⟩:=hp
  have b1:=boundA_ok e1 h2 hl
  have b2:=boundA_ok e2 h3 hh
  simp only[D,RdL]at hv
  rcases hv with⟨rfl,rfl⟩|⟨b,off,cap,rfl,hc,hr⟩|⟨a,rfl,rfl⟩
  rotate_right
  ·simp only[List.length_nil,Nat.le_zero]at h5
   subst h5
   simp only[Nat.le_zero]at h4
   subst h4
   refine⟨.slice (some a) 0 0,?_,by simp[D,RdL]⟩
   simp only[Instr.sliceAt,Instr.slice,Sem.run_bind,run_underlying (slT_und he),Result.andThen_ok]
   rw[run_sliceBounds x.w b1 (show (vh=none∧0=0)∨_ from b2) (Nat.le_refl 0) (Nat.le_refl 0)]
   simp[run_sizeOf' h0]
  ·simp only[List.length_nil,Nat.le_zero]at h5
   subst h5
   simp only[Nat.le_zero]at h4
   subst h4
   refine⟨.slice none 0 0,?_,by simp[D,RdL]⟩
   simp only[Instr.sliceAt,Instr.slice,Sem.run_bind,run_underlying (slT_und he),Result.andThen_ok]
   rw[run_sliceBounds x.w b1 (show (vh=none∧0=0)∨_ from b2) (Nat.le_refl 0) (Nat.le_refl 0)]
   simp[run_sizeOf' h0]
  ·refine⟨.slice (some (if cap=l then ⟨b,off,none⟩ else ⟨b,off+l*szT P e,none⟩)) (h'-l) (cap-l),?_,?_⟩
   ·simp only[Instr.sliceAt,Instr.slice,Sem.run_bind,run_underlying (slT_und he),Result.andThen_ok]
    rw[run_sliceBounds x.w b1 b2 h4 (Nat.le_trans h5 hc)]
    simp only[Result.andThen_ok,run_sizeOf' h0,Sem.run_pure]
    split<;>simp[add_none]
   ·simp only[D,RdL]
    have hlen:((xs.take h').drop l).length=h'-l:=by simp;omega
    refine .inr (.inl ⟨b,(if cap=l then off else off+l*szT P e),cap-l,?_,by omega,?_⟩)
    ·rw[hlen];split<;>rfl
    ·split
     ·have:(xs.take h').drop l=[]:=by
       apply List.eq_nil_of_length_eq_zero;rw[hlen];omega
      rw[this];simp[RdRows]
     ·exact RdRows.drop l _ b off (fun r hr=>h1 r (List.mem_of_mem_take hr)) (hr.take h')
 ·split at h<;>try (simp at h;done)
  rename_i p1 l q h' e1 e2
  split at h<;>try (simp at h;done)
  rename_i e he
  simp only[Option.some.injEq,Prod.mk.injEq]at h
  obtain⟨rfl,rfl⟩:=h
  obtain⟨h0,h2,h3,rfl,rfl⟩:=hp
  have b1:=boundA_ok e1 h2 hl
  have b2:=boundA_ok e2 h3 hh
  simp only[D]at hv
  subst hv
  refine⟨.slice none 0 0,?_,by simp[D]⟩
  simp only[Instr.sliceAt,Instr.slice,Sem.run_bind,run_underlying (slT_und he),Result.andThen_ok]
  rw[run_sliceBounds x.w b1 b2 (Nat.le_refl 0) (Nat.le_refl 0)]
  simp[run_sizeOf' h0]
end
end Go.Proofs.YtafamcbdaeppoaaGreatDoor
