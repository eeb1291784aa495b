/- Texts joined by a program: Fwf,Fwg,Fwh. -/
import Derived.Test.YtafamcbdaeppoaaGreatDoorF1
set_option linter.unusedSimpArgs false
set_option linter.unusedVariables false
namespace Go.Proofs.YtafamcbdaeppoaaGreatDoor
section
variable {P:Program}
theorem fill_seq (sz:Nat):∀(vs:List Value) (k:Nat) (cv:Array Value),(∀v∈vs,v.cells.size=sz)->cv.size=(k+vs.length)*sz ->
  ∃ov,Instr.fill (fun i=>some (i*sz,sz)) cv ((vs.zipIdx k).map fun (v,i)=>(i,v))=some ov∧ov.toList=cv.toList.take (k*sz)++(vs.map (·.cells.toList)).flatten
 | [],k,cv,_,hs=>by
  refine⟨cv,rfl,?_⟩
  simp at hs
  simp only[<- hs,List.map_nil,List.flatten_nil,List.append_nil]
  rw[List.take_of_length_le (by simp)]
 | v::vs,k,cv,hv,hs=>by
  have h0:=hv v (by simp)
  have e1:(k+(v::vs).length)*sz=k*sz+sz+vs.length*sz:=by
   simp only[List.length_cons,Nat.add_mul,Nat.one_mul];omega
  rw[e1]at hs
  simp only[List.zipIdx_cons,List.map_cons,Instr.fill]
  rw[if_neg (by simp[h0];omega)]
  have hfold:=foldl_splice v.cells.toList 0 (k*sz) cv (by simp[h0];omega)
  have hsz:∀(l:List (Value×Nat)) (c:Array Value),(l.foldl (fun cs x=>match x with | (c,j)=>cs.setIfInBounds (k*sz+j) c) c).size=c.size:=by
   intro l
   induction l with
   | nil=>intro c;rfl
   | cons x l ih=>intro c;simp[ih]
  obtain⟨ov,h1,h2⟩:=fill_seq sz vs (k+1) (v.cells.zipIdx.foldl (fun cs x=>match x with | (c,j)=>cs.setIfInBounds (k*sz+j) c) cv) (fun u hu=>hv u (by simp[hu]))
   (by rw[<- Array.foldl_toList,hsz,hs];simp only[Nat.add_mul,Nat.one_mul])
  refine⟨ov,h1,?_⟩
  rw[h2,<- Array.foldl_toList]
  simp only[Array.toList_zipIdx]
  rw[hfold]
  have hl1:(cv.toList.take (k*sz)).length=k*sz:=by simp;omega
  have hl2:v.cells.toList.length=sz:=by simpa using h0
  simp only[splice,Nat.add_zero,List.map_cons,List.flatten_cons]
  rw[Nat.add_mul,Nat.one_mul,List.take_append,hl1,List.take_append,hl2]
  have t1:List.take (k*sz+sz) (List.take (k*sz) cv.toList)=List.take (k*sz) cv.toList:=List.take_of_length_le (by rw[hl1];omega)
  have t2:List.take sz v.cells.toList=v.cells.toList:=List.take_of_length_le (by rw[hl2];exact Nat.le_refl _)
  simp[hl2,t1,t2]
theorem RdCells.append {x:X}:∀(az bz:List L) (b off:Nat),RdCells x (az++bz) b off->RdCells x az b off∧RdCells x bz b (off+az.length)
 | [],_,_,_,h=>⟨by simp[RdCells],by simpa using h⟩
 | a::az,bz,b,off,h=>by
  simp only[List.cons_append,RdCells]at h
  obtain⟨h1,h2⟩:=RdCells.append az bz b (off+1) h.2
  refine⟨by simp only[RdCells];exact⟨h.1,h1⟩,?_⟩
  rw[List.length_cons,Nat.add_comm az.length 1,<- Nat.add_assoc];exact h2
theorem rdRows_of_cells {x:X}:∀(rows:List (List L)) (b off:Nat),RdCells x rows.flatten b off->RdRows x rows b off
 | [],_,_,_=>by simp[RdRows]
 | r::rs,b,off,h=>by
  simp only[List.flatten_cons]at h
  obtain⟨h1,h2⟩:=RdCells.append r rs.flatten b off h
  simp only[RdRows]
  exact⟨h1,rdRows_of_cells rs b _ h2⟩
def rowsA (sz:Nat):Nat->List (Nat×A)->Option (List (List L))
 | _,[]=>some []
 | k,(i,a)::r=>if i=k then (match asL a with
   | some ls=>if ls.length=sz then (rowsA sz (k+1) r).map (ls::·) else none
   | none=>none) else none
def bslA (P:Program) (t:TypeId) (len:Nat) (ps:List (Nat×A)):Option (Prop×A):=
 match slT P t with
 | some e=>if len=ps.length∧0<len then (match rowsA (szT P e) 0 ps with
   | some rows=>some (tk P e≠0∧len*szT P e<=16777216∧((P.info? e).bind (·.zero)).isSome=true,.dat (.sl rows))
   | none=>none) else none
 | none=>none
theorem rowsA_ok {x:X}{sz:Nat}:∀(ps:List (Nat×A)) (qs:List (Nat×Value)) (k:Nat) (rows:List (List L)),rowsA sz k ps=some rows->PartsOK x ps qs ->
  ∃vs:List Value,qs=(vs.zipIdx k).map (fun (v,i)=>(i,v))∧vs.length=ps.length∧rows.length=ps.length∧(∀v∈vs,v.cells.size=sz)∧RdLs x rows.flatten (vs.map (·.cells.toList)).flatten
 | [],[],k,rows,h,_=>by
  simp only[rowsA,Option.some.injEq]at h;subst h
  exact⟨[],by simp,by simp,by simp,by simp,by simp[RdLs]⟩
 | [],_::_,_,_,_,h=>by simp[PartsOK]at h
 | _::_,[],_,_,_,h=>by simp[PartsOK]at h
 | (i,a)::r,(j,v)::s,k,rows,h,hp=>by
  simp only[PartsOK]at hp
  obtain⟨rfl,hv,hr⟩:=hp
  simp only[rowsA]at h
  split at h<;>try (simp at h;done)
  rename_i hk
  subst hk
  split at h<;>try (simp at h;done)
  rename_i ls hl
  split at h<;>try (simp at h;done)
  rename_i hls
  simp only[Option.map_eq_some_iff]at h
  obtain⟨rows',h1,rfl⟩:=h
  obtain⟨vs,e,k1,k2,k3,k4⟩:=rowsA_ok r s (i+1) rows' h1 hr
  have hrd:=asL_ok hl hv
  refine⟨v::vs,by simp[e],by simp[k1],by simp[k2],?_,?_⟩
  ·intro u hu
   rcases List.mem_cons.1 hu with rfl | hu
   ·have:=hrd.length;simpa [hls]using this
   ·exact k3 u hu
  ·simp only[List.flatten_cons,List.map_cons]
   exact hrd.append k4
theorem bslA_ok' {t len:Nat}{ps:List (Nat×A)}{qs:Array (Nat×Value)}{a:A}{p:Prop}(h:bslA P t len ps=some (p,a)) (hp:p) {x:X}
  (hb:∀b,x.ok b->b<x.w.heap.size) (hq:PartsOK x ps qs.toList):∃u y,(Instr.buildSlice t len qs).run P x.w=.ok u y.w∧Grow x y∧D y a u∧∃ad,u=.slice ad len len:=by
 unfold bslA at h
 split at h<;>try (simp at h;done)
 rename_i e he
 split at h<;>try (simp at h;done)
 rename_i hlen
 split at h<;>try (simp at h;done)
 rename_i rows hrows
 simp only[Option.some.injEq,Prod.mk.injEq]at h
 obtain⟨rfl,rfl⟩:=h
 obtain⟨h1,h2,h3⟩:=hp
 obtain⟨vs,e1,e2,e3,e4,e5⟩:=rowsA_ok ps qs.toList 0 rows hrows hq
 obtain⟨z,hz⟩:=Option.isSome_iff_exists.1 h3
 obtain⟨i,hi⟩:=tk_info h1
 rw[hi]at hz
 simp only[Option.bind_some]at hz
 have hzv:∀w,(zeroValue e).run P w=.ok z w:=fun w=>by simp[zeroValue,run_typeInfo w hi,hz]
 let z0:Array Value:=if len*szT P e=0 then #[] else z.cells
 let cv:Array Value:=(Array.range (len*szT P e)).map (z0[· % z0.size]!)
 obtain⟨ov,k1,k2⟩:=fill_seq (szT P e) vs 0 cv e4 (by simp[cv,e2,hlen.1])
 simp only[Nat.zero_mul,List.take_zero,List.nil_append]at k2
 have hov:RdLs x rows.flatten ov.toList:=by rw[k2];exact e5
 obtain⟨g1,g2,g3⟩:=newVar_ok (P:=P) hb hov e
 refine⟨.slice (some ⟨x.w.heap.size,0,none⟩) len len,_,?_,g2,?_⟩
 ·rw[<- e1]at k1
  have hlim:¬len*szT P e>2 ^ 24:=by omega
  simp only[Instr.buildSlice,Sem.run_bind,run_underlying (slT_und he),Result.andThen_ok,run_sizeOf' h1,hlim,if_false,Sem.run_pure]
  have k1':Instr.fill (fun i=>some (i*szT P e,szT P e)) ((Array.range (len*szT P e)).map (z0[· % z0.size]!)) qs.toList=some ov:=k1
  by_cases hc:len*szT P e=0
  ·simp only[z0,hc,if_true]at k1'
   simp only[hc,if_true,Sem.run_bind,Sem.run_pure,Result.andThen_ok,k1',g1]
  ·simp only[z0,hc,if_false]at k1'
   simp only[hc,if_false,Sem.run_bind,Sem.run_pure,hzv,Result.andThen_ok,k1',g1]
 ·simp only[D,RdL]
  refine⟨.inr (.inl ⟨x.w.heap.size,0,len,by rw[e3,<- hlen.1],by rw[e3,<- hlen.1];exact Nat.le_refl _,rdRows_of_cells rows _ _ g3⟩),_,rfl⟩
theorem bslA_ok {t len:Nat}{ps:List (Nat×A)}{qs:Array (Nat×Value)}{a:A}{p:Prop}(h:bslA P t len ps=some (p,a)) (hp:p) {x:X}
  (hb:∀b,x.ok b->b<x.w.heap.size) (hq:PartsOK x ps qs.toList):∃u y,(Instr.buildSlice t len qs).run P x.w=.ok u y.w∧Grow x y∧D y a u:=by
 obtain⟨u,y,h1,h2,h3,_⟩:=bslA_ok' h hp hb hq
 exact⟨u,y,h1,h2,h3⟩
def an (p:Prop):Option (Prop×A)->Option (Prop×A)
 | some (q,a)=>some (p∧q,a)
 | none=>none
def an1 (a:A) (f:A->Option (Prop×A)):Option (Prop×A):=an (st a).1 (f (st a).2)
def an2 (a b:A) (f:A->A->Option (Prop×A)):Option (Prop×A):=an ((st a).1∧(st b).1) (f (st a).2 (st b).2)
theorem an_some {p q:Prop}{r:Option (Prop×A)}{a:A}(h:an p r=some (q,a)):∃q',r=some (q',a)∧q=(p∧q'):=by
 unfold an at h
 split at h
 ·rename_i q' a'
  simp only[Option.some.injEq,Prod.mk.injEq]at h
  obtain⟨rfl,rfl⟩:=h
  exact⟨q',rfl,rfl⟩
 ·simp at h
def evl (E:Env) (ps:List Operand):List A:=ps.map fun o=>(st (ev E o)).2
def evlp (E:Env) (ps:List Operand):Prop:=∀o∈ps,(st (ev E o)).1
theorem evl_ok {n:Nat}{ds:List Deferred}{x:X}{act:Act}{E:Env}(he:EnvOK n ds x act E):∀(ps:List Operand),evlp E ps->Ds x (evl E ps) (ps.map act.eval)
 | [],_=>by simp[Ds,evl]
 | o::r,hp=>by
  simp only[evl,List.map_cons,Ds]
  exact⟨st_ok (ev_ok he o) (hp o (by simp)),evl_ok he r fun p hp'=>hp p (by simp[hp'])⟩
def opt (E:Env) (o:Option Operand):Option A:=o.map fun o=>(st (ev E o)).2
def optp (E:Env):Option Operand->Prop
 | some o=>(st (ev E o)).1
 | none=>True
theorem opt_ok {n:Nat}{ds:List Deferred}{x:X}{act:Act}{E:Env}(he:EnvOK n ds x act E) (o:Option Operand) (hp:optp E o):OptOK x (opt E o) (o.map act.eval):=by
 cases o with
 | none=>simp[OptOK,opt]
 | some o=>simp only[opt,Option.map_some,OptOK];exact st_ok (ev_ok he o) hp
def builtinA (P:Program) (b:Builtin) (ts:Array TypeId) (az:List A):Option (Prop×A):=
 match b,az with
 | .len,[a]=>match ts[0]? with
  | some t=>lenA P t a
  | none=>none
 | .cap,[a]=>match a,ts[0]? with
  | .nils,some t=>some ((slT P t).isSome=true,.dat (.int .i64 0))
  | _,_=>none
 | .max,[a,b]=>maxA a b
 | .min,[a,b]=>minA a b
 | _,_=>none
def mvA:A->Prop×A
 | .nn xs=>(True,.nn xs)
 | a=>st a
theorem mvA_ok {x:X}{a:A}{v:Value}(h:D x a v) (hp:(mvA a).1):D x (mvA a).2 v:=by
 cases a<;>first | exact h | exact st_ok h hp
def nilcA (op:BinOp):A->A->Option (Prop×A)
 | .nn _,.nils=>match op with
  | .eql=>some (True,.dat (.bool false))
  | .neq=>some (True,.dat (.bool true))
  | _=>none
 | .nils,.nils=>match op with
  | .eql=>some (True,.dat (.bool true))
  | .neq=>some (True,.dat (.bool false))
  | _=>none
 | .dat (.sl xs),.nils=>match op with
  | .eql=>some (xs≠[],.dat (.bool false))
  | .neq=>some (xs≠[],.dat (.bool true))
  | _=>none
 | _,_=>none
theorem run_equal_slice {t e:TypeId}(hu:P.underlying t=some (.slice e)) (a:Option Addr) (n c:Nat) (w:World):(Op.equal t (.slice a n c) (.slice none 0 0)).run P w=.ok a.isNone w:=by
 show (Op.equalIn (9999+1) t (.slice a n c) (.slice none 0 0)).run P w=_
 rw[Op.equalIn,Sem.run_bind,run_underlying hu]
 cases a<;>rfl
theorem nilcA_ok {op:BinOp}{t e:TypeId}(ht:slT P t=some e) {a b c:A}{p:Prop}(h:nilcA op a b=some (p,c)) (hp:p) {x:X}{v u:Value}(hv:D x a v) (hu:D x b u) (ox oy:Operand) :
  ∃r,(do eqGuard op t ox oy v u;binOp op t v u:Sem Value).run P x.w=.ok r x.w∧D x c r:=by
 have key:∀ {a:Option Addr}{n c:Nat},(op=.eql->(do eqGuard op t ox oy (.slice a n c) (.slice none 0 0);binOp op t (.slice a n c) (.slice none 0 0):Sem Value).run P x.w=.ok (.bool a.isNone) x.w) ∧
   (op=.neq->(do eqGuard op t ox oy (.slice a n c) (.slice none 0 0);binOp op t (.slice a n c) (.slice none 0 0):Sem Value).run P x.w=.ok (.bool (!a.isNone)) x.w):=by
  intro a n c
  constructor
  ·rintro rfl;simp[eqGuard,binOp,run_equal_slice (slT_und ht)]
  ·rintro rfl;simp[eqGuard,binOp,run_equal_slice (slT_und ht)]
 have nn:∀ {xs:List (List L)},RdL x (.sl xs) v->v≠.slice none 0 0->∃ad n c,v=.slice (some ad) n c:=by
  intro xs h1 h2
  simp only[RdL]at h1
  rcases h1 with⟨h1,_⟩|⟨b,off,cap,h1,_⟩|⟨a,h1,_⟩
  ·exact absurd h1 h2
  ·exact⟨_,_,_,h1⟩
  ·exact⟨_,_,_,h1⟩
 unfold nilcA at h
 split at h<;>try (simp at h;done)
 ·simp only[D]at hv hu
  subst hu
  obtain⟨ad,n,cc,rfl⟩:=nn hv.1 hv.2
  split at h<;>try (simp at h;done)
  all_goals
   simp only[Option.some.injEq,Prod.mk.injEq]at h
   obtain⟨_,rfl⟩:=h
  ·exact⟨_,key.1 rfl,by simp[D,RdL]⟩
  ·exact⟨_,key.2 rfl,by simp[D,RdL]⟩
 ·simp only[D]at hv hu
  subst hu;subst hv
  split at h<;>try (simp at h;done)
  all_goals
   simp only[Option.some.injEq,Prod.mk.injEq]at h
   obtain⟨_,rfl⟩:=h
  ·exact⟨_,key.1 rfl,by simp[D,RdL]⟩
  ·exact⟨_,key.2 rfl,by simp[D,RdL]⟩
 ·rename_i xs
  simp only[D]at hv hu
  subst hu
  have hne:xs≠[]->v≠.slice none 0 0:=by
   intro hx e
   subst e
   simp only[RdL]at hv
   rcases hv with⟨_,h1⟩|⟨b,off,cap,h1,_⟩|⟨a,h1,_⟩
   ·exact hx h1
   ·cases h1
   ·cases h1
  split at h<;>try (simp at h;done)
  all_goals
   simp only[Option.some.injEq,Prod.mk.injEq]at h
   obtain⟨rfl,rfl⟩:=h
   obtain⟨ad,n,cc,rfl⟩:=nn hv (hne hp)
  ·exact⟨_,key.1 rfl,by simp[D,RdL]⟩
  ·exact⟨_,key.2 rfl,by simp[D,RdL]⟩
def cmpA (P:Program) (op:BinOp) (t:TypeId) (a b:A):Option (Prop×A):=match slT P t with
 | some _=>match a with
  | .cond q a'=>match nilcA op a' b with
   | some (p,c)=>some (q∧p,c)
   | none=>none
  | _=>nilcA op a b
 | none=>an2 a b (binA P op t)
def pureA (P:Program) (E:Env):Op->Option (Prop×A)
 | .move x=>some (mvA (ev E x))
 | .assign x=>some (mvA (ev E x))
 | .pick c a b=>pickA (ev E c) (ev E a) (ev E b)
 | .box _ x=>an1 (ev E x) boxA
 | .build t ps=>match buildA P t (evs E ps.toList) with
  | some a=>some (evp E ps.toList,a)
  | none=>none
 | .buildSlice t n ps=>an (evp E ps.toList) (bslA P t n (evs E ps.toList))
 | .load t x=>an1 (ev E x) (loadA P t)
 | .nilCheck x=>an1 (ev E x) nilA
 | .binOp op t x y _=>cmpA P op t (ev E x) (ev E y)
 | .unOp op _ x=>an1 (ev E x) (unA op)
 | .convert s d x=>an1 (ev E x) (convA P s d)
 | .makeFunc (.func f) first caps=>some (evlp E first.toList∧evlp E caps.toList,.fn f (evl E first.toList) (evl E caps.toList))
 | .slice t x lo hi none=>an (optp E lo∧optp E hi) (an1 (ev E x) (sliceA P t (opt E lo) (opt E hi)))
 | .fieldAddr t x k=>an1 (ev E x) (fieldA P t k)
 | .field t x k=>an1 (ev E x) (fldA P t k)
 | .indexAddr t x i=>an2 (ev E x) (ev E i) (indexA P t)
 | .index t x i=>an2 (ev E x) (ev E i) (idxA P t)
 | .extract x i=>an1 (ev E x) (extA i)
 | .call c=>match c.callee with
  | .builtin b=>an (evlp E c.args.toList) (builtinA P b c.argTypes (evl E c.args.toList))
  | _=>none
 | _=>none
def PureOK (P:Program) (o:Oper) (E:Env) (a:A):Prop:=
 ∀n ds x act,EnvOK n ds x act E->(∀b,x.ok b->b<x.w.heap.size) ->
  ∃u y,(execOp act.eval o).run P x.w=.ok (.value u) y.w∧Grow x y∧D y a u
theorem Ds.two {x:X}{a b:A}{vs:List Value}(h:Ds x [a,b] vs):∃v u,vs=[v,u]∧D x a v∧D x b u:=by
 match vs,h with
 | [v,u],h=>simp only[Ds]at h;exact⟨v,u,rfl,h.1,h.2.1⟩
 | [],h=>simp[Ds]at h
 | [_],h=>simp[Ds]at h
 | _::_::_::_,h=>simp[Ds]at h
theorem Ds.one {x:X}{a:A}{vs:List Value}(h:Ds x [a] vs):∃v,vs=[v]∧D x a v:=by
 match vs,h with
 | [v],h=>simp only[Ds]at h;exact⟨v,rfl,h.1⟩
 | [],h=>simp[Ds]at h
 | _::_::_,h=>simp[Ds]at h
theorem builtinA_ok {b:Builtin}{ts:Array TypeId}{az:List A}{a:A}{p:Prop}(h:builtinA P b ts az=some (p,a)) (hp:p) {x:X}{vs:Array Value}(hv:Ds x az vs.toList)
  (ty:TypeId) (cs:Array Bool):∃u,(builtin b ts ty cs vs).run P x.w=.ok (.value u) x.w∧D x a u:=by
 unfold builtinA at h
 split at h<;>try (simp at h;done)
 ·split at h<;>try (simp at h;done)
  rename_i t ht
  obtain⟨v,e,hd⟩:=hv.one
  obtain rfl:vs=#[v]:=by apply Array.ext';simpa using e
  obtain⟨u,h1,h2⟩:=lenA_ok (ty:=ty) h hp hd ht
  exact⟨u,by simp[builtin,h1],h2⟩
 ·split at h<;>try (simp at h;done)
  rename_i t ht
  simp only[Option.some.injEq,Prod.mk.injEq]at h
  obtain⟨rfl,rfl⟩:=h
  obtain⟨v,e,hd⟩:=hv.one
  obtain rfl:vs=#[v]:=by apply Array.ext';simpa using e
  simp only[D]at hd
  subst hd
  obtain⟨el,hel⟩:=Option.isSome_iff_exists.1 hp
  exact⟨.int .i64 0,by simp[builtin,Builtin.cap_,ht,run_underlying (slT_und hel),goInt],by simp[D,RdL]⟩
 ·obtain⟨v,u,e,hd1,hd2⟩:=hv.two
  obtain rfl:vs=#[v,u]:=by apply Array.ext';simpa using e
  unfold maxA at h
  split at h<;>try (simp at h;done)
  simp only[Option.some.injEq,Prod.mk.injEq]at h
  obtain⟨rfl,rfl⟩:=h
  subst hp
  simp only[D,RdL]at hd1 hd2
  subst hd1;subst hd2
  exact⟨_,by simp[builtin,Builtin.max_,Builtin.max2];rfl,by simp[D,RdL]⟩
 ·obtain⟨v,u,e,hd1,hd2⟩:=hv.two
  obtain rfl:vs=#[v,u]:=by apply Array.ext';simpa using e
  unfold minA at h
  split at h<;>try (simp at h;done)
  simp only[Option.some.injEq,Prod.mk.injEq]at h
  obtain⟨rfl,rfl⟩:=h
  subst hp
  simp only[D,RdL]at hd1 hd2
  subst hd1;subst hd2
  exact⟨_,by simp[builtin,Builtin.min_,Builtin.min2];rfl,by simp[D,RdL]⟩
theorem nilA_ok {a a':A}{p:Prop}(h:nilA a=some (p,a')) {x:X}{v:Value}(hv:D x a v) :
  D x a' v∧((∃ad,v=.pointer (some ad))∨(∃f fs cs,v=.func (.func f) fs cs)∨∃l,v=.func (.yield l) #[] #[]):=by
 unfold nilA at h
 split at h<;>try (simp at h;done)
 all_goals
  simp only[Option.some.injEq,Prod.mk.injEq]at h
  obtain⟨_,rfl⟩:=h
  refine⟨hv,?_⟩
  simp only[D]at hv
 ·obtain⟨fs,cs,rfl,_⟩:=hv;exact .inr (.inl ⟨_,_,_,rfl⟩)
 ·exact .inl ⟨_,hv⟩
 ·obtain⟨b,off,rfl,_⟩:=hv;exact .inl ⟨_,rfl⟩
 ·obtain⟨b,off,n,cap,_,rfl⟩:=hv;exact .inl ⟨_,rfl⟩
 ·exact .inr (.inr ⟨_,hv⟩)
theorem pureA_ok {o:Oper}{E:Env}{p:Prop}{a:A}(h:pureA P E o.op=some (p,a)) (hp:p):PureOK P o E a:=by
 intro n ds x act he hb
 obtain⟨dst,op,type,pos,after,guard⟩:=o
 have v1:∀ {s:Sem Value}{u:Value}{y:X},s.run P x.w=.ok u y.w->(do pure (Next.value (<- s)):Sem Next).run P x.w=.ok (.value u) y.w:=by
  intro s u y hs;simp[hs]
 have q1:∀(o:Operand) {a':A}{p:Prop}{f:A->Option (Prop×A)},an1 (ev E o) f=some (p,a')->p->∃q,f (st (ev E o)).2=some (q,a')∧q∧D x (st (ev E o)).2 (act.eval o):=by
  intro o a' p f h hp
  obtain⟨q,h1,rfl⟩:=an_some h
  exact⟨q,h1,hp.2,st_ok (ev_ok he o) hp.1⟩
 cases op<;>simp only[pureA]at h<;>try (simp at h;done)
 case move y=>
  simp only[Option.some.injEq]at h
  have hd:=mvA_ok (ev_ok he y) (by rw[h];exact hp)
  rw[h]at hd
  exact⟨_,x,rfl,.refl x,hd⟩
 case assign y=>
  simp only[Option.some.injEq]at h
  have hd:=mvA_ok (ev_ok he y) (by rw[h];exact hp)
  rw[h]at hd
  exact⟨_,x,rfl,.refl x,hd⟩
 case pick c b d=>
  obtain⟨u,h1,h2⟩:=pickA_ok (P:=P) h hp (ev_ok he c) (ev_ok he b) (ev_ok he d) x.w
  exact⟨u,x,h1,.refl x,h2⟩
 case box t y=>
  obtain⟨q,h1,_,h3⟩:=q1 y h hp
  obtain⟨u,z,k1,k2,k3⟩:=boxA_ok (P:=P) (t:=t) h1 hb h3
  exact⟨u,z,v1 k1,k2,k3⟩
 case build t ps=>
  split at h<;>try (simp at h;done)
  rename_i b hbld
  simp only[Option.some.injEq,Prod.mk.injEq]at h
  obtain⟨rfl,rfl⟩:=h
  obtain⟨u,k1,k2⟩:=buildA_ok (qs:=ps.map fun (i,x)=>(i,act.eval x)) hbld (x:=x) (by simpa using parts_ok he ps.toList hp)
  exact⟨u,x,v1 k1,.refl x,k2⟩
 case buildSlice t len ps=>
  obtain⟨q,h1,rfl⟩:=an_some h
  obtain⟨u,y,k1,k2,k3⟩:=bslA_ok (qs:=ps.map fun (i,x)=>(i,act.eval x)) h1 hp.2 hb (by simpa using parts_ok he ps.toList hp.1)
  exact⟨u,y,v1 k1,k2,k3⟩
 case load t y=>
  obtain⟨q,h1,h2,h3⟩:=q1 y h hp
  obtain⟨u,k1,k2⟩:=loadA_ok h1 h2 h3
  exact⟨u,x,v1 k1,.refl x,k2⟩
 case nilCheck y=>
  obtain⟨q,h1,h2,h3⟩:=q1 y h hp
  obtain⟨k1,k2⟩:=nilA_ok h1 h3
  refine⟨act.eval y,x,?_,.refl x,k1⟩
  rcases k2 with⟨ad,e⟩|⟨f,fs,cs,e⟩|⟨l,e⟩<;>simp[execOp,e]
 case binOp op t y z ty=>
  unfold cmpA at h
  split at h
  ·rename_i e hsl
   split at h
   ·rename_i q a' ha
    split at h<;>try (simp at h;done)
    rename_i p' c hn
    simp only[Option.some.injEq,Prod.mk.injEq]at h
    obtain⟨rfl,rfl⟩:=h
    have hy:=ev_ok he y
    rw[ha]at hy
    simp only[D]at hy
    obtain⟨u,k1,k2⟩:=nilcA_ok hsl hn hp.2 (hy.1 hp.1) (ev_ok he z) y z
    exact⟨u,x,v1 k1,.refl x,k2⟩
   ·obtain⟨u,k1,k2⟩:=nilcA_ok hsl h hp (ev_ok he y) (ev_ok he z) y z
    exact⟨u,x,v1 k1,.refl x,k2⟩
  ·obtain⟨q,h1,rfl⟩:=an_some h
   obtain⟨u,k1,k2⟩:=binA_ok h1 hp.2 (st_ok (ev_ok he y) hp.1.1) (st_ok (ev_ok he z) hp.1.2) y z
   exact⟨u,x,v1 k1,.refl x,k2⟩
 case unOp op t y=>
  obtain⟨q,h1,h2,h3⟩:=q1 y h hp
  obtain⟨u,k1,k2⟩:=unA_ok (P:=P) h1 h2 h3
  exact⟨u,x,v1 k1,.refl x,k2⟩
 case convert s d y=>
  obtain⟨q,h1,h2,h3⟩:=q1 y h hp
  obtain⟨u,k1,k2⟩:=convA_ok h1 h2 h3
  exact⟨u,x,v1 k1,.refl x,k2⟩
 case makeFunc fn first caps=>
  cases fn<;>simp only[reduceCtorEq,Option.some.injEq,Prod.mk.injEq]at h
  obtain⟨rfl,rfl⟩:=h
  rename_i f
  refine⟨.func (.func f) (first.map act.eval) (caps.map act.eval),x,by simp[execOp,Instr.makeFunc],.refl x,?_⟩
  simp only[D]
  exact⟨_,_,rfl,by simpa using evl_ok he first.toList hp.1,by simpa using evl_ok he caps.toList hp.2⟩
 case slice t y lo hi mx=>
  cases mx<;>simp only[reduceCtorEq]at h
  obtain⟨q,h1,rfl⟩:=an_some h
  obtain⟨q',h2,h3,h4⟩:=q1 y h1 hp.2
  obtain⟨u,k1,k2⟩:=sliceA_ok h2 h3 h4 (opt_ok he lo hp.1.1) (opt_ok he hi hp.1.2)
  exact⟨u,x,v1 k1,.refl x,k2⟩
 case fieldAddr t y k=>
  obtain⟨q,h1,h2,h3⟩:=q1 y h hp
  obtain⟨u,k1,k2⟩:=fieldA_ok h1 h2 h3
  exact⟨u,x,v1 k1,.refl x,k2⟩
 case field t y k=>
  obtain⟨q,h1,h2,h3⟩:=q1 y h hp
  obtain⟨u,k1,k2⟩:=fldA_ok h1 h2 h3
  exact⟨u,x,v1 k1,.refl x,k2⟩
 case indexAddr t y i=>
  obtain⟨q,h1,rfl⟩:=an_some h
  obtain⟨u,k1,k2⟩:=indexA_ok h1 hp.2 (st_ok (ev_ok he y) hp.1.1) (st_ok (ev_ok he i) hp.1.2)
  exact⟨u,x,v1 k1,.refl x,k2⟩
 case index t y i=>
  obtain⟨q,h1,rfl⟩:=an_some h
  obtain⟨u,k1,k2⟩:=idxA_ok h1 hp.2 (st_ok (ev_ok he y) hp.1.1) (st_ok (ev_ok he i) hp.1.2)
  exact⟨u,x,v1 k1,.refl x,k2⟩
 case extract y i=>
  obtain⟨q,h1,h2,h3⟩:=q1 y h hp
  obtain⟨u,k1,k2⟩:=extA_ok (P:=P) h1 h3
  exact⟨u,x,v1 k1,.refl x,k2⟩
 case call c=>
  split at h<;>try (simp at h;done)
  rename_i b hcb
  obtain⟨q,h1,rfl⟩:=an_some h
  obtain⟨u,k1,k2⟩:=builtinA_ok h1 hp.2 (vs:=c.args.map act.eval) (by simpa using evl_ok he c.args.toList hp.1) type (c.args.map fun | .const _=>true | _=>false)
  refine⟨u,x,?_,.refl x,k2⟩
  simp only[execOp,resolve,hcb,Sem.run_bind,Sem.run_pure,Result.andThen_ok,invoke]
  exact k1
end
section
variable {P:Program}
def Callable (P:Program) (g:FuncId):Prop:=∃fn,P.funcs[g]?=some fn∧fn.body.isSome=true∧(fn.name == "runtime.NumGoroutine")=false
def CallS (P:Program) (g:FuncId) (az:List A) (H:Heap) (K:A->Heap->Prop):Prop:=
 Callable P g∧∀x args H0,Inv x (H++H0)->Ds x az args.toList ->
  Calls P g args x.w fun e w'=>∃y v r H',e=.returned v∧y.w=w'∧x.le y∧Inv y (H'++H0)∧D y r v∧K r H'
def CallFn (P:Program) (g:FuncId) (az:List A) (r:A):Prop:=CallS P g az [] fun r' H'=>r'=r∧H'=[]
theorem CallS.mono {g:FuncId}{az:List A}{H:Heap}{K K':A->Heap->Prop}(h:CallS P g az H K) (hk:∀r H',K r H'->K' r H'):CallS P g az H K':=
 ⟨h.1,fun x args H0 hi hd=>(h.2 x args H0 hi hd).mono fun _ _ ⟨y,v,r,H',a,b,c,d,e,f⟩=>⟨y,v,r,H',a,b,c,d,e,hk _ _ f⟩⟩
theorem CallS.frame {g:FuncId}{az:List A}{H H1:Heap}{K:A->Heap->Prop}(h:CallS P g az H K):CallS P g az (H++H1) fun r H'=>∃H2,K r H2∧H'=H2++H1:=by
 refine⟨h.1,fun x args H0 hi hd=>?_⟩
 rw[List.append_assoc]at hi
 exact (h.2 x args (H1++H0) hi hd).mono fun _ _ ⟨y,v,r,H',a,b,c,d,e,f⟩=>⟨y,v,r,H'++H1,a,b,c,by rw[List.append_assoc];exact d,e,H',f,rfl⟩
theorem CallFn.s {g:FuncId}{az:List A}{r:A}(h:CallFn P g az r) {H:Heap}{K:A->Heap->Prop}(hk:K r H):CallS P g az H K:=
 (CallS.frame (H1:=H) h).mono fun _ _ ⟨_,⟨e1,e2⟩,e⟩=>by rw[e,e1,e2];exact hk
theorem Calls.run {g:FuncId}(h:Callable P g) (args:Array Value) (w:World):(callFunc g args).run P w=.ok (.enter g args) w:=by
 obtain⟨fn,h1,h2,h3⟩:=h
 have h4:fn.body.isNone=false:=by cases hb:fn.body<;>simp_all
 simp only[callFunc,Sem.run_bind,run_program,Result.andThen_ok,h1,h3,h4,Bool.false_eq_true,if_false,Sem.run_pure]
def callA (E:Env):Op->Option (Prop×FuncId×List A)
 | .call c=>match c.callee with
  | .value f=>match st (ev E f) with
   | (p,.fn g first caps)=>some (p∧evlp E c.args.toList,g,first++evl E c.args.toList++caps)
   | _=>none
  | _=>none
 | _=>none
theorem callA_ok {E:Env}{o:Oper}{p:Prop}{g:FuncId}{az:List A}(h:callA E o.op=some (p,g,az)) (hp:p) {n:Nat}{ds:List Deferred}{x:X}{act:Act}
  (he:EnvOK n ds x act E) (hg:Callable P g):∃args,(execOp act.eval o).run P x.w=.ok (.enter g args) x.w∧Ds x az args.toList:=by
 obtain⟨dst,op,type,pos,after,guard⟩:=o
 cases op<;>simp only[callA,reduceCtorEq]at h
 rename_i c
 split at h<;>try (simp at h;done)
 rename_i f hf
 split at h<;>try (simp at h;done)
 rename_i q g' first caps hst
 simp only[Option.some.injEq,Prod.mk.injEq]at h
 obtain⟨rfl,rfl,rfl⟩:=h
 have hd:=st_ok (ev_ok he f) (by rw[hst];exact hp.1)
 rw[hst]at hd
 simp only[D]at hd
 obtain⟨fs,cs,e,h1,h2⟩:=hd
 refine⟨(fs++c.args.map act.eval)++cs,?_,?_⟩
 ·simp only[execOp,resolve,hf,Sem.run_bind,Deferred.ofValue,e,Sem.run_pure,Result.andThen_ok,invoke]
  exact Calls.run hg _ _
 ·simp only[Array.toList_append,Array.toList_map]
  exact (h1.append (evl_ok he c.args.toList hp.2)).append h2
def CallY (P:Program) (l:Nat) (az:List A) (H:Heap) (K:A->Heap->Prop):Prop:=
 ∀(x:X) (args:Array Value) (H0:Heap),Inv x (H++H0)->Ds x az args.toList ->
  ∃f tmps asg body,(Instr.yield l args).run P x.w=.ok (.round l f tmps asg body) x.w ∧
   RoundIn (fw none) 0 P l f tmps asg body x.w fun e w'=>∃y v r H',e=.returned v∧y.w=w'∧x.le y∧Inv y (H'++H0)∧D y r v∧K r H'
theorem CallY.mono {l:Nat}{az:List A}{H:Heap}{K K':A->Heap->Prop}(h:CallY P l az H K) (hk:∀r H',K r H'->K' r H'):CallY P l az H K':=by
 intro x args H0 hi hd
 obtain⟨f,t,a,b,h1,h2⟩:=h x args H0 hi hd
 exact⟨f,t,a,b,h1,h2.mono fun _ _ ⟨y,v,r,H',a,b,c,d,e,f⟩=>⟨y,v,r,H',a,b,c,d,e,hk _ _ f⟩⟩
theorem CallY.frame {l:Nat}{az:List A}{H H1:Heap}{K:A->Heap->Prop}(h:CallY P l az H K):CallY P l az (H++H1) fun r H'=>∃H2,K r H2∧H'=H2++H1:=by
 intro x args H0 hi hd
 rw[List.append_assoc]at hi
 obtain⟨f,t,a,b,h1,h2⟩:=h x args (H1++H0) hi hd
 exact⟨f,t,a,b,h1,h2.mono fun _ _ ⟨y,v,r,H',a,b,c,d,e,f⟩=>⟨y,v,r,H'++H1,a,b,c,by rw[List.append_assoc];exact d,e,H',f,rfl⟩⟩
theorem CallS.perm {g:FuncId}{az:List A}{H H1:Heap}{K:A->Heap->Prop}(h:CallS P g az H K) (hp:H.Perm H1):CallS P g az H1 K:=
 ⟨h.1,fun x args H0 hi hd=>h.2 x args H0 (hi.perm (hp.append_right H0)) hd⟩
theorem CallS.frameL {g:FuncId}{az:List A}{H H1:Heap}{K:A->Heap->Prop}(h:CallS P g az H K):CallS P g az (H1++H) fun r H'=>∃H2,K r H2∧H'=H1++H2:=by
 refine⟨h.1,fun x args H0 hi hd=>?_⟩
 refine ((h.frame (H1:=H1)).2 x args H0 (hi.perm (List.perm_append_comm.append_right H0)) hd).mono ?_
 rintro _ _ ⟨y,v,r,H',a,b,c,d,e,H2,f,rfl⟩
 exact⟨y,v,r,H1++H2,a,b,c,d.perm (List.perm_append_comm.append_right H0),e,H2,f,rfl⟩
theorem CallY.frameL {l:Nat}{az:List A}{H H1:Heap}{K:A->Heap->Prop}(h:CallY P l az H K):CallY P l az (H1++H) fun r H'=>∃H2,K r H2∧H'=H1++H2:=by
 intro x args H0 hi hd
 obtain⟨f,t,a,b,h1,h2⟩:=(h.frame (H1:=H1)) x args H0 (hi.perm (List.perm_append_comm.append_right H0)) hd
 refine⟨f,t,a,b,h1,h2.mono ?_⟩
 rintro _ _ ⟨y,v,r,H',a,b,c,d,e,H2,f,rfl⟩
 exact⟨y,v,r,H1++H2,a,b,c,d.perm (List.perm_append_comm.append_right H0),e,H2,f,rfl⟩
def yldA (E:Env):Op->Option (Prop×Nat×List A)
 | .call c=>match c.callee with
  | .value f=>match st (ev E f) with
   | (p,.yld l)=>some (p∧evlp E c.args.toList,l,evl E c.args.toList)
   | _=>none
  | _=>none
 | _=>none
theorem yldA_ok {E:Env}{o:Oper}{p:Prop}{l:Nat}{az:List A}(h:yldA E o.op=some (p,l,az)) (hp:p) {n:Nat}{ds:List Deferred}{x:X}{act:Act}
  (he:EnvOK n ds x act E):∃args,(execOp act.eval o).run P x.w=(Instr.yield l args).run P x.w∧Ds x az args.toList:=by
 obtain⟨dst,op,type,pos,after,guard⟩:=o
 cases op<;>simp only[yldA,reduceCtorEq]at h
 rename_i c
 split at h<;>try (simp at h;done)
 rename_i f hf
 split at h<;>try (simp at h;done)
 rename_i q l' hst
 simp only[Option.some.injEq,Prod.mk.injEq]at h
 obtain⟨rfl,rfl,rfl⟩:=h
 have hd:=st_ok (ev_ok he f) (by rw[hst];exact hp.1)
 rw[hst]at hd
 simp only[D]at hd
 refine⟨#[]++c.args.map act.eval,?_,?_⟩
 ·simp only[execOp,resolve,hf,Sem.run_bind,Deferred.ofValue,hd,Sem.run_pure,Result.andThen_ok,invoke]
 ·simpa using evl_ok he c.args.toList hp.2
def hget (g:Nat):Heap->Option Ent
 | []=>none
 | (t,e)::r=>if t=g then some e else hget g r
def hset (g:Nat) (e:Ent):Heap->Heap
 | []=>[]
 | (t,e')::r=>if t=g then (t,e)::r else (t,e')::hset g e r
def hdel (g:Nat):Heap->Heap
 | []=>[]
 | (t,e')::r=>if t=g then r else (t,e')::hdel g r
def nx:Heap->Nat
 | []=>0
 | (t,_)::r=>if nx r<=t then t+1 else nx r
theorem hget_mem {g:Nat}{e:Ent}:∀ {H:Heap},hget g H=some e->(g,e)∈H
 | [],h=>by simp[hget]at h
 | (t,e')::r,h=>by
  simp only[hget]at h
  split at h
  ·rename_i ht;subst ht;simp at h;subst h;simp
  ·simp[hget_mem h]
theorem hdel_perm {g:Nat}{e:Ent}:∀ {H:Heap},hget g H=some e->H.Perm ((g,e)::hdel g H)
 | [],h=>by simp[hget]at h
 | (t,e')::r,h=>by
  simp only[hget]at h
  simp only[hdel]
  split at h
  ·rename_i ht;subst ht;simp at h;subst h;simp
  ·rename_i ht
   rw[if_neg ht]
   exact ((hdel_perm h).cons _).trans (List.Perm.swap _ _ _)
theorem hset_perm {g:Nat}{e e':Ent}:∀ {H:Heap},hget g H=some e->((g,e')::hdel g H).Perm (hset g e' H)
 | [],h=>by simp[hget]at h
 | (t,e1)::r,h=>by
  simp only[hget]at h
  simp only[hdel,hset]
  split at h
  ·rename_i ht;subst ht;simp
  ·rename_i ht
   rw[if_neg ht,if_neg ht]
   exact (List.Perm.swap _ _ _).trans ((hset_perm h).cons _)
theorem Inv.turn {x y:X}{H:Heap}{g g':Nat}{e e':Ent}(h:Inv x ((g,e)::H)) (le:x.le y) (hbd:∀b,y.ok b->b<y.w.heap.size)
  (hn:∀b,y.ok b->x.ok b∨x.w.heap.size<=b) (hs:e'.sat y)
  (hown:∀b,e'.own b->(e.own b∨(x.w.heap.size<=b∧¬y.ok b))∧b<y.w.heap.size)
  (hold:∀b,b<x.w.heap.size->¬e.own b->y.w.heap[b]?=x.w.heap[b]?):Inv y ((g',e')::H):=by
 have hap:=List.pairwise_cons.1 h.apart
 have hH:Inv y H:=(h.sub (List.sublist_cons_self _ _)).step le hbd hn fun p hp b ho=>
  hold b (h.own p (by simp[hp]) b ho).1 fun ho'=>hap.1 p hp b ho' ho
 refine⟨⟨hbd,h.bd.tab.mono le⟩,?_,?_,List.pairwise_cons.2 ⟨?_,hH.apart⟩⟩
 ·intro p hp
  rcases List.mem_cons.1 hp with rfl | hp
  ·exact hs
  ·exact hH.sat p hp
 ·intro p hp b ho
  rcases List.mem_cons.1 hp with rfl | hp
  ·refine⟨(hown b ho).2,?_⟩
   rcases (hown b ho).1 with h1 | h1
   ·have h2:=h.own (g,e) (by simp) b h1
    intro hk
    rcases hn b hk with h3 | h3
    ·exact h2.2 h3
    ·have:=h2.1;omega
   ·exact h1.2
  ·exact hH.own p hp b ho
 ·intro p hp b ho hp'
  rcases (hown b ho).1 with h1 | h1
  ·exact hap.1 p hp b h1 hp'
  ·have:=(h.own p (by simp[hp]) b hp').1
   omega
theorem Inv.fresh {x y:X}{H:Heap}{g:Nat}{e:Ent}(h:Inv x H) (le:x.le y) (hbd:∀b,y.ok b->b<y.w.heap.size)
  (hn:∀b,y.ok b->x.ok b∨x.w.heap.size<=b) (hs:e.sat y) (hown:∀b,e.own b->x.w.heap.size<=b∧¬y.ok b∧b<y.w.heap.size)
  (hold:∀b,b<x.w.heap.size->y.w.heap[b]?=x.w.heap[b]?):Inv y ((g,e)::H):=by
 have hH:Inv y H:=h.step le hbd hn fun p hp b ho=>hold b (h.own p hp b ho).1
 refine⟨⟨hbd,h.bd.tab.mono le⟩,?_,?_,List.pairwise_cons.2 ⟨?_,hH.apart⟩⟩
 ·intro p hp
  rcases List.mem_cons.1 hp with rfl | hp
  ·exact hs
  ·exact hH.sat p hp
 ·intro p hp b ho
  rcases List.mem_cons.1 hp with rfl | hp
  ·exact⟨(hown b ho).2.2,(hown b ho).2.1⟩
  ·exact hH.own p hp b ho
 ·intro p hp b ho hp'
  have:=(h.own p hp b hp').1
  have:=(hown b ho).1
  omega
def X.mk' (x:X) (o:Obj):X:=⟨x.w.alloc o,x.ok⟩
theorem X.mk'_le (x:X) (o:Obj) (hb:∀b,x.ok b->b<x.w.heap.size):x.le (x.mk' o):=
 ⟨fun b h=>⟨h,heap_alloc_old _ _ (hb b h)⟩,rfl,rfl,rfl,by simp[X.mk'],Nat.le_refl _⟩
theorem Inv.box {x:X}{H:Heap}(h:Inv x H) (g:Nat) {cs:List A}{c:Array Value}(ty:TypeId) (hd:Ds x cs c.toList) :
  Inv (x.mk' (.cells c ty)) ((g,.box x.w.heap.size cs)::H):=by
 have le:=X.mk'_le x (.cells c ty) h.bd
 refine h.fresh le (fun b hb=>Nat.lt_of_lt_of_le (h.bd b hb) le.size) (fun b hb=>.inl hb) ⟨c,ty,heap_alloc_new _ _,hd.mono le⟩ ?_ fun b hb=>heap_alloc_old _ _ hb
 intro b hb
 simp only[Ent.own]at hb
 subst hb
 exact⟨Nat.le_refl _,fun hk=>absurd (h.bd _ hk) (Nat.lt_irrefl _),by simp[X.mk']⟩
end
section
variable {P:Program}
def cellsA (P:Program) (t:TypeId) (off:Nat) (cs:List A):Option (Prop×A):=partA P t off (.agg cs)
theorem loadCells_ok {x:X}{b off:Nat}{cs:List A}{c:Array Value}{ty:TypeId}{fr:Nat×Nat}(hh:x.w.heap[b]?=some (.cells c ty fr)) {k:Nat}
  {l:List Value}(hd:Ds x cs l) (hlc:∀j v,l[j]?=some v->c[k+j]?=some v) {t:TypeId}{a:A}{p:Prop}(h:cellsA P t off cs=some (p,a)) (hp:p) :
  ∃u,(loadVar t ⟨b,k+off,none⟩).run P x.w=.ok u x.w∧D x a u:=by
 unfold cellsA partA at h
 simp only at h
 have hc:∀j v,l[j]?=some v->x.w.cell? ⟨b,k+j,none⟩=some v:=by
  intro j v hj
  simp[World.cell?,hh,hlc j v hj]
 split at h
 ·rename_i ht
  simp only[Option.some.injEq,Prod.mk.injEq]at h
  obtain⟨rfl,rfl⟩:=h
  have hd':=(hd.drop off).take (szT P t)
  have hl:((l.drop off).take (szT P t)).length=szT P t:=by
   rw[hd'.length];simp;omega
  refine⟨.agg ((l.drop off).take (szT P t)).toArray,?_,packA_ok (by simpa using hd')⟩
  refine run_loadVar2 ht hl fun j v hj=>?_
  have hjl:j<szT P t:=by
   rw[<- hl]
   rcases Nat.lt_or_ge j ((l.drop off).take (szT P t)).length with h | h
   ·exact h
   ·rw[List.getElem?_eq_none h]at hj;cases hj
  rw[List.getElem?_take,if_pos hjl,List.getElem?_drop]at hj
  have:=hc (off+j) v hj
  rw[Nat.add_assoc];exact this
 ·rename_i ht
  split at h<;>try (simp at h;done)
  rename_i l hl
  simp only[Option.some.injEq,Prod.mk.injEq]at h
  obtain⟨_,rfl⟩:=h
  obtain⟨u,h1,h2⟩:=hd.at hl
  exact⟨u,run_loadVar1 ht (hc off u h1),h2⟩
 ·simp at h
def one1:A->Bool
 | .any | .undef | .record _ | .agg _ | .tuple _ | .cond _ _ | .nn _ | .clip _=>false
 | _=>true
theorem one1_ok {x:X}{a:A}{v:Value}(h:one1 a=true) (hv:D x a v):v.oneCell'=true:=by
 cases a<;>simp only[one1,Bool.false_eq_true]at h<;>simp only[D]at hv
 ·rename_i l
  cases l<;>simp only[RdL]at hv
  ·subst hv;rfl
  ·subst hv;rfl
  ·subst hv;rfl
  ·rcases hv with⟨rfl,_⟩|⟨_,_,_,rfl,_⟩|⟨_,rfl,_⟩<;>rfl
 ·subst hv;rfl
 ·obtain⟨_,_,rfl,_⟩:=hv;rfl
 ·subst hv;rfl
 ·subst hv;rfl
 ·obtain⟨rfl,_,_,_,rfl⟩:=hv;rfl
 ·obtain⟨_,_,rfl,_⟩:=hv;rfl
 ·subst hv;rfl
 ·subst hv;rfl
 ·subst hv;rfl
 ·obtain⟨_,_,_,_,_,rfl⟩:=hv;rfl
 ·obtain⟨_,h2⟩:=hv
  simp only[RdL]at h2
  rcases h2 with⟨rfl,_⟩|⟨_,_,_,rfl,_⟩|⟨_,rfl,_⟩<;>rfl
theorem ones_ok {x:X}:∀ {az:List A}{vs:List Value},az.all one1=true->Ds x az vs->∀v∈vs,v.oneCell'=true
 | [],[],_,_=>by simp
 | a::az,v::vs,h,hd=>by
  simp only[List.all_cons,Bool.and_eq_true]at h
  simp only[Ds]at hd
  intro u hu
  rcases List.mem_cons.1 hu with rfl | hu
  ·exact one1_ok h.1 hd.1
  ·exact ones_ok h.2 hd.2 u hu
 | [],_::_,_,h=>by simp[Ds]at h
 | _::_,[],_,h=>by simp[Ds]at h
def X.row (x:X) (b:Nat) (c:Array Value):X:=⟨x.w.setRow b c,x.ok⟩
theorem X.row_le {x:X}{b:Nat}(c:Array Value) (hb:¬x.ok b):x.le (x.row b c):=
 ⟨fun k h=>⟨h,setRow_other _ _ _ _ (fun e=>hb (e▸h))⟩,rfl,rfl,rfl,by simp[X.row],Nat.le_refl _⟩
theorem run_storeVar' {t:TypeId}(ht:tk P t≠0) {w:World}{b off:Nat}{c:Array Value}{ty:TypeId}(hh:w.heap[b]?=some (.cells c ty (0,0))) {v:Value}
  (hl:v.cells.toList.length=szT P t) (hr:off+v.cells.toList.length<=c.size) (h1:∀u∈v.cells.toList,u.oneCell'=true) :
  (storeVar t ⟨b,off,none⟩ v).run P w=.ok () (w.setRow b (splice c.toList off v.cells.toList).toArray):=by
 have:=run_storeCells_at P b off ty v.cells.toList 0 c w hh (by simpa using hr) h1
 unfold storeVar
 simp only[Array.length_toList]at hl
 simp only[Sem.run_bind,run_sizeOf' ht,Result.andThen_ok,hl,ne_eq,not_true,if_false]
 rw[this]
 simp[splice]
theorem Ent.own_box {b k:Nat}{cs:List A}(h:(Ent.box b cs).own k):k=b:=h
theorem store_box {x:X}{H:Heap}{g b off:Nat}{cs us:List A}{t:TypeId}{v:Value}(hi:Inv x H) (hg:hget g H=some (.box b cs)) (ht:tk P t≠0)
  (hu:Ds x us v.cells.toList) (h1:us.all one1=true) (hl:us.length=szT P t) (hr:off+us.length<=cs.length) :
  ∃y:X,(storeVar t ⟨b,off,none⟩ v).run P x.w=.ok () y.w∧x.le y∧Inv y (hset g (.box b (splice cs off us)) H):=by
 have hi1:=hi.perm (hdel_perm hg).symm
 obtain⟨c,ty,hh,hd⟩:=hi1.sat (g,.box b cs) (by simp)
 have hb:=hi1.own (g,.box b cs) (by simp) b rfl
 have hcl:=hd.length
 simp only[Array.length_toList]at hcl
 have hul:=hu.length
 refine⟨x.row b (splice c.toList off v.cells.toList).toArray,?_,X.row_le _ hb.2,?_⟩
 ·exact run_storeVar' ht hh (by rw[hul];exact hl) (by rw[hul];omega) (ones_ok h1 hu)
 ·have hle:=X.row_le (x:=x) (b:=b) (splice c.toList off v.cells.toList).toArray hb.2
  refine (hi1.turn (g':=g) (e':=.box b (splice cs off us)) hle (fun k hk=>by simpa [X.row]using hi.bd k hk) (fun k hk=>.inl hk) ?_ ?_ ?_).perm (hset_perm hg).symm
  ·exact⟨_,ty,setRow_heap _ _ _ _ _ _ hh,by simpa using (hd.splice hu).mono hle⟩
  ·intro k hk
   obtain rfl:=Ent.own_box hk
   exact⟨.inl rfl,by simpa [X.row]using hb.1⟩
  ·intro k _ hk
   exact setRow_other _ _ _ _ hk
theorem rdCells_of_rows {x:X}:∀(rows:List (List L)) (b off:Nat),RdRows x rows b off->RdCells x rows.flatten b off
 | [],_,_,_=>by simp[RdCells]
 | r::rs,b,off,h=>by
  simp only[RdRows]at h
  have ih:=rdCells_of_rows rs b _ h.2
  simp only[List.flatten_cons]
  have app:∀(p q:List L) (b off:Nat),RdCells x p b off->RdCells x q b (off+p.length)->RdCells x (p++q) b off:=by
   intro p
   induction p with
   | nil=>intro q b off _ h;simpa using h
   | cons a p ih=>intro q b off h k;simp only[RdCells]at h;simp only[List.cons_append,RdCells];exact⟨h.1,ih q b (off+1) h.2 (by rw[Nat.add_assoc,Nat.add_comm 1];exact k)⟩
  exact app r _ b off h.1 ih
def elOK (P:Program) (e:TypeId):Prop:=
 ∃i z,P.info? e=some i∧i.zero=some z∧z.cells.size=i.size∧0<i.size∧i.bytes<=4096
def zrT (P:Program) (e:TypeId):List Value:=match P.info? e with
 | some i=>match i.zero with
  | some z=>z.cells.toList
  | none=>[]
 | none=>[]
theorem elOK_sz {e:TypeId}{i:TypeInfo}(h:P.info? e=some i):szT P e=i.size:=by simp[szT,Program.cellsOf,h]
theorem Inv.ofOwn {x:X}{y:X}{H:Heap}{g g':Nat}{h h':Value}{e sz:Nat}{rows rows':List (List A)}(hi:Inv x ((g,.seq h e sz rows)::H)) (hok:y.ok=x.ok)
  (hs:Ent.sat y (.seq h' e sz rows')) (hg:x.w.grownBy y.w h.ownBlock) (hdr:x.w.drawn<=y.w.drawn) (hb:∀k,h'.ownBlock=some k->(h.ownBlock=some k∨x.w.heap.size<=k)∧k<y.w.heap.size) :
  x.le y∧Inv y ((g',.seq h' e sz rows')::H):=by
 have hle:x.le y:=by
  refine⟨fun b hbk=>⟨by rw[hok];exact hbk,hg.block b (hi.bd b hbk) fun ee=>?_⟩,hg.os,hg.output,hg.tape,hg.size,hdr⟩
  exact (hi.own (g,.seq h e sz rows) (by simp) b ee.symm).2 hbk
 refine⟨hle,hi.turn hle (fun b hbk=>?_) (fun b hbk=>.inl (by rw[<- hok];exact hbk)) hs (fun b hob=>?_) fun b hbs hno=>hg.block b hbs fun ee=>hno ee.symm⟩
 ·rw[hok]at hbk;exact Nat.lt_of_lt_of_le (hi.bd b hbk) hg.size
 ·have:=hb b hob
  refine⟨?_,this.2⟩
  rcases this.1 with h1 | h1
  ·exact .inl h1
  ·exact .inr ⟨h1,fun hk=>by rw[hok]at hk;have:=hi.bd b hk;omega⟩
theorem seq_own {x:X}{h:Value}{e sz:Nat}{rows:List (List A)}(hs:Ent.sat x (.seq h e sz rows)):∀k,h.ownBlock=some k->k<x.w.heap.size:=by
 obtain⟨xs,ho,_⟩:=hs
 intro k hk
 exact (ho.lt k hk).2
theorem seq_hdr {x:X}{h:Value}{e sz:Nat}{rows:List (List A)}(hs:Ent.sat x (.seq h e sz rows)):∃a c,h=.slice a rows.length c:=by
 obtain⟨xs,⟨_,h2⟩,_⟩:=hs
 rcases h2 with⟨rfl,h0⟩|⟨g,cap,cur,rfl,_⟩
 ·exact⟨none,0,by rw[h0]⟩
 ·exact⟨_,_,rfl⟩
theorem append_own {x:X}{H:Heap}{g g':Nat}{h v:Value}{t e:TypeId}{rows ys:List (List A)}(ty:TypeId) (ht:slT P t=some e) (he:elOK P e)
  (hi:Inv x ((g,.seq h e (szT P e) rows)::H)) (hy:∀r∈ys,r.length=szT P e) (hy1:ys.flatten.all one1=true)
  (hv:((∃ad c,v=.slice ad 0 c)∧ys=[])∨∃b off cap news,v=.slice (some ⟨b,off,none⟩) ys.length cap∧Ds x ys.flatten news∧∀j u,news[j]?=some u->x.w.cell? ⟨b,off+j,none⟩=some u) (hb:rows.length+ys.length<=4294967296) :
  ∃u y,(Builtin.append_ #[t,t] ty #[h,v]).run P x.w=.ok u y.w∧x.le y∧(∃a n c,u=.slice a n c) ∧
   Inv y ((g',.seq u e (szT P e) (rows++ys))::H):=by
 obtain⟨i,z,hinf,hz,hzs,hsz,hby⟩:=he
 have hs:=hi.sat (g,.seq h e (szT P e) rows) (by simp)
 obtain⟨xs,ho,hrl,hd⟩:=hs
 have hsi:szT P e=i.size:=elOK_sz hinf
 have hrows:∀r∈rows++ys,r.length=szT P e:=by
  intro r hr
  rcases List.mem_append.1 hr with hr | hr
  ·exact hrl r hr
  ·exact hy r hr
 have hnilcase:ys=[]->(∃ad c,v=.slice ad 0 c)->∃u y,(Builtin.append_ #[t,t] ty #[h,v]).run P x.w=.ok u y.w∧x.le y∧(∃a n c,u=.slice a n c) ∧
   Inv y ((g',.seq u e (szT P e) (rows++ys))::H):=by
  rintro rfl ⟨ad,c,rfl⟩
  obtain⟨ah,ch,rfl⟩:=seq_hdr (x:=x) (h:=h) (e:=e) (sz:=szT P e) (rows:=rows) ⟨xs,ho,hrl,hd⟩
  have hroom:rows.length<=ch:=by
   rcases ho.2 with⟨e1,h0⟩|⟨g,cap,cur,e1,_,_,h5,_⟩
   ·rw[h0];exact Nat.zero_le _
   ·cases e1;exact h5
  refine⟨.slice ah rows.length ch,x,?_,.refl x,⟨_,_,_,rfl⟩,?_⟩
  ·have hfc:∀w,(Builtin.firstCells i.size 0 (.slice ad 0 c)).run P w=.ok #[] w:=by
    intro w;cases ad<;>simp[Builtin.firstCells,loadCells,loadCellsFrom]
   cases ah<;>simp[Builtin.append_,run_underlying (slT_und ht),sizeOf,run_typeInfo _ hinf,Builtin.lenOf,hroom,hfc,storeCells]
  ·simp only[List.append_nil]
   have:=hi
   refine⟨hi.bd,?_,?_,?_⟩
   ·intro p hp
    rcases List.mem_cons.1 hp with rfl | hp
    ·exact⟨xs,ho,hrl,hd⟩
    ·exact hi.sat p (by simp[hp])
   ·intro p hp b hob
    rcases List.mem_cons.1 hp with rfl | hp
    ·exact hi.own (g,.seq _ e (szT P e) rows) (by simp) b hob
    ·exact hi.own p (by simp[hp]) b hob
   ·have hap:=List.pairwise_cons.1 hi.apart
    exact List.pairwise_cons.2 ⟨fun p hp b hob=>hap.1 p hp b hob,hap.2⟩
 rcases hv with⟨hw,hy0⟩|⟨b,off,cap,news,rfl,hn1,hn2⟩
 ·exact hnilcase hy0 hw
 ·by_cases hy0:ys=[]
  ·exact hnilcase hy0 ⟨_,cap,by rw[hy0];rfl⟩
  ·have hflen:∀(l:List (List A)),(∀r∈l,r.length=szT P e)->l.flatten.length=l.length*szT P e:=by
    intro l
    induction l with
    | nil=>intro _;simp
    | cons r l ih=>intro hl;simp only[List.flatten_cons,List.length_append,List.length_cons,ih (fun r hr=>hl r (by simp[hr])),hl r (by simp),Nat.add_mul];omega
   have hnl:news.length=ys.length*szT P e:=by rw[hn1.length,hflen ys hy]
   have hones:∀u∈news,u.oneCell'=true:=by
    exact ones_ok (x:=x) (az:=ys.flatten) hy1 hn1
   have hmax:(4294967296:Nat)<=maxLen:=by simp[maxLen]
   obtain⟨u,w',k1,k2,k3,k4⟩:=run_append_own (P:=P) x.w 0 t ty e i z (szT P e) i.bytes (slT_und ht) hinf hz hsi.symm rfl (by rw[hzs,hsi]) (by omega) h rows.length xs ho
    ⟨b,off,none⟩ ys.length cap news hnl (fun j u hj=>by rw[add_none];exact hn2 j u hj) hones (by omega)
    (by have:=Nat.mul_le_mul (show rows.length+ys.length<=4294967296 by omega) hby;omega) (Nat.zero_le _)
   let y:X:=⟨w',x.ok⟩
   have hlen:(rows++ys).length=rows.length+ys.length:=by simp
   have hle0:x.le y:=by
    refine⟨fun b hbk=>⟨hbk,k3.block b (hi.bd b hbk) fun ee=>?_⟩,k3.os,k3.output,k3.tape,k3.size,Sem.run_drawn _ _ k1⟩
    exact (hi.own (g,.seq h e (szT P e) rows) (by simp) b ee.symm).2 hbk
   have hsat:Ent.sat y (.seq u e (szT P e) (rows++ys)):=by
    refine⟨xs++news,by rw[hlen];exact k2,hrows,?_⟩
    rw[List.flatten_append]
    exact (hd.mono hle0).append (hn1.mono hle0)
   obtain⟨hle,hinv⟩:=hi.ofOwn (y:=y) (g':=g') rfl hsat k3 (Sem.run_drawn _ _ k1) (fun k hk=>by
    refine⟨?_,seq_own hsat k hk⟩
    by_cases hc:h.ownBlock=some k
    ·exact .inl hc
    ·right
     have hn':news.length=ys.length*i.size:=by rw[hnl,hsi]
     have hnews:∀j u,news[j]?=some u->x.w.cell? ((⟨b,off,none⟩:Addr).add j)=some u:=fun j u hj=>by rw[add_none];exact hn2 j u hj
     have hpos:0<ys.length:=List.length_pos_iff.2 hy0
     have hbb:=Nat.mul_le_mul (show rows.length+ys.length<=4294967296 by omega) hby
     rcases ho.2 with⟨rfl,h0⟩|⟨g1,cap1,cur,rfl,_,hg1,hle1,hcm,hcs,htake⟩
     ·have hb2:=Nat.mul_le_mul (show ys.length<=4294967296 by omega) hby
      have hr2:=run_append_nil (P:=P) x.w t ty e i z (slT_und ht) hinf hz ⟨b,off,none⟩ ys.length cap news hn' hnews hpos (by omega) (by omega)
      rw[hr2]at k1
      simp only[Result.ok.injEq]at k1
      rw[<- k1.1]at hk
      simp only[Value.ownBlock,Option.some.injEq]at hk
      omega
     ·by_cases hroom:rows.length+ys.length<=cap1
      ·have hfit:rows.length*i.size+news.length<=cur.size:=by rw[hn',hcs,hsi,<- Nat.add_mul];exact Nat.mul_le_mul_right _ hroom
       have hr2:=run_append_room (P:=P) x.w t ty e i (slT_und ht) hinf g1 rows.length cap1 cur hg1 ⟨b,off,none⟩ ys.length cap news hn' hnews hones hroom hfit
       rw[hr2]at k1
       simp only[Result.ok.injEq]at k1
       rw[<- k1.1]at hk
       exact absurd hk hc
      ·have holds:∀j u,xs[j]?=some u->x.w.cell? ((⟨g1,0,none⟩:Addr).add j)=some u:=ho.cells (g:=g1) rfl
       have hr2:=run_append_grow (P:=P) x.w t ty e i z (slT_und ht) hinf hz ⟨g1,0,none⟩ rows.length cap1 xs (by rw[ho.1,hsi]) holds ⟨b,off,none⟩ ys.length cap news hn' hnews
        (by omega) (by omega) (growslice_fits (by omega) (by omega))
       rw[hr2]at k1
       simp only[Result.ok.injEq]at k1
       rw[<- k1.1]at hk
       simp only[Value.ownBlock,Option.some.injEq]at hk
       omega)
   obtain⟨ah,ch,e1⟩:=seq_hdr hsat
   exact⟨u,y,k1,hle,⟨_,_,_,e1⟩,hinv⟩
theorem cells_data {x:X}{ys:List (List L)}{v:Value}(hv:RdL x (.sl ys) v):((∃ad c,v=.slice ad 0 c)∧ys.map (·.map A.dat)=[]) ∨
  ∃b off cap news,v=.slice (some ⟨b,off,none⟩) (ys.map (·.map A.dat)).length cap∧Ds x (ys.map (·.map A.dat)).flatten news∧∀j u,news[j]?=some u->x.w.cell? ⟨b,off+j,none⟩=some u:=by
 simp only[RdL]at hv
 rcases hv with⟨rfl,rfl⟩|⟨b,off,cap,rfl,_,hr⟩|⟨a,rfl,rfl⟩
 rotate_right
 ·exact .inl ⟨⟨_,_,rfl⟩,rfl⟩
 ·exact .inl ⟨⟨_,_,rfl⟩,rfl⟩
 ·obtain⟨news,h1,h2⟩:=(rdCells_of_rows ys b off hr).vals
  refine .inr ⟨b,off,cap,news,by simp,?_,h2⟩
  have:(ys.map (·.map A.dat)).flatten=ys.flatten.map A.dat:=by rw[List.map_flatten]
  rw[this]
  exact Ds.of_ls h1
theorem ones_data (ys:List (List L)):(ys.map (·.map A.dat)).flatten.all one1=true:=by
 simp[one1]
theorem cells_own {x:X}{h:Value}{e sz:Nat}{rows:List (List A)}(hs:Ent.sat x (.seq h e sz rows)):(h=.slice none 0 0∧rows=[]) ∨
  ∃b off cap news,h=.slice (some ⟨b,off,none⟩) rows.length cap∧Ds x rows.flatten news∧∀j u,news[j]?=some u->x.w.cell? ⟨b,off+j,none⟩=some u:=by
 obtain⟨xs,ho,hrl,hd⟩:=hs
 rcases ho.2 with⟨rfl,h0⟩|⟨g,cap,cur,rfl,_⟩
 ·exact .inl ⟨rfl,List.length_eq_zero_iff.1 h0⟩
 ·refine .inr ⟨g,0,cap,xs,rfl,hd,fun j u hj=>?_⟩
  have:=ho.cells (g:=g) rfl j u hj
  rwa [add_none]at this
end
end Go.Proofs.YtafamcbdaeppoaaGreatDoor
