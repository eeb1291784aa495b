/- Texts joined by a program: Fwla,Fwm. -/
import Derived.Orders
import Derived.Test.YtafamcbdaeppoaaGreatDoorF5
set_option linter.unusedSimpArgs false
set_option linter.unusedVariables false
namespace Go.Proofs.YtafamcbdaeppoaaGreatDoor
section
variable {P:Program}
def unD:A->L
 | .dat l=>l
 | .nils=>.sl []
 | _=>.int .i64 0
def isD:A->Bool
 | .dat _=>true
 | .nils=>true
 | _=>false
def rowsD (rows:List (List A)):List (List L):=rows.map (·.map unD)
def allD (rows:List (List A)):Bool:=rows.all (·.all isD)
@[simp] theorem rowsD_nil:rowsD []=[]:=rfl
@[simp] theorem rowsD_cons (r:List A) (rs:List (List A)):rowsD (r::rs)=r.map unD::rowsD rs:=rfl
@[simp] theorem rowsD_app (r rs:List (List A)):rowsD (r++rs)=rowsD r++rowsD rs:=by simp[rowsD]
@[simp] theorem allD_nil:allD []=true:=rfl
@[simp] theorem allD_cons (r:List A) (rs:List (List A)):allD (r::rs)=(r.all isD&&allD rs):=rfl
@[simp] theorem allD_app (r rs:List (List A)):allD (r++rs)=(allD r&&allD rs):=by simp[allD]
@[simp] theorem unD_dat (l:L):unD (.dat l)=l:=rfl
@[simp] theorem unD_nils:unD .nils=.sl []:=rfl
@[simp] theorem isD_dat (l:L):isD (.dat l)=true:=rfl
@[simp] theorem isD_nils:isD .nils=true:=rfl
theorem unD_ok {x:X}{a:A}{v:Value}(h:isD a=true) (hv:D x a v):RdL x (unD a) v:=by
 cases a<;>simp only[isD,Bool.false_eq_true]at h
 ·simpa [unD,D]using hv
 ·simp only[D]at hv;subst hv;simp[unD,RdL]
theorem unDs_ok {x:X}:∀ {r:List A}{vs:List Value},r.all isD=true->Ds x r vs->RdLs x (r.map unD) vs
 | [],[],_,_=>by simp[RdLs]
 | a::r,v::vs,h,hd=>by
  simp only[List.all_cons,Bool.and_eq_true]at h
  simp only[Ds]at hd
  simp only[List.map_cons,RdLs]
  exact⟨unD_ok h.1 hd.1,unDs_ok h.2 hd.2⟩
 | [],_::_,_,h=>by simp[Ds]at h
 | _::_,[],_,h=>by simp[Ds]at h
theorem rdCells_vals {x:X}{b:Nat}(hok:x.ok b):∀(ls:List L) (vs:List Value) (off:Nat),RdLs x ls vs->(∀j v,vs[j]?=some v->x.w.cell? ⟨b,off+j,none⟩=some v)->RdCells x ls b off
 | [],_,_,_,_=>by simp[RdCells]
 | l::ls,[],_,h,_=>by simp[RdLs]at h
 | l::ls,v::vs,off,h,hc=>by
  simp only[RdLs]at h
  simp only[RdCells]
  refine⟨⟨hok,v,by simpa using hc 0 v (by simp),h.1⟩,rdCells_vals hok ls vs (off+1) h.2 fun j u hj=>?_⟩
  have:=hc (j+1) u (by simpa using hj)
  rwa [show off+1+j=off+(j+1) by omega]
theorem seq_data {x:X}{h:Value}{e sz:Nat}{rows:List (List A)}(hs:Ent.sat x (.seq h e sz rows)) (hok:∀b,h.ownBlock=some b->x.ok b) (hd:allD rows=true):RdL x (.sl (rowsD rows)) h:=by
 have hc:=cells_own hs
 simp only[RdL]
 rcases hc with⟨rfl,rfl⟩|⟨b,off,cap,news,rfl,h1,h2⟩
 ·exact .inl ⟨rfl,rfl⟩
 ·have hcap:rows.length<=cap:=by
   obtain⟨xs,ho,_⟩:=hs
   rcases ho.2 with⟨e1,_⟩|⟨g,cap',cur,e1,_,_,h5,_⟩
   ·cases e1
   ·cases e1;exact h5
  refine .inr (.inl ⟨b,off,cap,by simp[rowsD],by simpa [rowsD]using hcap,rdRows_of_cells _ _ _ ?_⟩)
  have hfl:(rowsD rows).flatten=rows.flatten.map unD:=by simp[rowsD,List.map_flatten]
  rw[hfl]
  refine rdCells_vals (hok b rfl) _ news off (unDs_ok ?_ h1) h2
  simp only[allD,List.all_eq_true]at hd
  rw[List.all_eq_true]
  intro a ha
  obtain⟨r,hr,ha⟩:=List.mem_flatten.1 ha
  exact hd r hr a ha
theorem Inv.freeze {x:X}{H H0:Heap}(hi:Inv x (H++H0)):∃y:X,y.w=x.w∧x.le y∧Inv y H0∧(∀b,(∃p∈H,p.2.own b)->y.ok b)∧∀b,y.ok b->x.ok b∨∃p∈H,p.2.own b:=by
 let y:X:=⟨x.w,fun b=>x.ok b∨∃p∈H,p.2.own b⟩
 have hle:x.le y:=⟨fun b hb=>⟨.inl hb,rfl⟩,rfl,rfl,rfl,Nat.le_refl _,Nat.le_refl _⟩
 refine⟨y,rfl,hle,⟨⟨?_,hi.bd.tab.mono hle⟩,?_,?_,?_⟩,fun b hb=>.inr hb,fun b hb=>hb⟩
 ·rintro b (hb | ⟨p,hp,ho⟩)
  ·exact hi.bd b hb
  ·exact (hi.own p (List.mem_append.2 (.inl hp)) b ho).1
 ·intro p hp
  exact Ent.sat_step hle (fun _ _=>rfl) (hi.sat p (List.mem_append.2 (.inr hp)))
 ·intro p hp b hb
  have h1:=hi.own p (List.mem_append.2 (.inr hp)) b hb
  refine⟨h1.1,?_⟩
  rintro (h2 | ⟨q,hq,ho⟩)
  ·exact h1.2 h2
  ·exact (List.pairwise_append.1 hi.apart).2.2 q hq p hp b ho hb
 ·exact (List.pairwise_append.1 hi.apart).2.1
def rowsW (sz:Nat):Nat->List (Nat×A)->Option (List (List A))
 | _,[]=>some []
 | k,(i,a)::r=>if i=k then (match flatA a with
   | some cs=>if cs.length=sz then (rowsW sz (k+1) r).map (cs::·) else none
   | none=>none) else none
def evsR (E:Env) (ps:List (Nat×Operand)):List (Nat×A):=ps.map fun (i,o)=>(i,(stR (ev E o)).2)
def evpR (E:Env) (ps:List (Nat×Operand)):Prop:=∀p∈ps,(stR (ev E p.2)).1
theorem partsR_ok {n:Nat}{ds:List Deferred}{x:X}{act:Act}{E:Env}(he:EnvOK n ds x act E):∀(ps:List (Nat×Operand)),evpR E ps->PartsOK x (evsR E ps) (ps.map fun (i,o)=>(i,act.eval o))
 | [],_=>by simp[evsR,PartsOK]
 | (i,o)::r,h=>by
  simp only[evsR,List.map_cons,PartsOK,true_and]
  exact⟨stR_ok (ev_ok he o) (h (i,o) (by simp)),partsR_ok he r fun p hp=>h p (by simp[hp])⟩
theorem rowsW_ok {x:X}{sz:Nat}:∀(ps:List (Nat×A)) (qs:List (Nat×Value)) (k:Nat) (rows:List (List A)),rowsW sz k ps=some rows->PartsOK x ps qs ->
  ∃vs:List Value,qs=(vs.zipIdx k).map (fun (v,i)=>(i,v))∧vs.length=ps.length∧rows.length=ps.length∧(∀v∈vs,v.cells.size=sz)∧(∀r∈rows,r.length=sz)∧Ds x rows.flatten (vs.map (·.cells.toList)).flatten
 | [],[],k,rows,h,_=>by
  simp only[rowsW,Option.some.injEq]at h
  subst h
  exact⟨[],by simp[Ds]⟩
 | [],_::_,_,_,_,hp=>by simp[PartsOK]at hp
 | _::_,[],_,_,_,hp=>by simp[PartsOK]at hp
 | (i,a)::r,(j,v)::s,k,rows,h,hp=>by
  simp only[PartsOK]at hp
  obtain⟨rfl,hv,hr⟩:=hp
  unfold rowsW at h
  split at h<;>try (simp at h;done)
  rename_i hik
  subst hik
  split at h<;>try (simp at h;done)
  rename_i cs hcs
  split at h<;>try (simp at h;done)
  rename_i hl
  simp only[Option.map_eq_some_iff]at h
  obtain⟨rows',h1,rfl⟩:=h
  obtain⟨vs,e1,e2,e3,e4,e6,e5⟩:=rowsW_ok r s (i+1) rows' h1 hr
  have hd:=flatA_ok hcs hv
  have hlc:=hd.length
  refine⟨v::vs,by simp[e1,List.zipIdx_cons],by simp[e2],by simp[e3],?_,?_,?_⟩
  ·intro u hu
   rcases List.mem_cons.1 hu with rfl | hu
   ·simpa [hl]using hlc
   ·exact e4 u hu
  ·intro q hq
   rcases List.mem_cons.1 hq with rfl | hq
   ·exact hl
   ·exact e6 q hq
  ·simp only[List.flatten_cons,List.map_cons]
   exact hd.append e5
def bldF (P:Program) (E:Env) (u:Value) (τ:Nat):Op->Option (Prop×A×Option (Nat×Ent))
 | .buildSlice t n ps=>match slT P t with
  | some e=>if n=ps.toList.length∧0<=n then (match rowsW (szT P e) 0 (evsR E ps.toList) with
   | some rows=>some (evpR E ps.toList∧tk P e≠0∧0<szT P e∧n*szT P e<=16777216∧((P.info? e).bind (·.zero)).isSome=true,.own τ u,some (τ,.seq u e (szT P e) rows))
   | none=>none) else none
  | none=>none
 | _=>none
theorem flatLenW {sz:Nat}:∀(rows:List (List A)),(∀r∈rows,r.length=sz)->rows.flatten.length=rows.length*sz
 | [],_=>by simp
 | r::rs,h=>by
  simp only[List.flatten_cons,List.length_append,List.length_cons,flatLenW rs (fun q hq=>h q (by simp[hq])),h r (by simp),Nat.add_mul]
  omega
theorem bldF_ok {o:Oper}{E:Env}{τ:Nat}(h:∀u,∃p a ch,bldF P E u τ o.op=some (p,a,ch)∧p) {n:Nat}{ds:List Deferred}{x:X}{act:Act}{H H0:Heap}
  (hi:Inv x (H++H0)) (he:EnvOK n ds x act E) :
  ∃u v y p a ch,bldF P E u τ o.op=some (p,a,ch)∧(execOp act.eval o).run P x.w=.ok (.value v) y.w∧x.le y∧Inv y (happ ch H++H0)∧D y a v:=by
 obtain⟨dst,op,type,pos,after,guard⟩:=o
 obtain⟨p0,a0,c0,hh,hp0⟩:=h .nilIface
 have hh':=hh
 cases op<;>simp only[bldF]at hh<;>try (simp at hh;done)
 rename_i t len ps
 split at hh<;>try (simp at hh;done)
 rename_i e he'
 split at hh<;>try (simp at hh;done)
 rename_i hlen
 split at hh<;>try (simp at hh;done)
 rename_i rows hrows
 simp only[Option.some.injEq,Prod.mk.injEq]at hh
 obtain⟨rfl,_,_⟩:=hh
 obtain⟨h0,h1,hpos,h2,h3⟩:=hp0
 have hq:PartsOK x (evsR E ps.toList) (ps.map fun (i,y)=>(i,act.eval y)).toList:=by simpa using partsR_ok he ps.toList h0
 obtain⟨vs,e1,e2,e3,e4,e6,e5⟩:=rowsW_ok _ _ 0 rows hrows hq
 have hpl:(evsR E ps.toList).length=ps.toList.length:=by simp[evsR]
 rw[hpl]at e2 e3
 obtain⟨z,hz⟩:=Option.isSome_iff_exists.1 h3
 obtain⟨i,hinf⟩:=tk_info h1
 rw[hinf]at hz
 simp only[Option.bind_some]at hz
 have hzv:∀w,(zeroValue e).run P w=.ok z w:=fun w=>by simp[zeroValue,run_typeInfo w hinf,hz]
 let z0:Array Value:=if len*szT P e=0 then #[] else z.cells
 let cv:Array Value:=(Array.range (len*szT P e)).map (z0[· % z0.size]!)
 obtain⟨ov,k1,k2⟩:=fill_seq (szT P e) vs 0 cv e4 (by simp[cv,e2,hlen.1])
 simp only[Nat.zero_mul,List.take_zero,List.nil_append]at k2
 have hov:Ds x rows.flatten ov.toList:=by rw[k2];exact e5
 have hle:=X.mk'_le x (.cells ov e) hi.bd
 have hlr:rows.length=len:=by rw[e3,hlen.1]
 have hsz:ov.size=len*szT P e:=by
  have hl2:=hov.length
  simp only[Array.length_toList]at hl2
  rw[hl2,flatLenW rows e6,hlr]
 refine⟨.slice (some ⟨x.w.heap.size,0,none⟩) len len,.slice (some ⟨x.w.heap.size,0,none⟩) len len,x.mk' (.cells ov e),_,_,_,by simp only[bldF,he',hrows,if_pos hlen];rfl,?_,hle,?_,by simp[D]⟩
 ·rw[<- e1]at k1
  have hlim:¬len*szT P e>2 ^ 24:=by omega
  have g1:(newRow e ov).run P x.w=.ok ⟨x.w.heap.size,0,none⟩ (x.mk' (.cells ov e)).w:=by simp[newRow,X.mk']
  have hrun:(Instr.buildSlice t len (ps.map fun (i,y)=>(i,act.eval y))).run P x.w=.ok (.slice (some ⟨x.w.heap.size,0,none⟩) len len) (x.mk' (.cells ov e)).w:=by
   simp only[Instr.buildSlice,Sem.run_bind,run_underlying (slT_und he'),Result.andThen_ok,run_sizeOf' h1,hlim,if_false,Sem.run_pure]
   have k1':Instr.fill (fun i=>some (i*szT P e,szT P e)) ((Array.range (len*szT P e)).map (z0[· % z0.size]!)) (ps.map fun (i,y)=>(i,act.eval y)).toList=some ov:=k1
   by_cases hc:len*szT P e=0
   ·simp only[z0,hc,if_true]at k1'
    simp only[hc,if_true,Sem.run_bind,Sem.run_pure,Result.andThen_ok,k1',g1]
   ·simp only[z0,hc,if_false]at k1'
    simp only[hc,if_false,Sem.run_bind,Sem.run_pure,hzv,Result.andThen_ok,k1',g1]
  show (do pure (Next.value (<- Instr.buildSlice t len (ps.map fun (i,y)=>(i,act.eval y)))):Sem Next).run P x.w=_
  simp[hrun]
 ·refine happ_new ?_
  refine hi.fresh hle (fun b hb=>Nat.lt_of_lt_of_le (hi.bd b hb) hle.size) (fun b hb=>.inl hb) ?_ ?_ fun b hb=>heap_alloc_old _ _ hb
  ·refine⟨ov.toList,⟨by simp[hsz,hlr],.inr ⟨x.w.heap.size,len,ov,by simp[hlr],Nat.zero_le _,heap_alloc_new _ _,by simp[hlr],?_,hsz,?_⟩⟩,e6,hov.mono hle⟩
   ·have:len<=16777216:=Nat.le_trans (Nat.le_mul_of_pos_right _ hpos) h2
    simp only[maxLen];omega
   ·rw[List.take_of_length_le]
    simp[hsz,hlr]
  ·intro b hb
   simp only[Ent.own,Value.ownBlock,Option.some.injEq]at hb
   subst hb
   refine⟨Nat.le_refl _,?_,by simp[X.mk']⟩
   intro hk
   exact absurd (hi.bd _ hk) (Nat.lt_irrefl _)
def asSl:A->Option (List (List L))
 | .dat (.sl xs)=>some xs
 | .nils=>some []
 | _=>none
theorem asSl_ok {x:X}{a:A}{xs:List (List L)}{v:Value}(h:asSl a=some xs) (hv:D x a v):RdL x (.sl xs) v:=by
 unfold asSl at h
 split at h<;>simp only[Option.some.injEq,reduceCtorEq]at h<;>subst h
 ·simpa [D]using hv
 ·simp only[D]at hv
  subst hv
  simp[RdL]
def clipF (P:Program) (E:Env):Op->Option (Prop×A)
 | .buildSlice t n ps=>match an (evp E ps.toList) (bslA P t n (evs E ps.toList)) with
  | some (p,.dat (.sl rows))=>some (p,.clip rows)
  | _=>none
 | .slice t x lo hi (some mx)=>match slT P t,asSl (st (ev E x)).2 with
  | some e,some xs=>match boundA 0 (opt E lo),opt E hi,(st (ev E mx)).2 with
   | some (q,l),some (.dat (.int _ h)),.dat (.int _ m)=>some ((st (ev E x)).1∧optp E lo∧optp E hi∧(st (ev E mx)).1∧q∧m=h∧0<=h∧l<=h.toNat∧h.toNat<=xs.length∧tk P e≠0∧rl xs (szT P e),.clip ((xs.take h.toNat).drop l))
   | _,_,_=>none
  | _,_=>none
 | .call c=>match c.callee,c.args.toList,c.argTypes.toList with
  | .builtin .append,[x,y],[t,t']=>match slT P t,ev E x,asSl (st (ev E y)).2 with
   | some e,.clip xs,some ys=>some ((st (ev E y)).1∧t'=t∧elOK P e∧rl xs (szT P e)∧rl ys (szT P e)∧xs.length+ys.length<=4294967296,.dat (.sl (xs++ys)))
   | _,_,_=>none
  | _,_,_=>none
 | .binOp op _ x y _=>match op,ev E x,ev E y with
  | .sub,.dat (.int k a),.dat (.int k' b)=>some (k=k',.dat (.int k (k.wrap (a-b))))
  | _,_,_=>none
 | _=>none
theorem rdRows_cells {x:X}{sz:Nat}{xs:List (List L)}{b off:Nat}(hl:∀r∈xs,r.length=sz) (h:RdRows x xs b off):∃vs,RdLs x xs.flatten vs∧vs.length=xs.length*sz∧∀j v,vs[j]?=some v->x.w.cell? ⟨b,off+j,none⟩=some v:=by
 obtain⟨vs,h1,h2⟩:=RdCells.vals _ b off (rdCells_of_rows xs b off h)
 refine⟨vs,h1,?_,h2⟩
 rw[h1.length]
 clear h h1 h2
 induction xs with
 | nil=>simp
 | cons r rs ih=>simp only[List.flatten_cons,List.length_append,List.length_cons,ih (fun q hq=>hl q (by simp[hq])),hl r (by simp),Nat.add_mul];omega
theorem append_clip {x:X}{xs ys:List (List L)}{v u:Value}{t e:TypeId}(ty:TypeId) (ht:slT P t=some e) (he:elOK P e) (hx:rl xs (szT P e)) (hy:rl ys (szT P e)) (hn:xs.length+ys.length<=4294967296)
  (hb:∀b,x.ok b->b<x.w.heap.size) (hv:RdL x (.sl xs) v) (hvc:∃a n,v=.slice a n n) (hu:RdL x (.sl ys) u):∃r y,(Builtin.append_ #[t,t] ty #[v,u]).run P x.w=.ok r y.w∧Grow x y∧RdL y (.sl (xs++ys)) r:=by
 obtain⟨i,z,hinf,hz,hzs,hsz,hby⟩:=he
 have hsi:szT P e=i.size:=elOK_sz hinf
 obtain⟨a,n,rfl⟩:=hvc
 have hna:n=xs.length:=by
  simp only[RdL]at hv
  rcases hv with⟨e1,rfl⟩|⟨b,off,cap,e1,_⟩|⟨a',e1,rfl⟩
  ·cases e1;rfl
  ·cases e1;rfl
  ·cases e1;rfl
 by_cases hy0:ys=[]
 ·subst hy0
  obtain⟨ad,c,rfl⟩:∃ad c,u=.slice ad 0 c:=by
   simp only[RdL]at hu
   rcases hu with⟨rfl,_⟩|⟨b,off,cap,rfl,_⟩|⟨a',rfl,_⟩
   ·exact⟨_,_,rfl⟩
   ·exact⟨_,_,rfl⟩
   ·exact⟨_,_,rfl⟩
  refine⟨.slice a n n,x,?_,.refl x,by simpa using hv⟩
  have hfc:∀w,(Builtin.firstCells i.size 0 (.slice ad 0 c)).run P w=.ok #[] w:=by
   intro w;cases ad<;>simp[Builtin.firstCells,loadCells,loadCellsFrom]
  cases a<;>simp[Builtin.append_,run_underlying (slT_und ht),sizeOf,run_typeInfo _ hinf,Builtin.lenOf,hfc,storeCells]
 ·obtain⟨b,off,cap,rfl,hcap,hr⟩:∃b off cap,u=.slice (some ⟨b,off,none⟩) ys.length cap∧ys.length<=cap∧RdRows x ys b off:=by
   simp only[RdL]at hu
   rcases hu with⟨_,h⟩|h | ⟨_,_,h⟩
   ·exact absurd h hy0
   ·exact h
   ·exact absurd h hy0
  obtain⟨news,n1,n2,n3⟩:=rdRows_cells hy hr
  have hpos:0<ys.length:=List.length_pos_iff.2 hy0
  have hbb:=Nat.mul_le_mul (show xs.length+ys.length<=4294967296 by omega) hby
  have hdrew:∀(os:List Value),RdLs x xs.flatten os->RdLs x (xs++ys).flatten (os++news):=fun os ho=>by
   rw[List.flatten_append]
   exact ho.append n1
  have fin:∀(os:List Value) (c:Nat) (cells:Array Value),RdLs x xs.flatten os->cells.toList.take (os++news).length=os++news->xs.length+ys.length<=c ->
    Grow x (x.drew.new (.cells cells e))∧RdL (x.drew.new (.cells cells e)) (.sl (xs++ys)) (.slice (some ⟨x.w.heap.size,0,none⟩) (xs.length+ys.length) c):=by
   intro os c cells ho hc hlc
   have hg:=(X.drew_grow x).trans (X.new_grow x.drew (.cells cells e) hb)
   refine⟨hg,?_⟩
   simp only[RdL]
   refine .inr (.inl ⟨x.w.heap.size,0,c,by simp,by simpa using hlc,rdRows_of_cells _ _ _ ?_⟩)
   refine rdCells_new (c:=cells) (ty:=e) (fr:=(0,0)) (show x.drew.ok _∨_ from .inr rfl) (heap_alloc_new x.w.drew _) _ (os++news) 0 ((hdrew os ho).mono hg.le) ?_
   intro j v hj
   have hjl:=(List.getElem?_eq_some_iff.1 hj).1
   rw[Nat.zero_add,<- Array.getElem?_toList,<- hj]
   conv=>rhs;rw[<- hc]
   rw[List.getElem?_take_of_lt hjl]
  have htk:∀(os:List Value) (rest:Array Value),((os.toArray++news.toArray++rest).toList).take (os++news).length=os++news:=by
   intro os rest
   simp only[Array.toList_append,List.append_assoc]
   rw[<- List.append_assoc]
   exact List.take_left
  have hnl:news.length=ys.length*i.size:=by rw[n2,hsi]
  simp only[RdL]at hv
  rcases hv with⟨e1,rfl⟩|⟨b1,off1,cap1,e1,_,hr1⟩|⟨a',e1,rfl⟩
  ·cases e1
   have hrun:=run_append_nil (P:=P) x.w t ty e i z (slT_und ht) hinf hz ⟨b,off,none⟩ ys.length cap news hnl (fun j w hj=>by rw[add_none];exact n3 j w hj) hpos (by omega) (by
    have:=Nat.mul_le_mul (show ys.length<=4294967296 by omega) hby;omega)
   have hf:=fin [] (grownCap x.w ys.length 0 e) (news.toArray++Builtin.zeroCells z.cells (grownCap x.w ys.length 0 e-ys.length)) (by simp[RdLs]) (by simp) (by have:=grownCap_ge x.w ys.length 0 e;simpa using this)
   exact⟨_,_,hrun,hf.1,by simpa using hf.2⟩
  ·cases e1
   obtain⟨olds,o1,o2,o3⟩:=rdRows_cells hx hr1
   have hrun:=run_append_grow (P:=P) x.w t ty e i z (slT_und ht) hinf hz ⟨b1,off1,none⟩ xs.length xs.length olds (by rw[o2,hsi]) (fun j w hj=>by rw[add_none];exact o3 j w hj) ⟨b,off,none⟩ ys.length cap news hnl (fun j w hj=>by rw[add_none];exact n3 j w hj) (by omega) (by omega) (by
    have h1:=nextslicecap_le (need:=xs.length+ys.length) (old:=xs.length) (by omega)
    have h2:=Nat.mul_le_mul h1 hby
    omega)
   have hf:=fin olds (grownCap x.w (xs.length+ys.length) xs.length e) (olds.toArray++news.toArray++Builtin.zeroCells z.cells (grownCap x.w (xs.length+ys.length) xs.length e-(xs.length+ys.length))) o1 (htk _ _) (grownCap_ge x.w (xs.length+ys.length) xs.length e)
   exact⟨_,_,hrun,hf.1,hf.2⟩
  ·cases e1
   have hrun:=run_append_grow (P:=P) x.w t ty e i z (slT_und ht) hinf hz a' 0 0 [] (by simp) (fun j w hj=>by simp at hj) ⟨b,off,none⟩ ys.length cap news hnl (fun j w hj=>by rw[add_none];exact n3 j w hj) (by omega) (by omega) (by
    rw[Nat.zero_add,nextslicecap_zero hpos]
    have:=Nat.mul_le_mul (show ys.length<=4294967296 by omega) hby
    omega)
   have hf:=fin [] (grownCap x.w (0+ys.length) 0 e) ((([]:List Value).toArray)++news.toArray++Builtin.zeroCells z.cells (grownCap x.w (0+ys.length) 0 e-(0+ys.length))) (by simp[RdLs]) (htk _ _) (by simpa using grownCap_ge x.w (0+ys.length) 0 e)
   exact⟨_,_,hrun,hf.1,hf.2⟩
theorem run_slice3 {l h m len cap:Nat}{lo:Option Value}{vh vm:Value}(w:World) (hl:(lo=none∧l=0)∨∃k,lo=some (.int k l)) (hh:∃k,vh=.int k h) (hm:∃k,vm=.int k m)
  (h1:l<=h) (h2:h<=m) (h3:m<=cap):(Instr.sliceBounds true len cap lo (some vh) (some vm)).run P w=.ok (l,h,m) w:=by
 obtain⟨k1,rfl⟩:=hh
 obtain⟨k2,rfl⟩:=hm
 rcases hl with⟨rfl,rfl⟩|⟨k3,rfl⟩
 ·have a1:(h:Int)<=m:=by omega
  have a2:(m:Int)<=cap:=by omega
  simp[Instr.sliceBounds,Instr.sliceBound,asIntOf,h2,h3]
 ·have a1:(h:Int)<=m:=by omega
  have a2:(m:Int)<=cap:=by omega
  have a3:(l:Int)<=h:=by omega
  simp[Instr.sliceBounds,Instr.sliceBound,asIntOf,h1,h2,h3]
theorem clipF_ok {o:Oper}{E:Env}{p:Prop}{a:A}(h:clipF P E o.op=some (p,a)) (hp:p):PureOK P o E a:=by
 intro n ds x act he hb
 obtain⟨dst,op,type,pos,after,guard⟩:=o
 have v1:∀ {s:Sem Value}{u:Value}{y:X},s.run P x.w=.ok u y.w->(do pure (Next.value (<- s)):Sem Next).run P x.w=.ok (.value u) y.w:=by
  intro s u y hs;simp[hs]
 cases op<;>simp only[clipF]at h<;>try (simp at h;done)
 case binOp op t y z ty=>
  have hy:=ev_ok he y
  have hz:=ev_ok he z
  split at h<;>try (simp at h;done)
  rename_i k1 a k2 b e1 e2
  simp only[Option.some.injEq,Prod.mk.injEq]at h
  obtain⟨rfl,rfl⟩:=h
  subst hp
  rw[e1]at hy
  rw[e2]at hz
  simp only[D,RdL]at hy hz
  refine⟨.int k1 (k1.wrap (a-b)),x,?_,.refl x,by simp[D,RdL]⟩
  have:(do eqGuard .sub t y z (act.eval y) (act.eval z);binOp .sub t (act.eval y) (act.eval z):Sem Value).run P x.w=.ok (.int k1 (k1.wrap (a-b))) x.w:=by
   rw[hy,hz]
   simp[eqGuard,binOp,Op.intArith]
  exact v1 this
 case buildSlice t len ps=>
  split at h<;>try (simp at h;done)
  rename_i p' rows hbs
  simp only[Option.some.injEq,Prod.mk.injEq]at h
  obtain⟨rfl,rfl⟩:=h
  obtain⟨q,h1,rfl⟩:=an_some hbs
  obtain⟨u,y,k1,k2,k3,ad,k4⟩:=bslA_ok' (qs:=ps.map fun (i,x)=>(i,act.eval x)) h1 hp.2 hb (by simpa using parts_ok he ps.toList hp.1)
  refine⟨u,y,v1 k1,k2,?_⟩
  simp only[D]
  simp only[D]at k3
  exact⟨k3,ad,len,k4⟩
 case slice t y lo hi mx=>
  cases mx with
  | none=>simp at h
  | some m=>
   simp only at h
   split at h<;>try (simp at h;done)
   rename_i e xs hsl hxs
   split at h<;>try (simp at h;done)
   rename_i q l k1 h' k2 m' hlo hhi hmx
   simp only[Option.some.injEq,Prod.mk.injEq]at h
   obtain⟨rfl,rfl⟩:=h
   obtain⟨p1,p2,p3,p4,p5,p6,p7,p8,p9,p10,p11⟩:=hp
   have hv:=asSl_ok hxs (st_ok (ev_ok he y) p1)
   have hlo':=boundA_ok hlo p5 (opt_ok he lo p2)
   have hhi':=opt_ok he hi p3
   rw[hhi]at hhi'
   have hmx':=st_ok (ev_ok he m) p4
   rw[hmx]at hmx'
   simp only[D,RdL]at hmx'
   cases hi with
   | none=>simp[opt]at hhi
   | some hi=>
    simp only[Option.map_some,OptOK,D,RdL]at hhi'
    subst p6
    have e1:(m':Int)=(m'.toNat:Nat):=by omega
    generalize hK:m'.toNat=K at *
    rw[e1]at hhi' hmx'
    have vv:∀(a:Option Addr) (cap:Nat),K<=cap->act.eval y=.slice a xs.length cap->(Instr.sliceAt t (act.eval y) (lo.map act.eval) (some (act.eval hi)) (some (act.eval m))).run P x.w=.ok (.slice (if K=l then a else a.map (·.add (l*szT P e))) (K-l) (K-l)) x.w:=by
     intro a cap hc hy
     rw[hy]
     simp only[Instr.sliceAt,Instr.slice,Sem.run_bind,run_underlying (slT_und hsl),Result.andThen_ok]
     rw[run_slice3 x.w hlo' ⟨_,hhi'⟩ ⟨_,hmx'⟩ p8 (Nat.le_refl _) hc]
     simp[run_sizeOf' p10]
    simp only[RdL]at hv
    have hlen:((xs.take K).drop l).length=K-l:=by simp;omega
    rcases hv with⟨hy,hx0⟩|⟨b,off,cap,hy,hc,hr⟩|⟨a,hy,hx0⟩
    ·have h0:xs.length=0:=by rw[hx0];rfl
     have:=vv none 0 (by omega) (by rw[h0];exact hy)
     refine⟨_,x,v1 this,.refl x,?_⟩
     simp only[D,RdL,Option.map_none,ite_self]
     have hKl:K-l=0:=by omega
     rw[hKl]
     exact⟨.inl ⟨rfl,by rw[hx0];simp⟩,_,_,rfl⟩
    ·have:=vv _ cap (by omega) hy
     refine⟨_,x,v1 this,.refl x,?_⟩
     simp only[D,RdL]
     refine⟨?_,_,_,rfl⟩
     by_cases hKl:K=l
     ·refine .inr (.inr ⟨⟨b,off,none⟩,?_,?_⟩)
      ·simp[hKl]
      ·rw[hKl];simp
     ·refine .inr (.inl ⟨b,off+l*szT P e,K-l,?_,by rw[hlen];exact Nat.le_refl _,?_⟩)
      ·simp[hKl,hlen,add_none]
      ·have h1:=RdRows.take K xs b off hr
       exact RdRows.drop l _ b off (fun r hr'=>p11 r (List.mem_of_mem_take hr')) h1
    ·have h0:xs.length=0:=by rw[hx0];rfl
     have:=vv (some a) 0 (by omega) (by rw[h0];exact hy)
     refine⟨_,x,v1 this,.refl x,?_⟩
     simp only[D,RdL]
     have hKl:K=l:=by omega
     simp only[hKl,if_true,Nat.sub_self]
     exact⟨.inr (.inr ⟨a,rfl,by rw[hx0];simp⟩),_,_,rfl⟩
 case call c=>
  split at h<;>try (simp at h;done)
  rename_i y z t t' e1 e2 e3
  split at h<;>try (simp at h;done)
  rename_i e xs ys hsl hxs hys
  simp only[Option.some.injEq,Prod.mk.injEq]at h
  obtain⟨rfl,rfl⟩:=h
  obtain⟨p1,rfl,p3,p4,p5,p6⟩:=hp
  have hy:=ev_ok he y
  rw[hxs]at hy
  simp only[D]at hy
  obtain⟨r,w,k1,k2,k3⟩:=append_clip type hsl p3 p4 p5 p6 hb hy.1 hy.2 (asSl_ok hys (st_ok (ev_ok he z) p1))
  refine⟨r,w,?_,k2,by simpa [D]using k3⟩
  have ea:c.args.map act.eval=#[act.eval y,act.eval z]:=by
   apply Array.toList_inj.1
   simp[e2]
  have et:c.argTypes=#[t',t']:=by
   apply Array.toList_inj.1
   simpa using e3
  simp only[execOp,resolve,e1,Sem.run_bind,Sem.run_pure,Result.andThen_ok,invoke,ea,et]
  simp only[builtin,Sem.run_bind,k1,Result.andThen_ok,Sem.run_pure]
end
section
variable {P:Program}
inductive CR where
 | fn (r:A)
 | own (e:TypeId) (sz:Nat) (rows:List (List A))
 | ro (r:A)
 | sts (qs:List (TypeId×Nat×List (List A)))
 | bld
 | clip
 | frz
def uf (u:Value) (i:Nat):Value:=match u with
 | .agg vs=>vs.toList.getD i .nilIface
 | _=>.nilIface
def ownsL (u:Value) (τ i:Nat):List (TypeId×Nat×List (List A))->List A
 | []=>[]
 | _::r=>.own (τ+i) (uf u i)::ownsL u τ (i+1) r
def entsL (u:Value) (τ i:Nat):List (TypeId×Nat×List (List A))->Heap
 | []=>[]
 | q::r=>(τ+i,.seq (uf u i) q.1 q.2.1 q.2.2)::entsL u τ (i+1) r
def hdrsL (u:Value) (i:Nat):List (TypeId×Nat×List (List A))->List (Value×TypeId×Nat×List (List A))
 | []=>[]
 | q::r=>(uf u i,q)::hdrsL u (i+1) r
def stB (d:Nat):Nat:=100000+10*d
def CallSts (P:Program) (g:FuncId) (az:List A) (qs:List (TypeId×Nat×List (List A))):Prop:=
 CallS P g az [] fun r H'=>∃u,r=.agg (ownsL u 0 0 qs)∧H'=entsL u 0 0 qs
def CallOwn (P:Program) (g:FuncId) (az:List A) (e:TypeId) (sz:Nat) (rows:List (List A)):Prop:=
 CallS P g az [] fun r H'=>∃t h,r=.own t h∧H'=[(t,.seq h e sz rows)]
def tag1:A->List Nat
 | .ptr g _ _=>[g]
 | .eptr g _ _ _ _=>[g]
 | .own g _=>[g]
 | .map g _=>[g]
 | _=>[]
def tagOf:A->List Nat
 | .ptr g _ _=>[g]
 | .eptr g _ _ _ _=>[g]
 | .own g _=>[g]
 | .map g _=>[g]
 | .agg az=>az.flatMap tag1
 | _=>[]
def argT:A->List Nat
 | .ptr g _ _=>g::(if g=170 then [171,172,173] else [])
 | a=>tagOf a
theorem argT_sub {a:A}{t:Nat}(h:t∈tagOf a):t∈argT a:=by
 cases a<;>first | exact h | (simp only[tagOf,List.mem_singleton]at h;rw[h];exact List.mem_cons_self)
def fnT (E:Env):Callee->List Nat
 | .value f=>match (st (ev E f)).2 with
  | .fn _ first caps=>((first++caps).map argT).flatten
  | _=>[]
 | _=>[]
def rdT (E:Env) (o:Oper):List Nat:=
 match o.op with
 | .load _ x=>tagOf (st (ev E x)).2
 | .store _ x _=>tagOf (st (ev E x)).2
 | .indexAddr _ x _=>tagOf (st (ev E x)).2
 | .lookup _ x _ _=>tagOf (st (ev E x)).2
 | .mapUpdate _ x _ _=>tagOf (st (ev E x)).2
 | .insert _ x _ _=>tagOf (st (ev E x)).2
 | .mapEntry _ x _=>tagOf (st (ev E x)).2
 | .entryStore _ x _ _=>tagOf (st (ev E x)).2
 | .next x _=>tagOf (st (ev E x)).2
 | .range _ x=>tagOf (st (ev E x)).2
 | .entry x=>89::tagOf (st (ev E x)).2
 | .slice _ x _ _ _=>tagOf (st (ev E x)).2
 | .call c=>fnT E c.callee++(c.args.toList.map fun x=>argT (st (ev E x)).2).flatten
 | _=>[]
def entsOf (G:Nat->Option Ent):List Nat->Heap
 | []=>[]
 | t::l=>match G t with
  | some e=>(t,e)::entsOf G l
  | none=>entsOf G l
def fStep0 (P:Program) (ρ:Nat->Option CR) (u:Value) (b:Nat) (ops:List Oper) (o:Oper) (E:Env) (G:Nat->Option Ent):Option (Prop×A×Option (Nat×Ent)):=
 match o.guard with
 | none=>match pureA P E o.op with
  | some (p,a)=>some (p,a,none)
  | none=>match callA E o.op with
   | some (p,g,az)=>match ρ (o.dst.getD 0) with
    | some (.fn r)=>some (p∧CallFn P g az r,r,none)
    | some (.own e sz rows)=>some (p∧CallOwn P g az e sz rows,.own (o.dst.getD 0) u,some (o.dst.getD 0,.seq u e sz rows))
    | some (.ro r)=>some (p∧(rdT E o).Nodup∧CallS P g az (entsOf G (rdT E o)) (fun r' H'=>r'=r∧H'=entsOf G (rdT E o)),r,none)
    | some (.sts qs)=>some (p∧CallSts P g az qs,.agg (ownsL u (stB (o.dst.getD 0)) 0 qs),some (o.dst.getD 0,.seqs (hdrsL u 0 qs)))
    | _=>none
   | none=>heapF P u b (o.dst.getD 0) E G o.op
 | some (j,want)=>match gq E ops j want with
  | none=>none
  | some q=>match pureA P E o.op with
   | some (p,a)=>some (q->p,.cond q a,none)
   | none=>match callA E o.op,ρ (o.dst.getD 0) with
    | some (p,g,az),some (.fn r)=>some (q->p∧CallFn P g az r,.cond q r,none)
    | some (p,g,az),some (.ro r)=>some (q->p∧(rdT E o).Nodup∧CallS P g az (entsOf G (rdT E o)) (fun r' H'=>r'=r∧H'=entsOf G (rdT E o)),.cond q r,none)
    | none,_=>match heapF P .nilIface 0 0 E G o.op,reads o.op with
     | some (p,a,none),true=>some (q->p,.cond q a,none)
     | _,_=>some (¬q,.cond q (.dat (.bool false)),none)
    | _,_=>none
def frzF (P:Program) (u:Value) (b τ:Nat) (E:Env) (G:Nat->Option Ent) (op:Op):Option (Prop×A×Option (Nat×Ent)):=match heapF P u b τ E G op with
 | some (p,.own g h,some (g',.seq h' _ _ rows))=>some (p∧g'=g∧h'=h∧allD rows=true,.dat (.sl (rowsD rows)),some (g',.seqs []))
 | _=>none
def fStep (P:Program) (ρ:Nat->Option CR) (u:Value) (b:Nat) (ops:List Oper) (o:Oper) (E:Env) (G:Nat->Option Ent):Option (Prop×A×Option (Nat×Ent)):=
 match o.guard,ρ (o.dst.getD 0) with
 | none,some .bld=>bldF P E u (o.dst.getD 0) o.op
 | none,some .clip=>match clipF P E o.op with
  | some (p,a)=>some (p,a,none)
  | none=>none
 | none,some .frz=>frzF P u b (o.dst.getD 0) E G o.op
 | _,_=>fStep0 P ρ u b ops o E G
theorem evs_congr {E E':Env}{ps:List (Nat×Operand)}(h:∀p∈ps,ev E p.2=ev E' p.2):evs E ps=evs E' ps∧evp E ps=evp E' ps:=by
 constructor
 ·exact List.map_congr_left fun p hp=>by obtain⟨i,o⟩:=p;simp only[h (i,o) hp]
 ·apply propext
  exact⟨fun k p hp=>by rw[<- h p hp];exact k p hp,fun k p hp=>by rw[h p hp];exact k p hp⟩
theorem evl_congr {E E':Env}{ps:List Operand}(h:∀p∈ps,ev E p=ev E' p):evl E ps=evl E' ps∧evlp E ps=evlp E' ps:=by
 constructor
 ·exact List.map_congr_left fun p hp=>by simp only[h p hp]
 ·apply propext
  exact⟨fun k p hp=>by rw[<- h p hp];exact k p hp,fun k p hp=>by rw[h p hp];exact k p hp⟩
theorem opt_congr {E E':Env}{o:Option Operand}(h:∀p∈o.toArray.toList,ev E p=ev E' p):opt E o=opt E' o∧optp E o=optp E' o:=by
 cases o with
 | none=>exact⟨rfl,rfl⟩
 | some x=>have:=h x (by simp);exact⟨by simp only[opt,Option.map_some,this],by simp only[optp,this]⟩
theorem pureA_congr {E E':Env}{o:Op}(h:∀x∈o.operands.toList,ev E x=ev E' x):pureA P E o=pureA P E' o:=by
 cases o<;>simp only[pureA]<;>simp only[Op.operands]at h
 case move x=>rw[h x (by simp)]
 case assign x=>rw[h x (by simp)]
 case pick c a b=>rw[h c (by simp),h a (by simp),h b (by simp)]
 case box t x=>rw[h x (by simp)]
 case build t ps=>
  obtain⟨h1,h2⟩:=evs_congr (E:=E) (E':=E') (ps:=ps.toList) fun p hp=>h p.2 (by simp;exact⟨p.1,by simpa using hp⟩)
  rw[h1,h2]
 case buildSlice t n ps=>
  obtain⟨h1,h2⟩:=evs_congr (E:=E) (E':=E') (ps:=ps.toList) fun p hp=>h p.2 (by simp;exact⟨p.1,by simpa using hp⟩)
  rw[h1,h2]
 case load t x=>rw[h x (by simp)]
 case nilCheck x=>rw[h x (by simp)]
 case binOp op t x y ty=>rw[h x (by simp),h y (by simp)]
 case unOp op t x=>rw[h x (by simp)]
 case convert s d x=>rw[h x (by simp)]
 case makeFunc fn first caps=>
  cases fn<;>simp only[]
  obtain⟨h1,h2⟩:=evl_congr (E:=E) (E':=E') (ps:=first.toList) fun p hp=>h p (by simp;exact .inl (by simpa using hp))
  obtain⟨h3,h4⟩:=evl_congr (E:=E) (E':=E') (ps:=caps.toList) fun p hp=>h p (by simp;exact .inr (by simpa using hp))
  rw[h1,h2,h3,h4]
 case slice t x lo hi mx=>
  cases mx<;>simp only[]
  obtain⟨h1,h2⟩:=opt_congr (E:=E) (E':=E') (o:=lo) fun p hp=>h p (by simp at hp ⊢;simp[hp])
  obtain⟨h3,h4⟩:=opt_congr (E:=E) (E':=E') (o:=hi) fun p hp=>h p (by simp at hp ⊢;simp[hp])
  rw[h x (by simp),h1,h2,h3,h4]
 case fieldAddr t x k=>rw[h x (by simp)]
 case field t x k=>rw[h x (by simp)]
 case indexAddr t x i=>rw[h x (by simp),h i (by simp)]
 case index t x i=>rw[h x (by simp),h i (by simp)]
 case extract x i=>rw[h x (by simp)]
 case call c=>
  cases hc:c.callee<;>simp only[]
  obtain⟨h1,h2⟩:=evl_congr (E:=E) (E':=E') (ps:=c.args.toList) fun p hp=>h p (by simp[Call.operands];exact .inr (by simpa using hp))
  rw[h1,h2]
theorem callA_congr {E E':Env}{o:Op}(h:∀x∈o.operands.toList,ev E x=ev E' x):callA E o=callA E' o:=by
 cases o<;>simp only[callA]<;>simp only[Op.operands]at h
 rename_i c
 cases hc:c.callee<;>simp only[]
 rename_i f
 obtain⟨h1,h2⟩:=evl_congr (E:=E) (E':=E') (ps:=c.args.toList) fun p hp=>h p (by simp[Call.operands];exact .inr (by simpa using hp))
 rw[h f (by simp[Call.operands,hc]),h1,h2]
theorem heapF_congr {E E':Env}{G G':Nat->Option Ent}{o:Oper}{u:Value}{b τ:Nat}(h:∀x∈o.op.operands.toList,ev E x=ev E' x) (hg:∀t∈rdT E o,G t=G' t) :
  heapF P u b τ E G o.op=heapF P u b τ E' G' o.op:=by
 obtain⟨dst,op,type,pos,after,guard⟩:=o
 cases op<;>simp only[heapF]<;>simp only[Op.operands]at h<;>simp only[rdT]at hg
 case box t x=>rw[h x (by simp)]
 case load t x=>
  rw[<- h x (by simp)]
  generalize st (ev E x)=s at hg ⊢
  obtain⟨p,a⟩:=s
  cases a<;>first | rfl | (have hk:=hg _ (List.mem_singleton.2 rfl);dsimp only;rw[hk])
 case store t x v=>
  rw[<- h x (by simp),<- h v (by simp)]
  generalize st (ev E x)=s at hg ⊢
  generalize stR (ev E v)=s2
  obtain⟨p,a⟩:=s
  obtain⟨q,a2⟩:=s2
  cases a<;>first | rfl | (have hk:=hg _ (List.mem_singleton.2 rfl);first | (dsimp only;rw[hk]) | (rw[hk]) | (simp only[hk]) | (simp[hk];done))
 case makeSlice t l c=>rw[h l (by simp),h c (by simp)]
 case indexAddr t x i=>
  rw[<- h x (by simp),<- h i (by simp)]
  generalize st (ev E x)=s at hg ⊢
  generalize st (ev E i)=s2
  obtain⟨p,a⟩:=s
  obtain⟨q,a2⟩:=s2
  cases slT P t<;>cases a<;>cases a2<;>first | rfl | (have hk:=hg _ (List.mem_singleton.2 rfl);first | (dsimp only;rw[hk]) | (rename_i l;cases l<;>first | rfl | (dsimp only;rw[hk])))
 case makeMap t r=>cases r<;>rfl
 case lookup t x i ok=>
  rw[<- h x (by simp),<- h i (by simp)]
  generalize st (ev E x)=s at hg ⊢
  obtain⟨p,a⟩:=s
  cases mpT P t with
  | none=>
   generalize st (ev E i)=s2
   obtain⟨q,a2⟩:=s2
   cases a<;>first | rfl | (have hk:=hg _ (List.mem_singleton.2 rfl);simp only[hk])
  | some dz=>
   generalize st (ev E i)=s2
   obtain⟨q,a2⟩:=s2
   cases a<;>first | rfl | (cases a2<;>first | rfl | (have hk:=hg _ (List.mem_singleton.2 rfl);simp only[hk]))
 case mapUpdate t x k v=>
  rw[<- h x (by simp),<- h k (by simp),<- h v (by simp)]
  generalize st (ev E x)=s at hg ⊢
  obtain⟨p,a⟩:=s
  cases mpT P t with
  | none=>
   generalize st (ev E k)=s2
   obtain⟨q,a2⟩:=s2
   cases a<;>first | rfl | (have hk:=hg _ (List.mem_singleton.2 rfl);simp only[hk])
  | some dz=>
   generalize st (ev E k)=s2
   obtain⟨q,a2⟩:=s2
   cases a<;>first | rfl | (cases a2<;>first | rfl | (have hk:=hg _ (List.mem_singleton.2 rfl);simp only[hk]))
 case mapEntry t x k=>
  rw[<- h x (by simp),<- h k (by simp)]
  generalize st (ev E x)=s at hg ⊢
  obtain⟨p,a⟩:=s
  cases mpT P t with
  | none=>
   generalize st (ev E k)=s2
   obtain⟨q,a2⟩:=s2
   cases a<;>first | rfl | (have hk:=hg _ (List.mem_singleton.2 rfl);simp only[hk])
  | some dz=>rfl
 case entryStore t x s v=>
  rw[<- h x (by simp),<- h s (by simp),<- h v (by simp)]
  generalize st (ev E x)=s1 at hg ⊢
  obtain⟨p,a⟩:=s1
  generalize st (ev E s)=s2
  obtain⟨q,a2⟩:=s2
  cases a<;>first | rfl | (cases a2<;>first | rfl | (rename_i l;cases l<;>first | rfl | (have hk:=hg _ (List.mem_singleton.2 rfl);simp only[hk])))
 case insert t x k v=>
  rw[<- h x (by simp),<- h k (by simp),<- h v (by simp)]
  generalize st (ev E x)=s at hg ⊢
  obtain⟨p,a⟩:=s
  cases mpT P t with
  | none=>rfl
  | some dz=>
   generalize st (ev E k)=s2
   obtain⟨q,a2⟩:=s2
   cases a<;>first | rfl | (cases a2<;>first | rfl | (have hk:=hg _ (List.mem_singleton.2 rfl);simp only[hk]))
 case range t x=>
  rw[<- h x (by simp)]
  generalize st (ev E x)=s at hg ⊢
  obtain⟨p,a⟩:=s
  cases a<;>first | rfl | (have hk:=hg _ (List.mem_singleton.2 rfl);simp only[hk]) | (rename_i l;cases l<;>rfl)
 case entry x=>
  have h89:=hg 89 (List.mem_cons_self ..)
  rw[<- h x (by simp)]
  generalize st (ev E x)=s at hg ⊢
  obtain⟨p,a⟩:=s
  cases a<;>first | rfl | (rename_i off;cases off<;>first | rfl | (have hk:=hg _ (List.mem_cons_of_mem _ (List.mem_singleton.2 rfl));simp only[hk,h89]))
 case next x isS=>
  rw[<- h x (by simp)]
  generalize st (ev E x)=s at hg ⊢
  obtain⟨p,a⟩:=s
  cases a<;>first | rfl | (rename_i off;cases off<;>first | rfl | (have hk:=hg _ (List.mem_singleton.2 rfl);simp only[hk]))
 case slice t x lo hi mx=>
  cases mx with
  | some m=>rfl
  | none=>
   obtain⟨h1,h2⟩:=opt_congr (E:=E) (E':=E') (o:=lo) fun p hp=>h p (by simp at hp ⊢;simp[hp])
   obtain⟨h3,h4⟩:=opt_congr (E:=E) (E':=E') (o:=hi) fun p hp=>h p (by simp at hp ⊢;simp[hp])
   simp only[heapF]
   rw[<- h x (by simp),<- h1,<- h2,<- h3,<- h4]
   generalize st (ev E x)=s at hg ⊢
   obtain⟨p,a⟩:=s
   cases slT P t<;>cases a<;>first | rfl | (have hk:=hg _ (List.mem_singleton.2 rfl);simp only[hk])
 case call c=>
  have hc:∀x∈c.args.toList,ev E x=ev E' x:=fun x hx=>h x (by simp[Call.operands];exact .inr (by simpa using hx))
  have hg':∀x∈c.args.toList,∀t∈tagOf (st (ev E x)).2,G t=G' t:=fun x hx t ht=>hg t (List.mem_append.2 (.inr (List.mem_flatten.2 ⟨_,List.mem_map.2 ⟨x,hx,rfl⟩,argT_sub ht⟩)))
  split
  ·rename_i x t e1 e2 e3
   rw[e2]at hc hg'
   rw[<- hc x (by simp)]
   have h2:=hg' x (by simp)
   generalize st (ev E x)=s at h2 ⊢
   obtain⟨p,a⟩:=s
   cases a<;>cases slT P t<;>first | rfl | (have hk:=h2 _ (List.mem_singleton.2 rfl);dsimp only;rw[hk])
  ·rename_i x y t t' e1 e2 e3
   rw[e2]at hc hg'
   rw[<- hc x (by simp),<- hc y (by simp)]
   have h2:=hg' x (by simp)
   have h3:=hg' y (by simp)
   generalize st (ev E x)=s at h2 ⊢
   generalize st (ev E y)=s2 at h3 ⊢
   obtain⟨p,a⟩:=s
   obtain⟨q,a2⟩:=s2
   cases slT P t with
   | none=>rfl
   | some e=>cases a<;>first | rfl | (cases a2<;>first | rfl | (simp only[h2 _ (List.mem_singleton.2 rfl),h3 _ (List.mem_singleton.2 rfl)];done) | (simp only[h3 _ (List.mem_singleton.2 rfl)];done) | (simp only[h2 _ (List.mem_singleton.2 rfl)];done) | (rename_i l;cases l<;>first | rfl | (simp only[h2 _ (List.mem_singleton.2 rfl)];done)))
  ·rfl
theorem gq_congr {E E':Env}{ops:List Oper}{j:Nat}{want:Bool}(h:∀s,(ops[j]?).bind (·.dst)=some s->E s=E' s):gq E ops j want=gq E' ops j want:=by
 unfold gq
 cases hs:(ops[j]?).bind (·.dst) with
 | none=>rfl
 | some s=>simp only[h s hs]
theorem rdT_congr {E E':Env}{o:Oper}(h:∀x∈o.op.operands.toList,ev E x=ev E' x):rdT E o=rdT E' o:=by
 obtain⟨dst,op,type,pos,after,guard⟩:=o
 cases op<;>simp only[rdT]<;>simp only[Op.operands]at h
 case load t x=>rw[h x (by simp)]
 case store t x v=>rw[h x (by simp)]
 case indexAddr t x i=>rw[h x (by simp)]
 case lookup t x i ok=>rw[h x (by simp)]
 case mapUpdate t x k v=>rw[h x (by simp)]
 case insert t x k v=>rw[h x (by simp)]
 case mapEntry t x k=>rw[h x (by simp)]
 case entryStore t x s v=>rw[h x (by simp)]
 case next x isS=>rw[h x (by simp)]
 case range t x=>rw[h x (by simp)]
 case entry x=>rw[h x (by simp)]
 case slice t x lo hi mx=>rw[h x (by simp)]
 case call c=>
  have h1:fnT E c.callee=fnT E' c.callee:=by
   cases hc:c.callee<;>simp only[fnT]
   rename_i f
   rw[h f (by simp[Call.operands,hc])]
  rw[h1]
  congr 2
  exact List.map_congr_left fun x hx=>by rw[h x (by simp[Call.operands];exact .inr (by simpa using hx))]
theorem looks_op {ops:List Oper}{o:Oper}{E E':Env}(h:∀t∈o.looksAt ops.toArray,E t=E' t):∀x∈o.op.operands.toList,ev E x=ev E' x:=by
 intro x hx
 cases x with
 | tmp t=>exact h t (List.mem_append.2 (.inl (List.mem_filterMap.2 ⟨.tmp t,hx,rfl⟩)))
 | _=>rfl
theorem entsOf_congr {G G':Nat->Option Ent}:∀ {l:List Nat},(∀t∈l,G t=G' t)->entsOf G l=entsOf G' l
 | [],_=>rfl
 | t::l,h=>by
  have ih:entsOf G l=entsOf G' l:=entsOf_congr fun s hs=>h s (List.mem_cons_of_mem _ hs)
  simp only[entsOf,h t (List.mem_cons_self),ih]
theorem fStep0_congr {ρ:Nat->Option CR}{u:Value}{b:Nat}{ops:List Oper}{o:Oper}{E E':Env}{G G':Nat->Option Ent}(h:∀t∈o.looksAt ops.toArray,E t=E' t) (hg:∀t∈rdT E o,G t=G' t) :
  fStep0 P ρ u b ops o E G=fStep0 P ρ u b ops o E' G':=by
 have ho:=looks_op h
 have hrd:=rdT_congr ho
 have hent:entsOf G (rdT E' o)=entsOf G' (rdT E' o):=entsOf_congr fun t ht=>hg t (by rw[hrd];exact ht)
 unfold fStep0
 cases hgd:o.guard with
 | none=>simp only[pureA_congr ho,callA_congr ho,heapF_congr ho hg,hrd,hent]
 | some jw=>
  obtain⟨j,want⟩:=jw
  have hq:gq E ops j want=gq E' ops j want:=gq_congr fun s hs=>h s (List.mem_append.2 (.inr (by simp only[hgd,List.getElem?_toArray,hs];simp)))
  simp only[pureA_congr ho,callA_congr ho,heapF_congr ho hg,hq,hrd,hent]
theorem evsR_congr {E E':Env}{ps:List (Nat×Operand)}(h:∀p∈ps,ev E p.2=ev E' p.2):evsR E ps=evsR E' ps∧evpR E ps=evpR E' ps:=by
 constructor
 ·unfold evsR
  apply List.map_congr_left
  intro p hp
  obtain⟨i,o⟩:=p
  simp only[h _ hp]
 ·unfold evpR
  apply propext
  constructor
  ·intro hh p hp;rw[<- h p hp];exact hh p hp
  ·intro hh p hp;rw[h p hp];exact hh p hp
theorem bldF_congr {E E':Env}{o:Oper}{u:Value}{τ:Nat}(h:∀x∈o.op.operands.toList,ev E x=ev E' x):bldF P E u τ o.op=bldF P E' u τ o.op:=by
 obtain⟨dst,op,type,pos,after,guard⟩:=o
 cases op<;>simp only[bldF]<;>simp only[Op.operands]at h
 rename_i t n ps
 obtain⟨h1,h2⟩:=evsR_congr (E:=E) (E':=E') (ps:=ps.toList) fun p hp=>h p.2 (by simp;exact⟨_,by simpa using hp⟩)
 rw[h1,h2]
theorem clipF_congr {E E':Env}{o:Oper}(h:∀x∈o.op.operands.toList,ev E x=ev E' x):clipF P E o.op=clipF P E' o.op:=by
 obtain⟨dst,op,type,pos,after,guard⟩:=o
 cases op<;>simp only[clipF]<;>simp only[Op.operands]at h
 case buildSlice t n ps=>
  obtain⟨h1,h2⟩:=evs_congr (E:=E) (E':=E') (ps:=ps.toList) fun p hp=>h p.2 (by simp;exact⟨_,by simpa using hp⟩)
  rw[h1,h2]
 case binOp op t x y ty=>rw[h x (by simp),h y (by simp)]
 case slice t x lo hi mx=>
  cases mx with
  | none=>rfl
  | some m=>
   obtain⟨h1,h2⟩:=opt_congr (E:=E) (E':=E') (o:=lo) fun p hp=>h p (by simp at hp ⊢;simp[hp])
   obtain⟨h3,h4⟩:=opt_congr (E:=E) (E':=E') (o:=hi) fun p hp=>h p (by simp at hp ⊢;simp[hp])
   simp only[clipF]
   rw[<- h x (by simp),<- h m (by simp),<- h1,<- h2,<- h3,<- h4]
 case call c=>
  have hc:∀x∈c.args.toList,ev E x=ev E' x:=fun x hx=>h x (by simp[Call.operands];exact .inr (by simpa using hx))
  split
  ·rename_i x y t t' e1 e2 e3
   rw[e2]at hc
   rw[<- hc x (by simp),<- hc y (by simp)]
  ·rfl
theorem fStep_congr {ρ:Nat->Option CR}{u:Value}{b:Nat}{ops:List Oper}{o:Oper}{E E':Env}{G G':Nat->Option Ent}(h:∀t∈o.looksAt ops.toArray,E t=E' t) (hg:∀t∈rdT E o,G t=G' t) :
  fStep P ρ u b ops o E G=fStep P ρ u b ops o E' G':=by
 unfold fStep frzF
 rw[fStep0_congr h hg,bldF_congr (looks_op h),clipF_congr (looks_op h),heapF_congr (looks_op h) hg]
section
variable (P) (ρ:Nat->Option CR) (ops:List Oper) (E0:Env) (G0:Nat->Option Ent)
def chG (G:Nat->Option Ent):Option (Nat×Ent)->Nat->Option Ent
 | none=>G
 | some (t,e)=>fun s=>if s=t then some e else G s
def eeS (r:Nat->Option (Prop×A×Option (Nat×Ent))) (S:Nat->Bool):Nat->Env
 | 0=>E0
 | i+1=>if S i then (match ops[i]?,r i with
  | some o,some (_,a,_)=>put (eeS r S i) o.dst a
  | _,_=>eeS r S i) else eeS r S i
def ggS (r:Nat->Option (Prop×A×Option (Nat×Ent))) (S:Nat->Bool):Nat->Nat->Option Ent
 | 0=>G0
 | i+1=>if S i then (match ops[i]?,r i with
  | some _,some (_,_,ch)=>chG (ggS r S i) ch
  | _,_=>ggS r S i) else ggS r S i
end
end
end Go.Proofs.YtafamcbdaeppoaaGreatDoor
