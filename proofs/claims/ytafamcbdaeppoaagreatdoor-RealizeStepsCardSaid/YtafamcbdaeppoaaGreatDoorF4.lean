/- Texts joined by a program: Fwi. -/
import Derived.Lib.AppendZeros
import Derived.Test.YtafamcbdaeppoaaGreatDoorF3
set_option linter.unusedSimpArgs false
set_option linter.unusedVariables false
namespace Go.Proofs.YtafamcbdaeppoaaGreatDoor
section
variable {P:Program}
def zL:Value->Option L
 | .int k n=>some (.int k n)
 | .bool b=>some (.bool b)
 | .string s=>some (.str s.data.toList)
 | .slice none 0 0=>some (.sl [])
 | _=>none
def plainK:TypeDesc->Bool
 | .int _=>true
 | .bool=>true
 | .string=>true
 | _=>false
def mpT (P:Program) (t:TypeId):Option (TypeDesc×L):=
 match P.underlying t with
 | some (.map kt et)=>match P.underlying kt,P.info? et with
  | some d,some i=>match i.zero.bind zL,plainK d with
   | some l,true=>some (d,l)
   | _,_=>none
  | _,_=>none
 | _=>none
def isKL:TypeDesc->L->Bool
 | .int k,.int k' _=>k'==k
 | .bool,.bool _=>true
 | .string,.str _=>true
 | _,_=>false
def leq:L->L->Bool
 | .int k a,.int k' b=>k==k'&&a==b
 | .bool a,.bool b=>a==b
 | .str a,.str b=>a==b
 | _,_=>false
def mget {α:Type}:List (L×α)->L->Option α
 | [],_=>none
 | (k,v)::r,q=>if leq k q then some v else mget r q
def mput {α:Type}:List (L×α)->L->α->List (L×α)
 | [],q,v=>[(q,v)]
 | (k,u)::r,q,v=>if leq k q then (k,v)::r else (k,u)::mput r q v
def zLs:List Value->Option (List L)
 | []=>some []
 | v::r=>match zL v,zLs r with
  | some l,some ls=>some (l::ls)
  | _,_=>none
def msT (P:Program) (t:TypeId):Option (TypeDesc×List L):=
 match P.underlying t with
 | some (.map kt et)=>match P.underlying kt,P.info? et with
  | some d,some i=>match i.zero,plainK d with
   | some (.agg zs),true=>(zLs zs.toList).map fun ls=>(d,ls)
   | _,_=>none
  | _,_=>none
 | _=>none
theorem msT_und {t:TypeId}{d:TypeDesc}{ls:List L}(h:msT P t=some (d,ls)):∃kt et i zs,P.underlying t=some (.map kt et)∧P.underlying kt=some d∧P.info? et=some i∧i.zero=some (.agg zs)∧zLs zs.toList=some ls∧plainK d=true:=by
 unfold msT at h
 split at h<;>try (simp at h;done)
 rename_i kt et hu
 split at h<;>try (simp at h;done)
 rename_i d' i hk hi
 split at h<;>try (simp at h;done)
 rename_i zs hz hp
 simp only[Option.map_eq_some_iff,Prod.mk.injEq]at h
 obtain⟨ls',h1,rfl,rfl⟩:=h
 exact⟨kt,et,i,zs,hu,hk,hi,hz,h1,hp⟩
theorem mpT_und {t:TypeId}{d:TypeDesc}{l:L}(h:mpT P t=some (d,l)):∃kt et i z,P.underlying t=some (.map kt et)∧P.underlying kt=some d∧P.info? et=some i∧i.zero=some z∧zL z=some l∧plainK d=true:=by
 unfold mpT at h
 split at h<;>try (simp at h;done)
 rename_i kt et hu
 split at h<;>try (simp at h;done)
 rename_i d' i hk hi
 split at h<;>try (simp at h;done)
 rename_i l' hz hp
 simp only[Option.some.injEq,Prod.mk.injEq]at h
 obtain⟨rfl,rfl⟩:=h
 cases hzz:i.zero with
 | none=>simp[hzz]at hz
 | some z=>exact⟨kt,et,i,z,hu,hk,hi,hzz,by simpa [hzz]using hz,hp⟩
theorem zL_ok {x:X}{z:Value}{l:L}(h:zL z=some l):RdL x l z:=by
 unfold zL at h
 split at h<;>simp only[Option.some.injEq,reduceCtorEq]at h<;>subst h<;>simp[RdL]
theorem zLs_ok {x:X}:∀ {vs:List Value}{ls:List L},zLs vs=some ls->RdLs x ls vs
 | [],ls,h=>by simp[zLs]at h;subst h;simp[RdLs]
 | v::r,ls,h=>by
  simp only[zLs]at h
  split at h<;>try (simp at h;done)
  rename_i l ls' h1 h2
  simp only[Option.some.injEq]at h
  subst h
  simp only[RdLs]
  exact⟨zL_ok h1,zLs_ok h2⟩
theorem isKL_key {d:TypeDesc}{l:L}(h:isKL d l=true):MapKept.IsKey d (kv l):=by
 unfold isKL at h
 split at h<;>simp_all [MapKept.IsKey,kv]
theorem isKL_val {x:X}{d:TypeDesc}{l:L}(h:isKL d l=true) {v:Value}(hv:RdL x l v):v=kv l:=by
 unfold isKL at h
 split at h<;>first | (simp only[RdL]at hv;subst hv;rfl) | simp at h
theorem leq_kv {d:TypeDesc}{a b:L}(ha:MapKept.IsKey d (kv a)) (hb:isKL d b=true):leq a b=true↔kv a=kv b:=by
 cases d<;>cases a<;>simp only[MapKept.IsKey,kv]at ha<;>cases b<;>simp only[isKL,Bool.false_eq_true,beq_iff_eq]at hb<;>simp_all [leq,kv]
theorem mget_find {α:Type}{p:α->Value->Prop}{d:TypeDesc}{q:L}(hq:isKL d q=true):∀(es:List (L×α)) (ms:List MapEntry) (i:Nat),MapP p es ms->(∀m∈ms,MapKept.IsKey d m.key) ->
  (mget es q=none∧Instr.findNow d (kv q) ms i=some none∧∀m∈ms,m.key≠kv q)∨∃j m l,mget es q=some l∧Instr.findNow d (kv q) ms i=some (some (i+j,m.val))∧ms[j]?=some m∧m.key=kv q∧p l m.val
 | [],[],_,_,_=>.inl ⟨rfl,rfl,by simp⟩
 | [],_::_,_,h,_=>by simp[MapP]at h
 | _::_,[],_,h,_=>by simp[MapP]at h
 | (k,l)::r,m::ms,i,h,hk=>by
  simp only[MapP]at h
  have hk0:=hk m (by simp)
  have hiff:=leq_kv (d:=d) (a:=k) (by rw[<- h.1];exact hk0) hq
  obtain⟨b,hb,hbiff⟩:=MapKept.sameNow_of_keys (isKL_key hq) hk0
  cases b with
  | true=>
   have e:=hbiff.1 rfl
   refine .inr ⟨0,m,l,?_,by simp[Instr.findNow,hb],rfl,e.symm,h.2.1⟩
   simp only[mget]
   rw[if_pos (hiff.2 (by rw[<- h.1];exact e.symm))]
  | false=>
   have hne:m.key≠kv q:=fun e=>by have:=hbiff.2 e.symm;cases this
   have hl:¬leq k q=true:=fun e=>hne (by rw[h.1];exact hiff.1 e)
   rcases mget_find hq r ms (i+1) h.2.2 (fun m hm=>hk m (by simp[hm])) with⟨h1,h2,h3⟩|⟨j,m',l',h1,h2,h3,h4,h5⟩
   ·refine .inl ⟨by simp[mget,hl,h1],by simp[Instr.findNow,hb,h2],fun m' hm'=>?_⟩
    rcases List.mem_cons.1 hm' with rfl | hm'
    ·exact hne
    ·exact h3 m' hm'
   ·exact .inr ⟨j+1,m',l',by simp[mget,hl,h1],by simp[Instr.findNow,hb,h2];omega,by simpa using h3,h4,h5⟩
theorem lookup_gen {α:Type}{p:α->Value->Prop}{w:World}{b t kt et:Nat}{d:TypeDesc}{q:L}{es:List (L×α)}{ms:Array MapEntry}{c:Nat}{zv:Value}{ok:Bool}(h1:P.underlying t=some (.map kt et)) (h2:P.underlying kt=some d) (hzv:∀w,(zeroValue et).run P w=.ok zv w)
  (hq:isKL d q=true) (k1:w.heap[b]?=some (.map ms c)) (k2:MapP p es ms.toList) (k4:∀m∈ms.toList,MapKept.IsKey d m.key) :
  ∃u,(Instr.lookup t (.map (some b)) (kv q) ok).run P w=.ok (if ok then .tuple #[u,.bool (mget es q).isSome] else u) w∧((mget es q=none∧u=zv)∨∃l,mget es q=some l∧p l u):=by
 rcases mget_find hq es ms.toList 0 k2 k4 with⟨g1,g2,_⟩|⟨j,m,l,g1,g2,_,_,g5⟩
 ·refine⟨zv,?_,.inl ⟨g1,rfl⟩⟩
  rw[g1]
  cases ok<;>simp[Instr.lookup,run_underlying h1,MapKept.run_getObj_map k1,MapKept.run_checkKey h2 (isKL_key hq),MapKept.run_findKey h2 g2,hzv]
 ·refine⟨m.val,?_,.inr ⟨l,g1,g5⟩⟩
  rw[g1]
  cases ok<;>simp[Instr.lookup,run_underlying h1,MapKept.run_getObj_map k1,MapKept.run_checkKey h2 (isKL_key hq),MapKept.run_findKey h2 g2]
theorem lookup_map {x:X}{b t:Nat}{d:TypeDesc}{z q:L}{es:List (L×L)}{ok:Bool}(ht:mpT P t=some (d,z)) (hq:isKL d q=true) (hs:Ent.sat x (.map b d es)) :
  ∃u,(Instr.lookup t (.map (some b)) (kv q) ok).run P x.w=.ok u x.w∧D x (match ok with
   | true=>.tuple [.dat ((mget es q).getD z),.dat (.bool (mget es q).isSome)]
   | false=>.dat ((mget es q).getD z)) u:=by
 obtain⟨kt,et,i,zv,h1,h2,h3,h4,h5,h6⟩:=mpT_und ht
 obtain⟨ms,c,k1,k2,k3,k4⟩:=hs
 have hzv:∀w,(zeroValue et).run P w=.ok zv w:=fun w=>by simp[zeroValue,run_typeInfo w h3,h4]
 obtain⟨u,e1,e2⟩:=lookup_gen (ok:=ok) h1 h2 hzv hq k1 k2 k4
 have hu:RdL x ((mget es q).getD z) u:=by
  rcases e2 with⟨g1,rfl⟩|⟨l,g1,g5⟩
  ·rw[g1];exact zL_ok h5
  ·rw[g1];exact g5
 refine⟨_,e1,?_⟩
 cases ok
 ·simpa [D]using hu
 ·simp only[D,if_true]
  exact⟨_,rfl,by simp[Ds,D,RdL];exact hu⟩
theorem lookup_mapS {x:X}{b t:Nat}{d:TypeDesc}{z:List L}{q:L}{es:List (L×List L)}{ok:Bool}(ht:msT P t=some (d,z)) (hq:isKL d q=true) (hs:Ent.sat x (.mapS b d es)) :
  ∃u,(Instr.lookup t (.map (some b)) (kv q) ok).run P x.w=.ok u x.w∧D x (match ok with
   | true=>.tuple [.record ((mget es q).getD z),.dat (.bool (mget es q).isSome)]
   | false=>.record ((mget es q).getD z)) u:=by
 obtain⟨kt,et,i,zs,h1,h2,h3,h4,h5,h6⟩:=msT_und ht
 obtain⟨ms,c,k1,k2,k3,k4⟩:=hs
 have hzv:∀w,(zeroValue et).run P w=.ok (.agg zs) w:=fun w=>by simp[zeroValue,run_typeInfo w h3,h4]
 obtain⟨u,e1,e2⟩:=lookup_gen (ok:=ok) h1 h2 hzv hq k1 k2 k4
 have hu:RdR x ((mget es q).getD z) u:=by
  rcases e2 with⟨g1,rfl⟩|⟨l,g1,g5⟩
  ·rw[g1];exact⟨zs,rfl,zLs_ok h5⟩
  ·rw[g1];exact g5
 refine⟨_,e1,?_⟩
 cases ok
 ·simp only[D,Bool.false_eq_true,if_false];exact hu
 ·simp only[D,if_true]
  exact⟨_,rfl,by simp[Ds,D,RdL];exact hu⟩
theorem MapP.push {α:Type}{p:α->Value->Prop}{q:L}{l:α}{v:Value}{c:Nat}(hl:p l v):∀ {es:List (L×α)}{ms:List MapEntry},MapP p es ms->mget es q=none->MapP p (mput es q l) (ms++[{ key:=kv q,val:=v,born:=c }])
 | [],[],_,_=>by simp[mput,MapP];exact hl
 | [],_::_,h,_=>by simp[MapP]at h
 | _::_,[],h,_=>by simp[MapP]at h
 | (k,u)::r,m::ms,h,hg=>by
  simp only[mget]at hg
  split at hg
  ·cases hg
  ·rename_i hk
   simp only[MapP]at h
   simp only[mput]
   rw[if_neg hk]
   simp only[List.cons_append,MapP]
   exact⟨h.1,h.2.1,MapP.push hl h.2.2 hg⟩
theorem MapP.put {α:Type}{p:α->Value->Prop}{d:TypeDesc}{q:L}{l:α}{v:Value}(hq:isKL d q=true) (hl:p l v):∀ {es:List (L×α)}{ms:List MapEntry}{j:Nat}{m:MapEntry},MapP p es ms->(∀m∈ms,MapKept.IsKey d m.key)->(ms.map (·.key)).Nodup->ms[j]?=some m->m.key=kv q ->
  MapP p (mput es q l) (ms.modify j fun e=>{ e with key:=kv q,val:=v })
 | [],[],_,_,_,_,_,h,_=>by simp at h
 | [],_::_,_,_,h,_,_,_,_=>by simp[MapP]at h
 | _::_,[],_,_,h,_,_,_,_=>by simp[MapP]at h
 | (k,u)::r,m0::ms,0,m,h,hk,_,hj,hm=>by
  simp at hj;subst hj
  simp only[MapP]at h
  have:leq k q=true:=(leq_kv (d:=d) (by rw[<- h.1];exact hk m0 (by simp)) hq).2 (by rw[<- h.1];exact hm)
  simp only[mput]
  rw[if_pos this]
  simp only[List.modify_zero_cons,MapP]
  exact⟨by rw[<- h.1];exact hm.symm,hl,h.2.2⟩
 | (k,u)::r,m0::ms,j+1,m,h,hk,hn,hj,hm=>by
  simp only[MapP]at h
  simp at hj
  simp only[List.map_cons,List.nodup_cons]at hn
  have hne:¬leq k q=true:=fun e=>by
   have e1:=(leq_kv (d:=d) (by rw[<- h.1];exact hk m0 (by simp)) hq).1 e
   rw[<- h.1,<- hm]at e1
   exact hn.1 (e1▸List.mem_map.2 ⟨m,List.mem_of_getElem? hj,rfl⟩)
  simp only[mput]
  rw[if_neg hne]
  simp only[List.modify_succ_cons,MapP]
  exact⟨h.1,h.2.1,MapP.put hq hl h.2.2 (fun m hm=>hk m (by simp[hm])) hn.2 hj hm⟩
theorem update_gen {α:Type}{p:X->α->Value->Prop}{F:List (L×α)->Ent}{x:X}{H:Heap}{g b t kt et:Nat}{d:TypeDesc}{q:L}{l:α}{v:Value}{es:List (L×α)}(hF:∀es k,(F es).own k↔k=b)
  (hS:∀x es,(F es).sat x↔∃ms c,x.w.heap[b]?=some (.map ms c)∧MapP (p x) es ms.toList∧MapKept.Stamped ms c∧∀m∈ms.toList,MapKept.IsKey d m.key) (hm:∀ {x y:X},x.le y->∀a v,p x a v->p y a v)
  (h1:P.underlying t=some (.map kt et)) (h2:P.underlying kt=some d) (hq:isKL d q=true) (hi:Inv x ((g,F es)::H)) (hl:p x l v) :
  ∃y:X,(Instr.mapUpdate t (.map (some b)) (kv q) v).run P x.w=.ok () y.w∧x.le y∧Inv y ((g,F (mput es q l))::H):=by
 have hs:=hi.sat (g,F es) (by simp)
 have hown:=hi.own (g,F es) (by simp) b ((hF es b).2 rfl)
 obtain⟨ms,c,k1,k2,k3,k4⟩:=(hS x es).1 hs
 have fin:∀(ms':Array MapEntry) (c':Nat),MapP (p x) (mput es q l) ms'.toList->MapKept.Stamped ms' c'->(∀m∈ms'.toList,MapKept.IsKey d m.key) ->
   ∃y:X,y.w={ x.w with heap:=x.w.heap.setIfInBounds b (.map ms' c') }∧x.le y∧Inv y ((g,F (mput es q l))::H):=by
  intro ms' c' e1 e2 e3
  have hle:x.le ⟨{ x.w with heap:=x.w.heap.setIfInBounds b (.map ms' c') },x.ok⟩:=
   ⟨fun k hk=>⟨hk,by simp[Array.getElem?_setIfInBounds_ne (show b≠k from fun e=>hown.2 (e▸hk))]⟩,rfl,rfl,rfl,by simp,Nat.le_refl _⟩
  refine⟨⟨_,x.ok⟩,rfl,hle,hi.turn (g':=g) (e':=F (mput es q l)) hle (fun k hk=>by simpa using hi.bd k hk) (fun k hk=>.inl hk) ?_ ?_ ?_⟩
  ·exact (hS _ _).2 ⟨ms',c',(MapKept.heap_set k1).1,MapP.mono (hm hle) _ _ e1,e2,e3⟩
  ·intro k hk
   obtain rfl:=(hF _ k).1 hk
   exact⟨.inl ((hF _ _).2 rfl),by simpa using hown.1⟩
  ·intro k _ hk
   exact (MapKept.heap_set k1).2 k fun e=>hk ((hF _ _).2 e)
 rcases mget_find hq es ms.toList 0 k2 k4 with⟨g1,g2,g3⟩|⟨j,m,l',g1,g2,g3,g4,g5⟩
 ·obtain⟨y,e1,e2,e3⟩:=fin (ms.push { key:=kv q,val:=v,born:=c }) (c+1) (by simpa using MapP.push hl k2 g1) (MapKept.stamped_push k3 g3) (by
   intro m hm
   simp only[Array.toList_push,List.mem_append,List.mem_singleton]at hm
   rcases hm with hm | rfl
   ·exact k4 m hm
   ·exact isKL_key hq)
  refine⟨y,?_,e2,e3⟩
  rw[e1]
  simp[Instr.mapUpdate,run_underlying h1,MapKept.run_getObj_map k1,MapKept.run_checkKey h2 (isKL_key hq),MapKept.run_findKey h2 g2,MapKept.run_setObj_map _ k1]
 ·have hj:ms[j]?=some m:=by simpa using g3
  have hkey:∀e',ms[j]?=some e'->({ e' with key:=kv q,val:=v }:MapEntry).key=e'.key:=fun e' he'=>by rw[hj]at he';cases he';exact g4.symm
  obtain⟨y,e1,e2,e3⟩:=fin (ms.modify j fun e=>{ e with key:=kv q,val:=v }) c (by
   have:=MapP.put hq hl k2 k4 k3.2.2 g3 g4
   simpa [Array.toList_modify]using this) (MapKept.stamped_modify k3 _ _ (fun _ _=>rfl) (fun e' _ he'=>hkey e' he')) (MapKept.isKey_modify k4 _ _ hkey)
  refine⟨y,?_,e2,e3⟩
  rw[e1]
  simp[Instr.mapUpdate,run_underlying h1,MapKept.run_getObj_map k1,MapKept.run_checkKey h2 (isKL_key hq),MapKept.run_findKey h2 g2,hj,g4,MapKept.run_keyThatStays (isKL_key hq),MapKept.run_setObj_map _ k1]
theorem update_map {x:X}{H:Heap}{g b t:Nat}{d:TypeDesc}{z q l:L}{v:Value}{es:List (L×L)}(ht:mpT P t=some (d,z)) (hq:isKL d q=true) (hi:Inv x ((g,.map b d es)::H)) (hl:RdL x l v) :
  ∃y:X,(Instr.mapUpdate t (.map (some b)) (kv q) v).run P x.w=.ok () y.w∧x.le y∧Inv y ((g,.map b d (mput es q l))::H):=by
 obtain⟨kt,et,i,zv,h1,h2,h3,h4,h5,h6⟩:=mpT_und ht
 exact update_gen (p:=RdL) (F:=Ent.map b d) (fun _ _=>Iff.rfl) (fun _ _=>Iff.rfl) (fun h a v hv=>RdL.mono h a v hv) h1 h2 hq hi hl
theorem update_mapS {x:X}{H:Heap}{g b t:Nat}{d:TypeDesc}{z l:List L}{q:L}{v:Value}{es:List (L×List L)}(ht:msT P t=some (d,z)) (hq:isKL d q=true) (hi:Inv x ((g,.mapS b d es)::H)) (hl:RdR x l v) :
  ∃y:X,(Instr.mapUpdate t (.map (some b)) (kv q) v).run P x.w=.ok () y.w∧x.le y∧Inv y ((g,.mapS b d (mput es q l))::H):=by
 obtain⟨kt,et,i,zs,h1,h2,h3,h4,h5,h6⟩:=msT_und ht
 exact update_gen (p:=RdR) (F:=Ent.mapS b d) (fun _ _=>Iff.rfl) (fun _ _=>Iff.rfl) (fun h a v hv=>RdR.mono h a v hv) h1 h2 hq hi hl
def KeyP (P:Program) (kt:TypeId):Prop:=WideMaps.KeyLaw P kt∧∀k,okK k->goodK P kt (kvK k)
def pkT (P:Program) (t:TypeId):Option (TypeId×Bool×List L):=
 match P.underlying t with
 | some (.map kt et)=>match P.info? et with
  | some i=>match i.zero with
   | some (.agg zs)=>(zLs zs.toList).map fun ls=>(kt,true,ls)
   | some (.slice _ _ _)=>none
   | some z=>(zL z).map fun l=>(kt,false,[l])
   | none=>none
  | none=>none
 | _=>none
theorem pkT_und {t kt:TypeId}{s:Bool}{ls:List L}(h:pkT P t=some (kt,s,ls)):∃et i z,P.underlying t=some (.map kt et)∧P.info? et=some i∧i.zero=some z∧∀x,RdK x s ls z:=by
 unfold pkT at h
 split at h<;>try (simp at h;done)
 rename_i kt' et hu
 split at h<;>try (simp at h;done)
 rename_i i hi
 split at h<;>try (simp at h;done)
 ·rename_i zs hz
  simp only[Option.map_eq_some_iff,Prod.mk.injEq]at h
  obtain⟨ls',h1,rfl,rfl,rfl⟩:=h
  exact⟨et,i,_,hu,hi,hz,fun x=>⟨zs,rfl,zLs_ok h1⟩⟩
 ·rename_i z hn hn2 hz
  simp only[Option.map_eq_some_iff,Prod.mk.injEq]at h
  obtain⟨l,h1,rfl,rfl,rfl⟩:=h
  exact⟨et,i,_,hu,hi,hz,fun x=>⟨l,rfl,zL_ok h1⟩⟩
def kget {α:Type}:List (KeyK×α)->KeyK->Option α
 | [],_=>none
 | (k,v)::r,q=>if k=q then some v else kget r q
def kput {α:Type}:List (KeyK×α)->KeyK->α->List (KeyK×α)
 | [],q,v=>[(q,v)]
 | (k,u)::r,q,v=>if k=q then (k,v)::r else (k,u)::kput r q v
def keyP:A->Option KeyK
 | .record [.int .i64 n,.str s]=>some (n,s)
 | .agg [.dat (.int .i64 n),.dat (.str s)]=>some (n,s)
 | _=>none
theorem keyP_ok {x:X}{a:A}{k:KeyK}{v:Value}(h:keyP a=some k) (hd:D x a v):v=kvK k:=by
 unfold keyP at h
 split at h<;>simp only[Option.some.injEq,reduceCtorEq]at h<;>subst h
 all_goals
  simp only[D]at hd
  obtain⟨vs,rfl,hr⟩:=hd
  obtain⟨l⟩:=vs
  match l,hr with
  | [v1,v2],hr=>
   simp only[RdLs,RdL,Ds,D,and_true]at hr
   obtain⟨rfl,rfl⟩:=hr
   rfl
  | [],hr=>simp[RdLs,Ds]at hr
  | [_],hr=>simp[RdLs,Ds]at hr
  | _::_::_::_,hr=>simp[RdLs,Ds]at hr
def valK (s:Bool) (ls:List L):A:=match s with
 | true=>.record ls
 | false=>.dat (ls.headD (.sl []))
theorem valK_ok {x:X}{s:Bool}{ls:List L}{v:Value}(h:RdK x s ls v):D x (valK s ls) v:=by
 cases s with
 | true=>exact h
 | false=>
  obtain⟨l,rfl,hr⟩:=h
  exact hr
def setK (s:Bool) (a:A):Option (List L):=match s,a with
 | true,.record ls=>some ls
 | true,.agg az=>datLs az
 | false,.dat l=>some [l]
 | _,_=>none
theorem setK_ok {x:X}{s:Bool}{a:A}{ls:List L}{v:Value}(h:setK s a=some ls) (hd:D x a v):RdK x s ls v:=by
 unfold setK at h
 split at h
 ·simp only[Option.some.injEq]at h
  subst h
  exact hd
 ·simp only[D]at hd
  obtain⟨us,rfl,hr⟩:=hd
  exact⟨us,rfl,datLs_ok h hr⟩
 ·simp only[Option.some.injEq]at h
  subst h
  exact⟨_,rfl,hd⟩
 ·cases h
theorem kvK_inj {a b:KeyK}:kvK a=kvK b↔a=b:=by
 obtain⟨a1,a2⟩:=a
 obtain⟨b1,b2⟩:=b
 simp[kvK]
theorem MapK.nofind {x:X}{s:Bool}{q:KeyK}:∀ {es:List (KeyK×List L)}{ms:List MapEntry},MapK x s es ms->(∀m∈ms,m.key≠kvK q)->kget es q=none
 | [],[],_,_=>rfl
 | (k,l)::r,m::ms,h,hn=>by
  simp only[MapK]at h
  simp only[kget]
  rw[if_neg (fun e=>hn m (by simp) (by rw[h.1,e]))]
  exact MapK.nofind h.2.2.2 fun m hm=>hn m (by simp[hm])
 | [],_::_,h,_=>by simp[MapK]at h
 | _::_,[],h,_=>by simp[MapK]at h
theorem MapK.at {x:X}{s:Bool}{q:KeyK}:∀ {es:List (KeyK×List L)}{ms:List MapEntry}{j:Nat}{m:MapEntry},MapK x s es ms->(ms.map (·.key)).Nodup->ms[j]?=some m->m.key=kvK q->∃l,kget es q=some l∧RdK x s l m.val
 | [],[],_,_,_,_,h,_=>by simp at h
 | (k,l)::r,m0::ms,0,m,h,hn,hj,hm=>by
  simp at hj;subst hj
  simp only[MapK]at h
  simp only[kget]
  rw[if_pos (kvK_inj.1 (h.1.symm.trans hm))]
  exact⟨l,rfl,h.2.2.1⟩
 | (k,l)::r,m0::ms,j+1,m,h,hn,hj,hm=>by
  simp only[MapK]at h
  simp at hj
  simp only[List.map_cons,List.nodup_cons]at hn
  simp only[kget]
  rw[if_neg (fun e=>hn.1 (by rw[h.1,e,<- hm];exact List.mem_map.2 ⟨m,List.mem_of_getElem? hj,rfl⟩))]
  exact MapK.at h.2.2.2 hn.2 hj hm
 | [],_::_,_,_,h,_,_,_=>by simp[MapK]at h
 | _::_,[],_,_,h,_,_,_=>by simp[MapK]at h
theorem MapK.good {x:X}{s:Bool}{kt:TypeId}(hK:KeyP P kt):∀ {es:List (KeyK×List L)}{ms:List MapEntry},MapK x s es ms->∀m∈ms,goodK P kt m.key
 | [],[],_,m,hm=>by simp at hm
 | (k,l)::r,m0::ms,h,m,hm=>by
  simp only[MapK]at h
  rcases List.mem_cons.1 hm with rfl | hm
  ·rw[h.1];exact hK.2 k h.2.1
  ·exact MapK.good hK h.2.2.2 m hm
 | [],_::_,h,_,_=>by simp[MapK]at h
 | _::_,[],h,_,_=>by simp[MapK]at h
theorem MapK.push {x:X}{s:Bool}{q:KeyK}{l:List L}{v:Value}{c:Nat}(hq:okK q) (hl:RdK x s l v):∀ {es:List (KeyK×List L)}{ms:List MapEntry},MapK x s es ms->kget es q=none->MapK x s (kput es q l) (ms++[{ key:=kvK q,val:=v,born:=c }])
 | [],[],_,_=>by simp[kput,MapK];exact⟨hq,hl⟩
 | [],_::_,h,_=>by simp[MapK]at h
 | _::_,[],h,_=>by simp[MapK]at h
 | (k,u)::r,m::ms,h,hg=>by
  simp only[kget]at hg
  split at hg
  ·cases hg
  ·rename_i hk
   simp only[MapK]at h
   simp only[kput]
   rw[if_neg hk]
   simp only[List.cons_append,MapK]
   exact⟨h.1,h.2.1,h.2.2.1,MapK.push hq hl h.2.2.2 hg⟩
theorem MapK.put {x:X}{s:Bool}{q:KeyK}{l:List L}{v:Value}(hl:RdK x s l v):∀ {es:List (KeyK×List L)}{ms:List MapEntry}{j:Nat}{m:MapEntry},MapK x s es ms->(ms.map (·.key)).Nodup->ms[j]?=some m->m.key=kvK q ->
  MapK x s (kput es q l) (ms.modify j fun e=>{ e with key:=kvK q,val:=v })
 | [],[],_,_,_,_,h,_=>by simp at h
 | [],_::_,_,_,h,_,_,_=>by simp[MapK]at h
 | _::_,[],_,_,h,_,_,_=>by simp[MapK]at h
 | (k,u)::r,m0::ms,0,m,h,_,hj,hm=>by
  simp at hj;subst hj
  simp only[MapK]at h
  have e:=kvK_inj.1 (h.1.symm.trans hm)
  simp only[kput]
  rw[if_pos e]
  simp only[List.modify_zero_cons,MapK]
  exact⟨by rw[e],h.2.1,hl,h.2.2.2⟩
 | (k,u)::r,m0::ms,j+1,m,h,hn,hj,hm=>by
  simp only[MapK]at h
  simp at hj
  simp only[List.map_cons,List.nodup_cons]at hn
  simp only[kput]
  rw[if_neg (fun e=>hn.1 (by rw[h.1,e,<- hm];exact List.mem_map.2 ⟨m,List.mem_of_getElem? hj,rfl⟩))]
  simp only[List.modify_succ_cons,MapK]
  exact⟨h.1,h.2.1,h.2.2.1,MapK.put hl h.2.2.2 hn.2 hj hm⟩
theorem lookup_mapK {x:X}{b t:Nat}{kt:TypeId}{s:Bool}{z:List L}{q:KeyK}{es:List (KeyK×List L)}{ok:Bool}(ht:pkT P t=some (kt,s,z)) (hK:KeyP P kt) (hq:okK q) (hs:Ent.sat x (.mapK b s es)) :
  ∃u,(Instr.lookup t (.map (some b)) (kvK q) ok).run P x.w=.ok u x.w∧D x (match ok with
   | true=>.tuple [valK s ((kget es q).getD z),.dat (.bool (kget es q).isSome)]
   | false=>valK s ((kget es q).getD z)) u:=by
 obtain⟨et,i,zv,h1,h3,h4,h5⟩:=pkT_und ht
 obtain⟨ms,c,k1,k2,k3⟩:=hs
 obtain⟨lit,g1,g2⟩:=goodK_of (hK.2 q hq)
 have hzv:∀w,(zeroValue et).run P w=.ok zv w:=fun w=>by simp[zeroValue,run_typeInfo w h3,h4]
 have key:∃u,(Instr.lookup t (.map (some b)) (kvK q) ok).run P x.w=.ok (if ok then .tuple #[u,.bool (kget es q).isSome] else u) x.w∧RdK x s ((kget es q).getD z) u:=by
  rcases hK.1.find x.w g1 ms.toList (fun e he=>by obtain⟨s,h3,_⟩:=goodK_of (k2.good hK e he);exact⟨_,h3⟩) with⟨e1,e2⟩|⟨j,e,e1,e2,e3⟩
  ·refine⟨zv,?_,?_⟩
   ·rw[k2.nofind e2]
    cases ok<;>simp[Instr.lookup,run_underlying h1,MapKept.run_getObj_map k1,hK.1.check x.w _ g1,e1,hzv,Result.andThen]
   ·rw[k2.nofind e2];exact h5 x
  ·obtain⟨l,r1,r2⟩:=k2.at k3.2.2 e2 e3
   refine⟨e.val,?_,?_⟩
   ·rw[r1]
    cases ok<;>simp[Instr.lookup,run_underlying h1,MapKept.run_getObj_map k1,hK.1.check x.w _ g1,e1,Result.andThen]
   ·rw[r1];exact r2
 obtain⟨u,e1,e2⟩:=key
 refine⟨_,e1,?_⟩
 cases ok
 ·simp only[Bool.false_eq_true,if_false];exact valK_ok e2
 ·simp only[D,if_true]
  exact⟨_,rfl,by simp[Ds,D,RdL];exact valK_ok e2⟩
theorem update_mapK {x:X}{H:Heap}{g b t:Nat}{kt:TypeId}{s:Bool}{z l:List L}{q:KeyK}{v:Value}{es:List (KeyK×List L)}(ht:pkT P t=some (kt,s,z)) (hK:KeyP P kt) (hq:okK q) (hi:Inv x ((g,.mapK b s es)::H)) (hl:RdK x s l v) :
  ∃y:X,(Instr.mapUpdate t (.map (some b)) (kvK q) v).run P x.w=.ok () y.w∧x.le y∧Inv y ((g,.mapK b s (kput es q l))::H):=by
 obtain⟨et,i,zv,h1,h3,h4,h5⟩:=pkT_und ht
 have hs:=hi.sat (g,.mapK b s es) (by simp)
 have hown:=hi.own (g,.mapK b s es) (by simp) b rfl
 obtain⟨ms,c,k1,k2,k3⟩:=hs
 obtain⟨lit,g1,g2⟩:=goodK_of (hK.2 q hq)
 have fin:∀(ms':Array MapEntry) (c':Nat),MapK x s (kput es q l) ms'.toList->MapKept.Stamped ms' c' ->
   ∃y:X,y.w={ x.w with heap:=x.w.heap.setIfInBounds b (.map ms' c') }∧x.le y∧Inv y ((g,.mapK b s (kput es q l))::H):=by
  intro ms' c' e1 e2
  have hle:x.le ⟨{ x.w with heap:=x.w.heap.setIfInBounds b (.map ms' c') },x.ok⟩:=
   ⟨fun k hk=>⟨hk,by simp[Array.getElem?_setIfInBounds_ne (show b≠k from fun e=>hown.2 (e▸hk))]⟩,rfl,rfl,rfl,by simp,Nat.le_refl _⟩
  refine⟨⟨_,x.ok⟩,rfl,hle,hi.turn (g':=g) (e':=.mapK b s (kput es q l)) hle (fun k hk=>by simpa using hi.bd k hk) (fun k hk=>.inl hk) ?_ ?_ ?_⟩
  ·exact⟨ms',c',(MapKept.heap_set k1).1,MapK.mono hle _ _ e1,e2⟩
  ·intro k hk
   simp only[Ent.own]at hk
   subst hk
   exact⟨.inl rfl,by simpa using hown.1⟩
  ·intro k _ hk
   exact (MapKept.heap_set k1).2 k fun e=>hk e
 rcases hK.1.find x.w g1 ms.toList (fun e he=>by obtain⟨s,h3,_⟩:=goodK_of (k2.good hK e he);exact⟨_,h3⟩) with⟨e1,e2⟩|⟨j,m,e1,e2,e3⟩
 ·obtain⟨y,f1,f2,f3⟩:=fin (ms.push { key:=kvK q,val:=v,born:=c }) (c+1) (by simpa using MapK.push hq hl k2 (k2.nofind e2)) (MapKept.stamped_push k3 e2)
  refine⟨y,?_,f2,f3⟩
  rw[f1]
  simp[Instr.mapUpdate,run_underlying h1,MapKept.run_getObj_map k1,hK.1.check x.w false g1,e1,MapKept.run_setObj_map _ k1,Result.andThen]
 ·have hj:ms[j]?=some m:=by simpa using e2
  have hkey:∀e',ms[j]?=some e'->({ e' with key:=kvK q,val:=v }:MapEntry).key=e'.key:=fun e' he'=>by rw[hj]at he';cases he';exact e3.symm
  obtain⟨y,f1,f2,f3⟩:=fin (ms.modify j fun e=>{ e with key:=kvK q,val:=v }) c (by
   have:=MapK.put hl k2 k3.2.2 e2 e3
   simpa [Array.toList_modify]using this) (MapKept.stamped_modify k3 _ _ (fun _ _=>rfl) (fun e' _ he'=>hkey e' he'))
  refine⟨y,?_,f2,f3⟩
  rw[f1]
  simp[Instr.mapUpdate,run_underlying h1,MapKept.run_getObj_map k1,hK.1.check x.w false g1,e1,hj,e3,hK.1.stays x.w g1,MapKept.run_setObj_map _ k1,Result.andThen]
theorem MapP.length {α:Type}{p:α->Value->Prop}:∀ {es:List (L×α)}{ms:List MapEntry},MapP p es ms->ms.length=es.length
 | [],[],_=>rfl
 | _::_,_::_,h=>by simp only[MapP]at h;simp[MapP.length h.2.2]
 | [],_::_,h=>by simp[MapP]at h
 | _::_,[],h=>by simp[MapP]at h
def valM:Option MapEntry->Value
 | some e=>e.val
 | none=>.slice none 0 0
def isHd (v:Value):Prop:=∃a n c,v=.slice a n c
def heapF (P:Program) (u:Value) (b:Nat) (τ:Nat) (E:Env) (G:Nat->Option Ent):Op->Option (Prop×A×Option (Nat×Ent))
 | .load t x=>match st (ev E x) with
  | (p,.ptr g b off)=>match G g with
   | some (.box b' cs)=>match cellsA P t off cs with
    | some (q,a)=>some (p∧b'=b∧q,a,none)
    | none=>none
   | none=>match tabF b with
    | some ls=>match loadA P t (.rptr (ls.drop off)) with
     | some (q,a)=>some (p∧q,a,none)
     | none=>none
    | none=>none
   | _=>none
  | (p,.eptr g h sz i j)=>match G g with
   | some (.seq h' _ sz' rows)=>match rows[i]? with
    | some r=>match cellsA P t j r with
     | some (q,a)=>some (p∧h'=h∧sz'=sz∧q,a,none)
     | none=>none
    | none=>none
   | _=>none
  | _=>none
 | .store t x v=>match st (ev E x),stR (ev E v) with
  | (p,.ptr g b off),(q,a)=>match G g,flatA a with
   | some (.box b' cs),some us=>some (p∧q∧b'=b∧tk P t≠0∧us.length=szT P t∧off+us.length<=cs.length∧us.all one1=true,.undef,
     some (g,.box b (splice cs off us)))
   | _,_=>none
  | (p,.eptr g h sz i j),(q,a)=>match G g,flatA a with
   | some (.seq h' e sz' rows),some us=>match rows[i]? with
    | some r=>some (p∧q∧h'=h∧sz'=sz∧tk P t≠0∧us.length=szT P t∧j+us.length<=sz∧us.all one1=true,.undef,
      some (g,.seq h e sz (rows.set i (splice r j us))))
    | none=>none
   | _,_=>none
  | _,_=>none
 | .alloc t=>some ((P.info? t).any (·.zero.isSome)=true,.ptr τ b 0,some (τ,.box b ((zrT P t).map kA)))
 | .box _ x=>match st (ev E x) with
  | (p,a)=>match flatA a with
   | some cs=>some (p,.ptr τ b 0,some (τ,.box b cs))
   | none=>none
 | .buildSlice t n ps=>match slT P t with
  | some e=>some (n=0∧ps.toList=[]∧elOK P e,.own τ u,some (τ,.seq u e (szT P e) []))
  | none=>none
 | .makeSlice t l c=>match slT P t,st (ev E l),st (ev E c) with
  | some e,(p,.dat (.int _ n)),(q,.dat (.int _ m))=>some (p∧q∧elOK P e∧n=m∧0<=n∧n<=4294967296,.own τ u,
    some (τ,.seq u e (szT P e) (List.replicate n.toNat ((zrT P e).map kA))))
  | _,_,_=>none
 | .indexAddr t x i=>match st (ev E x),st (ev E i),slT P t with
  | (p,.own g h),(q,.dat (.int _ n)),some e=>match G g with
   | some (.seq h' _ sz rows)=>some (p∧q∧h'=h∧tk P e≠0∧szT P e=sz∧0<=n∧n<rows.length,.eptr g h sz n.toNat 0,none)
   | _=>none
  | _,_,_=>none
 | .makeMap t none=>match mpT P t with
  | some (d,_)=>some (True,.map τ b,some (τ,.map b d []))
  | none=>match msT P t with
   | some (d,_)=>some (True,.map τ b,some (τ,.mapS b d []))
   | none=>match pkT P t with
    | some (_,s,_)=>some (True,.map τ b,some (τ,.mapK b s []))
    | none=>some ((rmT P t).isSome=true,.map τ b,some (τ,.raw b (.map #[] 0)))
 | .lookup t x i ok=>match mpT P t,st (ev E x),st (ev E i) with
  | some (d,z),(p,.map g r),(q,.dat l)=>match G g with
   | some (.map b' d' es)=>some (p∧q∧b'=r∧d'=d∧isKL d l=true,(match ok with
    | true=>.tuple [.dat ((mget es l).getD z),.dat (.bool (mget es l).isSome)]
    | false=>.dat ((mget es l).getD z)),none)
   | _=>none
  | none,(p,.map g r),(q,a)=>match G g,keyA a,rmT P t,ok with
   | some (.raw b' (.map ms c)),some key,some kt,false=>some (p∧q∧b'=r∧goodM P kt ms c∧goodK P kt key∧isHd (valM (findM P kt ms.toList key)),.own 90 (valM (findM P kt ms.toList key)),none)
   | some (.mapS b' d' es),_,_,ok=>match msT P t,a with
    | some (d,z),.dat l=>some (p∧q∧b'=r∧d'=d∧isKL d l=true,(match ok with
     | true=>.tuple [.record ((mget es l).getD z),.dat (.bool (mget es l).isSome)]
     | false=>.record ((mget es l).getD z)),none)
    | _,_=>none
   | some (.mapK b' s' es),_,_,ok=>match pkT P t,keyP a with
    | some (kt,s,z),some k=>some (p∧q∧b'=r∧s'=s∧KeyP P kt∧okK k,(match ok with
     | true=>.tuple [valK s ((kget es k).getD z),.dat (.bool (kget es k).isSome)]
     | false=>valK s ((kget es k).getD z)),none)
    | _,_=>none
   | _,_,_,_=>none
  | _,_,_=>none
 | .mapUpdate t m k v=>match mpT P t,st (ev E m),st (ev E k) with
  | some (d,_),(p,.map g r),(q,.dat l)=>match G g,st (ev E v) with
   | some (.map b' d' es),(q2,av)=>match asL av with
    | some [lv]=>some (p∧q∧q2∧b'=r∧d'=d∧isKL d l=true∧one1 av=true,.undef,some (g,.map b' d' (mput es l lv)))
    | _=>none
   | _,_=>none
  | none,(p,.map g r),(q,a)=>match G g,keyA a,rmT P t,st (ev E v) with
   | some (.raw b' (.map ms c)),some key,some kt,(q2,av)=>match hdrA av with
    | some h=>some (p∧q∧q2∧b'=r∧goodM P kt ms c∧goodK P kt key,.undef,some (g,.raw b' (.map (putM P kt ms c key h).1 (putM P kt ms c key h).2)))
    | none=>none
   | some (.mapS b' d' es),_,_,(q2,av)=>match msT P t,a,av with
    | some (d,_),.dat l,.record lv=>some (p∧q∧q2∧b'=r∧d'=d∧isKL d l=true,.undef,some (g,.mapS b' d' (mput es l lv)))
    | _,_,_=>none
   | some (.mapK b' s' es),_,_,(q2,av)=>match pkT P t,keyP a with
    | some (kt,s,_),some k=>match setK s av with
     | some lv=>some (p∧q∧q2∧b'=r∧s'=s∧KeyP P kt∧okK k,.undef,some (g,.mapK b' s' (kput es k lv)))
     | none=>none
    | _,_=>none
   | _,_,_,_=>none
  | _,_,_=>none
 | .insert t m k v=>match mpT P t,st (ev E m),st (ev E k) with
  | some (d,_),(p,.map g r),(q,.dat l)=>match G g,st (ev E v) with
   | some (.map b' d' es),(q2,av)=>match asL av with
    | some [lv]=>some (p∧q∧q2∧b'=r∧d'=d∧isKL d l=true∧one1 av=true,.undef,some (g,.map b' d' (mput es l lv)))
    | _=>none
   | _,_=>none
  | _,_,_=>none
 | .mapEntry t m k=>match mpT P t,st (ev E m),st (ev E k) with
  | none,(p,.map g r),(q,a)=>match G g,keyA a,rmT P t with
   | some (.raw b' (.map ms c)),some key,some kt=>some (p∧q∧b'=r∧goodM P kt ms c∧goodK P kt key∧isHd (entM P kt ms c key).2.2.1,.tuple [.own 90 (entM P kt ms c key).2.2.1,.dat (.int .i64 ((entM P kt ms c key).2.2.2:Nat))],
     some (g,.raw b' (.map (entM P kt ms c key).1 (entM P kt ms c key).2.1)))
   | _,_,_=>none
  | _,_,_=>none
 | .entryStore _ m s v=>match st (ev E m),st (ev E s) with
  | (p,.map g r),(q,.dat (.int _ n))=>match G g,st (ev E v) with
   | some (.raw b' (.map ms c)),(q2,av)=>match hdrA av with
    | some h=>some (p∧q∧q2∧b'=r∧hasB ms n,.undef,some (g,.raw b' (.map (setB ms n h) c)))
    | none=>none
   | _,_=>none
  | _,_=>none
 | .range t x=>match st (ev E x) with
  | (p,.dat (.str s))=>some (p∧isStr P t=true,.ptr τ b 0,some (τ,.raw b (.stringIter ⟨s.toArray⟩ 0)))
  | (p,.map g r)=>match G g with
   | some (.raw b' (.map _ c))=>some (p∧b'=r∧(mpT P t).isSome=true,.ptr τ b 0,some (τ,.raw b (.mapIter (some r) c #[] c)))
   | _=>none
  | _=>none
 | .entry x=>match st (ev E x) with
  | (p,.ptr g b1 0)=>match G g,G 89 with
   | some (.raw b' (.mapIter (some m) _ seen last)),some (.raw b2 (.map ms c))=>match standM ms seen with
    | some e=>match vL e.key,vL e.val with
     | some k,some v=>some (p∧b'=b1∧b2=m∧c=last,.tuple [.dat k,.dat v],none)
     | _,_=>none
    | none=>none
   | _,_=>none
  | _=>none
 | .next x isS=>match st (ev E x) with
  | (p,.ptr g b1 0)=>match G g with
   | some (.raw b' (.stringIter s pos))=>if pos<s.size then some (p∧b'=b1∧isS=true,.tuple [.dat (.bool true),.dat (.int .i64 pos),.dat (.int .i32 (Utf8.decode s pos).1)],some (g,.raw b' (.stringIter s (pos+(Utf8.decode s pos).2))))
    else some (p∧b'=b1∧isS=true,.tuple [.dat (.bool false)],none)
   | _=>none
  | _=>none
 | .slice t x lo hi none=>match st (ev E x),slT P t with
  | (p,.own g h),some e=>match G g with
   | some (.seq h' e' sz rows)=>match boundA 0 (opt E lo),boundA rows.length (opt E hi) with
    | some (q1,l),some (q2,k)=>some (p∧optp E lo∧optp E hi∧q1∧q2∧h'=h∧e'=e∧sz=szT P e∧tk P e≠0∧szT P e≠0∧l=0∧k<=rows.length,.own g u,some (g,.seq u e (szT P e) (rows.take k)))
    | _,_=>none
   | _=>none
  | _,_=>none
 | .call c=>match c.callee,c.args.toList,c.argTypes.toList with
  | .builtin .len,[x],[t]=>match st (ev E x),slT P t with
   | (p,.own g h),some _=>match G g with
    | some (.seq h' _ _ rows)=>some (p∧h'=h,.dat (.int .i64 rows.length),none)
    | _=>none
   | (p,.map g r),none=>match G g with
    | some (.map b' _ es)=>some (p∧b'=r∧(mpT P t).isSome=true,.dat (.int .i64 es.length),none)
    | _=>none
   | _,_=>none
  | .builtin .append,[x,y],[t,t']=>match slT P t,st (ev E x),st (ev E y) with
   | some e,(p,.nils),(q,.dat (.sl ys))=>some (p∧q∧t'=t∧elOK P e∧rl ys (szT P e)∧ys.length<=4294967296,.own τ u,
     some (τ,.seq u e (szT P e) (ys.map (·.map .dat))))
   | some e,(p,.nils),(q,.dat (.int k n))=>some (p∧q∧(intT P t').isSome=true∧k=.i64∧elOK P e∧0<n∧n<=4294967296,.own τ u,
     some (τ,.seq u e (szT P e) (List.replicate n.toNat ((zrT P e).map kA))))
   | some e,(p,.nils),(q,.own g' h1)=>match G g' with
    | some (.seq h1' e1 sz1 rows1)=>some (p∧q∧t'=t∧h1'=h1∧e1=e∧sz1=szT P e∧elOK P e∧rows1.flatten.all one1=true∧rows1.length<=4294967296,.own τ u,
     some (τ,.seq u e (szT P e) rows1))
    | _=>none
   | some e,(p,.own g h),(q,.own g' h1)=>match G g,G g' with
    | some (.seq h' e' sz rows),some (.seq h1' e1 sz1 rows1)=>some (p∧q∧g≠g'∧t'=t∧h'=h∧e'=e∧sz=szT P e∧h1'=h1∧e1=e∧sz1=szT P e∧elOK P e∧rows1.flatten.all one1=true∧rows.length+rows1.length<=4294967296,.own g u,
     some (g,.seq u e (szT P e) (rows++rows1)))
    | _,_=>none
   | some e,(p,.own g h),(q,.dat (.sl ys))=>match G g with
    | some (.seq h' e' sz rows)=>some (p∧q∧t'=t∧h'=h∧e'=e∧sz=szT P e∧elOK P e∧rl ys (szT P e)∧rows.length+ys.length<=4294967296,.own g u,
      some (g,.seq u e (szT P e) (rows++ys.map (·.map .dat))))
    | _=>none
   | _,_,_=>none
  | _,_,_=>none
 | _=>none
def happ:Option (Nat×Ent)->Heap->Heap
 | none,H=>H
 | some (t,e),H=>match hget t H with
  | some _=>hset t e H
  | none=>(t,e)::H
theorem loadRow {x:X}{h:Value}{e sz i j t:Nat}{rows:List (List A)}{r:List A}{a:A}{q:Prop}(hs:Ent.sat x (.seq h e sz rows)) (hr:rows[i]?=some r)
  (hc:cellsA P t j r=some (q,a)) (hq:q) {v:Value}(hv:D x (.eptr 0 h sz i j) v):∃u,(Instr.loadAt t v).run P x.w=.ok u x.w∧D x a u:=by
 simp only[D]at hv
 obtain⟨b,off,n,cap,rfl,rfl⟩:=hv
 obtain⟨xs,ho,hrl,hd⟩:=hs
 obtain⟨h1,h2⟩:=ho
 rcases h2 with⟨e1,_⟩|⟨g,cap1,cur,e1,_,hg,h5,_,h7,htake⟩
 ·cases e1
 ·cases e1
  -- the row's cells lie at i*sz
  have hi:i<rows.length:=by
   rcases Nat.lt_or_ge i rows.length with h | h
   ·exact h
   ·rw[List.getElem?_eq_none h]at hr;cases hr
  have hflat:∀(l:List (List A)) (k:Nat) (r:List A),(∀r∈l,r.length=sz)->l[k]?=some r->∃tl,l.flatten.drop (k*sz)=r++tl:=by
   intro l
   induction l with
   | nil=>intro k r _ h;simp at h
   | cons a l ih=>
    intro k r hl hk
    have ha:=hl a (by simp)
    cases k with
    | zero=>simp at hk;subst hk;exact⟨l.flatten,by simp⟩
    | succ k=>
     simp at hk
     obtain⟨tl,h⟩:=ih k r (fun r hr=>hl r (by simp[hr])) hk
     refine⟨tl,?_⟩
     rw[List.flatten_cons,Nat.succ_mul,Nat.add_comm,<- ha,List.drop_length_add_append,ha]
     exact h
  obtain⟨tl,hfl⟩:=hflat rows i r hrl hr
  have hdd:=hd.drop (i*sz)
  rw[hfl,<- htake]at hdd
  have hrlen:r.length=sz:=hrl r (List.mem_of_getElem? hr)
  have htk:Ds x r (((cur.toList.drop (i*sz))).take sz):=by
   have:=hdd.take sz
   rw[<- hrlen,List.take_left,hrlen,List.drop_take,List.take_take]at this
   rw[Nat.min_eq_left]at this
   ·exact this
   ·have:=Nat.mul_le_mul_right sz (show i+1<=rows.length from hi)
    rw[Nat.add_mul,Nat.one_mul]at this
    omega
  obtain⟨u,k1,k2⟩:=loadCells_ok hg (k:=i*sz) htk (fun j v hj=>by
   rw[List.getElem?_take]at hj
   split at hj
   ·simpa using hj
   ·cases hj) hc hq
  exact⟨u,by simpa [Instr.loadAt,Instr.sureAddr]using k1,k2⟩
theorem hget_sat {x:X}{H H0:Heap}{g:Nat}{e:Ent}(hi:Inv x (H++H0)) (h:hget g H=some e):e.sat x:=
 hi.sat (g,e) (List.mem_append.2 (.inl (hget_mem h)))
theorem hget_app {H H0:Heap}{g:Nat}{e:Ent}:hget g H=some e->hget g (H++H0)=some e:=by
 induction H with
 | nil=>intro h;simp[hget]at h
 | cons p r ih=>
  obtain⟨t,e'⟩:=p
  simp only[hget,List.cons_append]
  split
  ·exact id
  ·exact ih
theorem hset_app {H H0:Heap}{g:Nat}{e e':Ent}:hget g H=some e->hset g e' (H++H0)=hset g e' H++H0:=by
 induction H with
 | nil=>intro h;simp[hget]at h
 | cons p r ih=>
  obtain⟨t,e1⟩:=p
  simp only[hget,hset,List.cons_append]
  split
  ·intro _;rfl
  ·intro h;simp[ih h]
theorem splice_left {α:Type}{a b us:List α}{j:Nat}(h:j+us.length<=a.length):splice (a++b) j us=splice a j us++b:=by
 unfold splice
 rw[List.take_append_of_le_length (by omega),List.drop_append_of_le_length (by omega)]
 simp
theorem splice_right {α:Type}{a b us:List α}{m:Nat}:splice (a++b) (a.length+m) us=a++splice b m us:=by
 unfold splice
 rw[List.take_length_add_append,Nat.add_assoc,List.drop_length_add_append]
 simp
theorem splice_length {α:Type}{a us:List α}{j:Nat}(h:j+us.length<=a.length):(splice a j us).length=a.length:=by
 unfold splice
 simp
 omega
theorem splice_take {α:Type}{l us:List α}{off N:Nat}(h1:off+us.length<=N) (h2:N<=l.length):(splice l off us).take N=splice (l.take N) off us:=by
 have e:l=l.take N++l.drop N:=(List.take_append_drop N l).symm
 have hl:(l.take N).length=N:=by simp;omega
 have hs:=splice_left (a:=l.take N) (b:=l.drop N) (us:=us) (j:=off) (by rw[hl];exact h1)
 rw[<- e]at hs
 rw[hs]
 have hl2:(splice (l.take N) off us).length=N:=by rw[splice_length (by rw[hl];exact h1),hl]
 rw[List.take_append_of_le_length (by omega),List.take_of_length_le (by omega)]
theorem flatten_set {us r:List A}{sz j:Nat}(hj:j+us.length<=sz):∀(rows:List (List A)) (i:Nat),(∀r∈rows,r.length=sz)->rows[i]?=some r ->
  splice rows.flatten (i*sz+j) us=(rows.set i (splice r j us)).flatten
 | [],_,_,h=>by simp at h
 | a::l,0,hl,h=>by
  simp at h;subst h
  have ha:=hl a (by simp)
  simp only[Nat.zero_mul,Nat.zero_add,List.flatten_cons,List.set_cons_zero]
  exact splice_left (by omega)
 | a::l,i+1,hl,h=>by
  simp at h
  have ha:=hl a (by simp)
  have ih:=flatten_set hj l i (fun r hr=>hl r (by simp[hr])) h
  simp only[List.flatten_cons,List.set_cons_succ]
  rw[<- ih,Nat.succ_mul,show i*sz+sz+j=a.length+(i*sz+j) by omega]
  exact splice_right
theorem store_row {x:X}{H:Heap}{g i j e sz:Nat}{h:Value}{rows:List (List A)}{r us:List A}{t:TypeId}{v pv:Value}(hi:Inv x H) (hg:hget g H=some (.seq h e sz rows))
  (hr:rows[i]?=some r) (ht:tk P t≠0) (hp:D x (.eptr g h sz i j) pv) (hu:Ds x us v.cells.toList) (h1s:us.all one1=true) (hl:us.length=szT P t) (hjl:j+us.length<=sz) :
  ∃y:X,(Instr.storeAt t pv v).run P x.w=.ok () y.w∧x.le y∧Inv y (hset g (.seq h e sz (rows.set i (splice r j us))) H):=by
 simp only[D]at hp
 obtain⟨b,off,nn,cap,e1,e2⟩:=hp
 have hi1:=hi.perm (hdel_perm hg).symm
 obtain⟨xs,⟨ho1,ho2⟩,hrl,hdx⟩:=hi1.sat (g,.seq h e sz rows) (by simp)
 subst e1
 rcases ho2 with⟨e3,_⟩|⟨g1,cap1,cur,e3,hb0,hg1,h5,h6,h7,htake⟩
 ·cases e3
 ·cases e3
  have hown:=hi1.own (g,.seq (.slice (some ⟨b,0,none⟩) rows.length cap) e sz rows) (by simp) b rfl
  have hil:i<rows.length:=by
   rcases Nat.lt_or_ge i rows.length with h | h
   ·exact h
   ·rw[List.getElem?_eq_none h]at hr;cases hr
  have hrlen:r.length=sz:=hrl r (List.mem_of_getElem? hr)
  have hmul:=Nat.mul_le_mul_right sz (show i+1<=rows.length from hil)
  have hmul2:=Nat.mul_le_mul_right sz h5
  rw[Nat.add_mul,Nat.one_mul]at hmul
  have hul:=hu.length
  have hcs:i*sz+j+us.length<=rows.length*sz:=by omega
  have hcl:cur.toList.length=cap*sz:=by simpa using h7
  have hrun:=run_storeVar' ht hg1 (v:=v) (off:=i*sz+j) (by rw[hul];exact hl) (by rw[hul,h7];omega) (ones_ok h1s hu)
  have hle:=X.row_le (x:=x) (b:=b) (splice cur.toList (i*sz+j) v.cells.toList).toArray hown.2
  have hsp:=flatten_set hjl rows i hrl hr
  have hlen':(rows.set i (splice r j us)).length=rows.length:=by simp
  have hspl:(splice r j us).length=sz:=by rw[splice_length (by omega),hrlen]
  refine⟨x.row b (splice cur.toList (i*sz+j) v.cells.toList).toArray,?_,hle,?_⟩
  ·rw[e2]
   simp only[Instr.storeAt,Instr.sureAddr,Sem.run_bind,Sem.run_pure,Result.andThen_ok]
   rw[show 0+i*sz+j=i*sz+j by omega]
   exact hrun
  ·refine (hi1.turn (g':=g) (e':=.seq (.slice (some ⟨b,0,none⟩) rows.length cap) e sz (rows.set i (splice r j us))) hle (fun k hk=>by simpa [X.row]using hi.bd k hk) (fun k hk=>.inl hk) ?_ ?_ ?_).perm (hset_perm hg).symm
   ·refine⟨splice xs (i*sz+j) v.cells.toList,⟨?_,.inr ⟨b,cap,(splice cur.toList (i*sz+j) v.cells.toList).toArray,by rw[hlen'],hb0,setRow_heap _ _ _ _ _ _ hg1,by rw[hlen'];exact h5,h6,?_,?_⟩⟩,?_,?_⟩
    ·rw[splice_length (by rw[ho1,hul];exact hcs),ho1,hlen']
    ·simp only[List.size_toArray]
     rw[splice_length (by rw[hul,hcl];omega),hcl]
    ·rw[hlen']
     simp only[]
     rw[splice_take (by rw[hul];exact hcs) (by rw[hcl];exact hmul2),htake]
    ·intro r' hr'
     rcases List.mem_or_eq_of_mem_set hr' with h | h
     ·exact hrl r' h
     ·rw[h];exact hspl
    ·rw[<- hsp]
     exact (hdx.splice hu).mono hle
   ·intro k hk
    exact⟨.inl hk,by
     simp only[Ent.own,Value.ownBlock,Option.some.injEq]at hk
     subst hk
     simpa [X.row]using hown.1⟩
   ·intro k _ hk
    refine setRow_other _ _ _ _ fun ee=>hk ?_
    subst ee
    rfl
theorem madeCells_rows (z:Array Value) (hz:0<z.size):∀n:Nat,(madeCells z (n*z.size)).toList=(List.replicate n z.toList).flatten
 | 0=>by simp[madeCells]
 | n+1=>by
  have ih:=madeCells_rows z hz n
  simp only[madeCells,Array.toList_map,Array.toList_range]at ih ⊢
  rw[Nat.succ_mul,List.range_add,List.map_append,ih,List.replicate_succ',List.flatten_append]
  congr 1
  simp only[List.map_map,List.flatten_cons,List.flatten_nil,List.append_nil]
  apply List.ext_getElem
  ·simp
  ·intro j h1 h2
   simp only[List.length_map,List.length_range]at h1
   simp only[List.getElem_map,List.getElem_range,Function.comp,Array.getElem_toList]
   rw[show (n*z.size+j) % z.size=j by rw[Nat.mul_comm,Nat.mul_add_mod];exact Nat.mod_eq_of_lt h1]
   simp[h1]
theorem happ_new {x:X}{H H0:Heap}{t:Nat}{e:Ent}(h:Inv x ((t,e)::(H++H0))):Inv x (happ (some (t,e)) H++H0):=by
 unfold happ
 simp only
 cases hg:hget t H with
 | none=>exact h
 | some e'=>
  simp only[]
  have hp:=hset_perm (e':=e) (hget_app (H0:=H0) hg)
  rw[hset_app hg]at hp
  refine (h.sub ?_).perm hp.symm
  have:∀ {K:Heap},hget t K=some e'->(hdel t K).Sublist K:=by
   intro K
   induction K with
   | nil=>intro h;simp[hget]at h
   | cons p r ih=>
    obtain⟨s,e1⟩:=p
    simp only[hget,hdel]
    split
    ·intro _;exact List.sublist_cons_self _ _
    ·intro h;exact (ih h).cons_cons _
  exact (this (hget_app hg)).cons_cons _
theorem happ_set {H:Heap}{t:Nat}{e e':Ent}(h:hget t H=some e'):happ (some (t,e)) H=hset t e H:=by
 simp[happ,h]
theorem raw_turn {x:X}{H H0:Heap}{g b:Nat}{o o':Obj}(hi:Inv x (H++H0)) (hg:hget g H=some (.raw b o)) :
  x.le ⟨{ x.w with heap:=x.w.heap.setIfInBounds b o' },x.ok⟩∧Inv ⟨{ x.w with heap:=x.w.heap.setIfInBounds b o' },x.ok⟩ (happ (some (g,.raw b o')) H++H0):=by
 have hs:x.w.heap[b]?=some o:=hget_sat hi hg
 have hi1:=hi.perm (hdel_perm (hget_app (H0:=H0) hg)).symm
 have hown:=hi1.own (g,.raw b o) (by simp) b rfl
 have hle:x.le ⟨{ x.w with heap:=x.w.heap.setIfInBounds b o' },x.ok⟩:=
  ⟨fun k hk=>⟨hk,by simp[Array.getElem?_setIfInBounds_ne (show b≠k from fun e=>hown.2 (e▸hk))]⟩,rfl,rfl,rfl,by simp,Nat.le_refl _⟩
 have k3:Inv ⟨{ x.w with heap:=x.w.heap.setIfInBounds b o' },x.ok⟩ ((g,.raw b o')::hdel g (H++H0)):=by
  refine hi1.turn (g':=g) hle (fun k hk=>by simpa using hi.bd k hk) (fun k hk=>.inl hk) ?_ ?_ ?_
  ·exact (MapKept.heap_set hs).1
  ·intro k hk
   simp only[Ent.own]at hk
   subst hk
   exact⟨.inl rfl,by simpa using hown.1⟩
  ·intro k _ hk
   exact (MapKept.heap_set hs).2 k fun e=>hk e
 have k4:=k3.perm (hset_perm (hget_app (H0:=H0) hg)).symm
 rw[hset_app hg,<- happ_set hg]at k4
 exact⟨hle,k4⟩
theorem heapF_ok {o:Oper}{E:Env}{G:Nat->Option Ent}{τ:Nat}(h:∀u b,∃p a ch,heapF P u b τ E G o.op=some (p,a,ch)∧p) {n:Nat}{ds:List Deferred}{x:X}{act:Act}{H H0:Heap}
  (hG:∀t,G t=hget t H) (hi:Inv x (H++H0)) (he:EnvOK n ds x act E) :
  ∃u b v y p a ch,heapF P u b τ E G o.op=some (p,a,ch)∧p∧((execOp act.eval o).run P x.w=.ok (.value v) y.w∨((execOp act.eval o).run P x.w=.ok .skip y.w∧v=Go.undef)) ∧
   x.le y∧Inv y (happ ch H++H0)∧D y a v:=by
 obtain⟨dst,op,type,pos,after,guard⟩:=o
 have v1:∀ {s:Sem Value}{u:Value}{w:World},s.run P x.w=.ok u w->(do pure (Next.value (<- s)):Sem Next).run P x.w=.ok (.value u) w:=by
  intro s u w hs;simp[hs]
 obtain⟨p0,a0,c0,hh,hp0⟩:=h .nilIface 0
 have done:∀ {v:Value}{y:X},heapF P .nilIface 0 τ E G op=some (p0,a0,c0)->((execOp act.eval { dst,op,type,pos,after,guard }).run P x.w=.ok (.value v) y.w∨((execOp act.eval { dst,op,type,pos,after,guard }).run P x.w=.ok .skip y.w∧v=Go.undef)) ->
   x.le y->Inv y (happ c0 H++H0)->D y a0 v->∃u b v y p a ch,heapF P u b τ E G op=some (p,a,ch)∧p∧((execOp act.eval { dst,op,type,pos,after,guard }).run P x.w=.ok (.value v) y.w∨((execOp act.eval { dst,op,type,pos,after,guard }).run P x.w=.ok .skip y.w∧v=Go.undef)) ∧
   x.le y∧Inv y (happ ch H++H0)∧D y a v:=fun h1 h2 h3 h4 h5=>⟨_,_,_,_,_,_,_,h1,hp0,h2,h3,h4,h5⟩
 have hh0:=hh
 cases op<;>simp only[heapF,reduceCtorEq]at hh
 case load t y=>
  split at hh<;>try (simp at hh;done)
  ·rename_i p g b off hst
   split at hh<;>try (simp at hh;done)
   rotate_left
   ·rename_i hg
    split at hh<;>try (simp at hh;done)
    rename_i ls hls
    split at hh<;>try (simp at hh;done)
    rename_i q a hla
    simp only[Option.some.injEq,Prod.mk.injEq]at hh
    obtain⟨rfl,rfl,rfl⟩:=hh
    obtain⟨hp,hq⟩:=hp0
    have hd:=st_ok (ev_ok he y) (by rw[hst];exact hp)
    rw[hst]at hd
    simp only[D]at hd
    obtain⟨u,k1,k2⟩:=loadA_ok hla hq (x:=x) (v:=act.eval y) (by
     simp only[D]
     refine⟨b,off,hd,?_⟩
     have:=(tab_read hi.bd.tab hls).drop off
     simpa using this)
    exact done hh0 (.inl (v1 k1)) (.refl x) hi k2
   rename_i b' cs hg
   split at hh<;>try (simp at hh;done)
   rename_i q a hc
   simp only[Option.some.injEq,Prod.mk.injEq]at hh
   obtain⟨rfl,rfl,rfl⟩:=hh
   obtain⟨hp,rfl,hq⟩:=hp0
   rw[hG]at hg
   have hd:=st_ok (ev_ok he y) (by rw[hst];exact hp)
   rw[hst]at hd
   simp only[D]at hd
   obtain⟨c,ty,hhc,hdc⟩:=hget_sat hi hg
   obtain⟨u,k1,k2⟩:=loadCells_ok hhc (k:=0) hdc (fun j v hj=>by simpa using hj) hc hq
   exact done hh0 (.inl (v1 (by rw[hd];simpa [Instr.loadAt,Instr.sureAddr]using k1))) (.refl x) hi k2
  ·rename_i p g h' sz i j hst
   split at hh<;>try (simp at hh;done)
   rename_i h1 e sz' rows hg
   split at hh<;>try (simp at hh;done)
   rename_i r hr
   split at hh<;>try (simp at hh;done)
   rename_i q a hc
   simp only[Option.some.injEq,Prod.mk.injEq]at hh
   obtain⟨rfl,rfl,rfl⟩:=hh
   obtain⟨hp,rfl,rfl,hq⟩:=hp0
   rw[hG]at hg
   have hd:=st_ok (ev_ok he y) (by rw[hst];exact hp)
   rw[hst]at hd
   obtain⟨u,k1,k2⟩:=loadRow (hget_sat hi hg) hr hc hq (v:=act.eval y) (by simpa only[D]using hd)
   exact done hh0 (.inl (v1 k1)) (.refl x) hi k2
 case store t y z=>
  split at hh<;>try (simp at hh;done)
  ·rename_i p g b off q a hst1 hst2
   split at hh<;>try (simp at hh;done)
   rename_i b' cs us hg hf
   simp only[Option.some.injEq,Prod.mk.injEq]at hh
   obtain⟨rfl,rfl,rfl⟩:=hh
   obtain⟨hp,hq,rfl,ht,hl,hr,h1⟩:=hp0
   rw[hG]at hg
   have hd:=st_ok (ev_ok he y) (by rw[hst1];exact hp)
   rw[hst1]at hd
   simp only[D]at hd
   have hd2:=stR_ok (ev_ok he z) (by rw[hst2];exact hq)
   rw[hst2]at hd2
   obtain⟨w',k1,k2,k3⟩:=store_box hi (hget_app hg) ht (flatA_ok hf hd2) h1 hl hr
   rw[hset_app hg,<- happ_set hg]at k3
   exact done hh0 (.inr ⟨by simp[execOp,hd,Instr.storeAt,Instr.sureAddr,k1],rfl⟩) k2 k3 (by simp[D])
  ·rename_i p g h' sz i j q a hst1 hst2
   split at hh<;>try (simp at hh;done)
   rename_i h1 e sz' rows us hg hf
   split at hh<;>try (simp at hh;done)
   rename_i r hr
   simp only[Option.some.injEq,Prod.mk.injEq]at hh
   obtain⟨rfl,rfl,rfl⟩:=hh
   obtain⟨hp,hq,rfl,rfl,ht,hl,hjl,h1s⟩:=hp0
   rw[hG]at hg
   have hd:=st_ok (ev_ok he y) (by rw[hst1];exact hp)
   rw[hst1]at hd
   have hd2:=stR_ok (ev_ok he z) (by rw[hst2];exact hq)
   rw[hst2]at hd2
   obtain⟨y',k1,k2,k3⟩:=store_row hi (hget_app hg) hr ht hd (flatA_ok hf hd2) h1s hl hjl
   rw[hset_app hg,<- happ_set hg]at k3
   exact done hh0 (.inr ⟨by simp[execOp,k1],rfl⟩) k2 k3 (by simp[D])
 case alloc t=>
  simp only[Option.some.injEq,Prod.mk.injEq]at hh
  obtain⟨rfl,_,_⟩:=hh
  obtain⟨i,hinf,hz⟩:∃i,P.info? t=some i∧i.zero.isSome=true:=by
   cases hh:P.info? t with
   | none=>simp[hh]at hp0
   | some i=>exact⟨i,rfl,by simpa [hh]using hp0⟩
  obtain⟨z,hz⟩:=Option.isSome_iff_exists.1 hz
  have hzr:zrT P t=z.cells.toList:=by simp[zrT,hinf,hz]
  have hinv:=hi.box τ (cs:=(zrT P t).map kA) t (c:=z.cells) (by rw[hzr];exact Ds_kA x _)
  refine⟨.nilIface,x.w.heap.size,.pointer (some ⟨x.w.heap.size,0,none⟩),x.mk' (.cells z.cells t),_,_,_,rfl,hp0,.inl (v1 ?_),X.mk'_le _ _ hi.bd,happ_new hinv,by simp[D]⟩
  simp[Instr.alloc,zeroValue,run_typeInfo _ hinf,hz,newVar,newRow,X.mk']
 case box t y=>
  split at hh<;>try (simp at hh;done)
  rename_i cs hf
  simp only[Option.some.injEq,Prod.mk.injEq]at hh
  obtain⟨rfl,_,_⟩:=hh
  have hd:=st_ok (ev_ok he y) hp0
  have hinv:=hi.box τ (cs:=cs) t (c:=(act.eval y).cells) (flatA_ok hf hd)
  refine⟨.nilIface,x.w.heap.size,.pointer (some ⟨x.w.heap.size,0,none⟩),x.mk' (.cells (act.eval y).cells t),_,_,_,by simp only[heapF,hf];rfl,hp0,.inl (v1 ?_),X.mk'_le _ _ hi.bd,happ_new hinv,by simp[D]⟩
  simp[Instr.box,newVar,newRow,X.mk']
 case buildSlice t len ps=>
  split at hh<;>try (simp at hh;done)
  rename_i e hsl
  simp only[Option.some.injEq,Prod.mk.injEq]at hh
  obtain⟨rfl,_,_⟩:=hh
  obtain⟨rfl,hps,hel⟩:=hp0
  have hel0:=hel
  obtain rfl:ps=#[]:=by apply Array.ext';simpa using hps
  obtain⟨i,z,hinf,hz,hzs,hsz,hby⟩:=hel
  have htk:∀w,(sizeOf e).run P w=.ok i.size w:=fun w=>by simp[sizeOf,run_typeInfo w hinf]
  refine⟨.slice (some ⟨x.w.heap.size,0,none⟩) 0 0,0,.slice (some ⟨x.w.heap.size,0,none⟩) 0 0,x.mk' (.cells #[] e),_,_,_,by simp only[heapF,hsl];rfl,(show 0=0∧(#[]:Array (Nat×Operand)).toList=[]∧elOK P e from⟨rfl,hps,hel0⟩),.inl (v1 ?_),X.mk'_le _ _ hi.bd,happ_new ?_,?_⟩
  ·have h00:Array.range 0=#[]:=rfl
   simp[Instr.buildSlice,run_underlying (slT_und hsl),htk,Instr.fill,newRow,X.mk',h00]
  ·have le:=X.mk'_le x (.cells #[] e) hi.bd
   refine hi.fresh le (fun b hb=>Nat.lt_of_lt_of_le (hi.bd b hb) le.size) (fun b hb=>.inl hb) ?_ ?_ fun b hb=>heap_alloc_old _ _ hb
   ·refine⟨[],⟨by simp,.inr ⟨x.w.heap.size,0,#[],rfl,Nat.zero_le _,heap_alloc_new _ _,Nat.le_refl _,by simp[maxLen],by simp,by simp⟩⟩,by simp,by simp[Ds]⟩
   ·intro b hb
    simp only[Ent.own,Value.ownBlock,Option.some.injEq]at hb
    subst hb
    exact⟨Nat.le_refl _,fun hk=>absurd (hi.bd _ hk) (Nat.lt_irrefl _),by simp[X.mk']⟩
  ·simp[D]
 case makeSlice t l c=>
  split at hh<;>try (simp at hh;done)
  rename_i e p kl nn q kc m hsl hst1 hst2
  simp only[Option.some.injEq,Prod.mk.injEq]at hh
  obtain⟨rfl,_,_⟩:=hh
  have hp00:=hp0
  obtain⟨hp,hq,hel,rfl,h0,hmax⟩:=hp0
  obtain⟨i,z,hinf,hz,hzs,hsz,hby⟩:=hel
  have hd:=st_ok (ev_ok he l) (by rw[hst1];exact hp)
  rw[hst1]at hd
  have hd2:=st_ok (ev_ok he c) (by rw[hst2];exact hq)
  rw[hst2]at hd2
  simp only[D,RdL]at hd hd2
  obtain⟨N,rfl⟩:=Int.eq_ofNat_of_zero_le h0
  have hN:N<=4294967296:=by omega
  have hmx:N<=maxLen:=by simp only[maxLen];omega
  obtain⟨w',k1,k2,k3⟩:=run_make_full (P:=P) x.w 0 t e i z (szT P e) (slT_und hsl) hinf hz (elOK_sz hinf).symm kl kc N
   (by have:=Nat.mul_le_mul hby hN;omega) hmx (Nat.zero_le _)
  have hle:x.le ⟨w',x.ok⟩:=⟨fun b hb=>⟨hb,k3.block b (hi.bd b hb) (by simp)⟩,k3.os,k3.output,k3.tape,k3.size,Sem.run_drawn _ _ k1⟩
  have hzr:zrT P e=z.cells.toList:=by simp[zrT,hinf,hz]
  refine⟨.slice (some ⟨x.w.heap.size,0,none⟩) N N,0,_,⟨w',x.ok⟩,_,_,_,by simp only[heapF,hsl,hst1,hst2];rfl,hp00,.inl (v1 (by rw[hd,hd2];exact k1)),hle,happ_new ?_,by simp[D]⟩
  refine hi.fresh hle (fun b hb=>Nat.lt_of_lt_of_le (hi.bd b hb) hle.size) (fun b hb=>.inl hb) ?_ ?_ fun b hb=>k3.block b hb (by simp)
  ·refine⟨(madeCells z.cells (N*szT P e)).toList,by simpa using k2,?_,?_⟩
   ·intro r hr
    rw[List.eq_of_mem_replicate hr]
    simp[hzr,hzs,elOK_sz hinf]
   ·rw[hzr,elOK_sz hinf]
    rw[<- hzs,madeCells_rows z.cells (by omega) N]
    have hrep:∀n:Nat,Ds ⟨w',x.ok⟩ (List.replicate n (z.cells.toList.map kA)).flatten (List.replicate n z.cells.toList).flatten:=by
     intro n
     induction n with
     | zero=>simp[Ds]
     | succ n ih=>simp only[List.replicate_succ,List.flatten_cons];exact (Ds_kA _ _).append ih
    simpa using hrep N
  ·intro b hb
   simp only[Ent.own,Value.ownBlock,Option.some.injEq]at hb
   subst hb
   refine⟨Nat.le_refl _,fun hk=>absurd (hi.bd _ hk) (Nat.lt_irrefl _),?_⟩
   exact (k2.lt _ rfl).2
 case indexAddr t y i=>
  split at hh<;>try (simp at hh;done)
  rename_i p g hv q k nn e hst1 hst2 hsl
  split at hh<;>try (simp at hh;done)
  rename_i h1 e' sz rows hg
  simp only[Option.some.injEq,Prod.mk.injEq]at hh
  obtain⟨rfl,rfl,rfl⟩:=hh
  obtain⟨hp,hq,rfl,ht,rfl,hn0,hn1⟩:=hp0
  rw[hG]at hg
  have hd:=st_ok (ev_ok he y) (by rw[hst1];exact hp)
  rw[hst1]at hd
  have hd2:=st_ok (ev_ok he i) (by rw[hst2];exact hq)
  rw[hst2]at hd2
  simp only[D,RdL]at hd hd2
  obtain⟨xs,⟨ho1,ho2⟩,hrl,hdx⟩:=hget_sat hi hg
  rcases ho2 with⟨rfl,h0⟩|⟨g1,cap1,cur,rfl,_⟩
  ·omega
  ·refine done (v:=.pointer (some ⟨g1,nn.toNat*szT P e,none⟩)) (y:=x) hh0 (.inl (v1 ?_)) (.refl x) hi ?_
   ·rw[hd.1,hd2]
    simp[Instr.indexAt,asIntOf,run_underlying (slT_und hsl),hn0,hn1,run_sizeOf' ht,add_none]
   ·simp only[D]
    exact⟨g1,0,rows.length,cap1,rfl,by simp⟩
 case makeMap t r=>
  cases r<;>simp only[reduceCtorEq]at hh
  split at hh
  rotate_left
  ·rename_i hm
   split at hh
   ·rename_i d z hms
    simp only[Option.some.injEq,Prod.mk.injEq]at hh
    obtain⟨rfl,_,_⟩:=hh
    have le:=X.mk'_le x (.map #[] 0) hi.bd
    refine⟨.nilIface,x.w.heap.size,.map (some x.w.heap.size),x.mk' (.map #[] 0),_,_,_,by simp only[heapF,hm,hms];rfl,trivial,.inl (v1 ?_),le,happ_new ?_,by simp[D]⟩
    ·simp[Instr.makeMap,X.mk']
    ·refine hi.fresh le (fun b hb=>Nat.lt_of_lt_of_le (hi.bd b hb) le.size) (fun b hb=>.inl hb) ⟨#[],0,heap_alloc_new _ _,by simp[MapP],MapKept.stamped_empty 0,by simp⟩ ?_ fun b hb=>heap_alloc_old _ _ hb
     intro b hb
     simp only[Ent.own]at hb
     subst hb
     exact⟨Nat.le_refl _,fun hk=>absurd (hi.bd _ hk) (Nat.lt_irrefl _),by simp[X.mk']⟩
   rename_i hms
   split at hh
   ·rename_i kt s z hpk
    simp only[Option.some.injEq,Prod.mk.injEq]at hh
    obtain⟨rfl,_,_⟩:=hh
    have le:=X.mk'_le x (.map #[] 0) hi.bd
    refine⟨.nilIface,x.w.heap.size,.map (some x.w.heap.size),x.mk' (.map #[] 0),_,_,_,by simp only[heapF,hm,hms,hpk];rfl,trivial,.inl (v1 ?_),le,happ_new ?_,by simp[D]⟩
    ·simp[Instr.makeMap,X.mk']
    ·refine hi.fresh le (fun b hb=>Nat.lt_of_lt_of_le (hi.bd b hb) le.size) (fun b hb=>.inl hb) ⟨#[],0,heap_alloc_new _ _,by simp[MapK],MapKept.stamped_empty 0⟩ ?_ fun b hb=>heap_alloc_old _ _ hb
     intro b hb
     simp only[Ent.own]at hb
     subst hb
     exact⟨Nat.le_refl _,fun hk=>absurd (hi.bd _ hk) (Nat.lt_irrefl _),by simp[X.mk']⟩
   rename_i hpk
   simp only[Option.some.injEq,Prod.mk.injEq]at hh
   obtain⟨rfl,_,_⟩:=hh
   have le:=X.mk'_le x (.map #[] 0) hi.bd
   refine⟨.nilIface,x.w.heap.size,.map (some x.w.heap.size),x.mk' (.map #[] 0),_,_,_,by simp only[heapF,hm,hms,hpk];rfl,hp0,.inl (v1 ?_),le,happ_new ?_,by simp[D]⟩
   ·simp[Instr.makeMap,X.mk']
   ·refine hi.fresh le (fun b hb=>Nat.lt_of_lt_of_le (hi.bd b hb) le.size) (fun b hb=>.inl hb) (heap_alloc_new _ _) ?_ fun b hb=>heap_alloc_old _ _ hb
    intro b hb
    simp only[Ent.own]at hb
    subst hb
    exact⟨Nat.le_refl _,fun hk=>absurd (hi.bd _ hk) (Nat.lt_irrefl _),by simp[X.mk']⟩
  rename_i d z hm
  simp only[Option.some.injEq,Prod.mk.injEq]at hh
  obtain⟨rfl,_,_⟩:=hh
  have le:=X.mk'_le x (.map #[] 0) hi.bd
  refine⟨.nilIface,x.w.heap.size,.map (some x.w.heap.size),x.mk' (.map #[] 0),_,_,_,by simp only[heapF,hm];rfl,trivial,.inl (v1 ?_),le,happ_new ?_,by simp[D]⟩
  ·simp[Instr.makeMap,X.mk']
  ·refine hi.fresh le (fun b hb=>Nat.lt_of_lt_of_le (hi.bd b hb) le.size) (fun b hb=>.inl hb) ⟨#[],0,heap_alloc_new _ _,by simp[MapP],MapKept.stamped_empty 0,by simp⟩ ?_ fun b hb=>heap_alloc_old _ _ hb
   intro b hb
   simp only[Ent.own]at hb
   subst hb
   exact⟨Nat.le_refl _,fun hk=>absurd (hi.bd _ hk) (Nat.lt_irrefl _),by simp[X.mk']⟩
 case lookup t y i ok=>
  split at hh<;>try (simp at hh;done)
  rotate_left
  ·rename_i p g r q a hm hst1 hst2
   split at hh<;>try (simp at hh;done)
   rotate_left
   rotate_left
   ·rename_i ok b' s' es hg
    split at hh<;>try (simp at hh;done)
    rename_i kt s z kk hpk hkp
    simp only[Option.some.injEq,Prod.mk.injEq]at hh
    obtain⟨rfl,rfl,rfl⟩:=hh
    obtain⟨hp,hq,rfl,rfl,hK,hk⟩:=hp0
    rw[hG]at hg
    have hd:=st_ok (ev_ok he y) (by rw[hst1];exact hp)
    rw[hst1]at hd
    have hd2:=st_ok (ev_ok he i) (by rw[hst2];exact hq)
    rw[hst2]at hd2
    simp only[D]at hd
    have hkv:=keyP_ok hkp hd2
    have hlk:=fun o=>lookup_mapK (ok:=o) hpk hK hk (hget_sat hi hg)
    exact Exists.elim (hlk _) fun u hu=>done hh0 (.inl (v1 (by rw[hd,hkv];exact hu.1))) (.refl x) hi hu.2
   rotate_left
   ·rename_i ok b' d' es hg
    split at hh<;>try (simp at hh;done)
    rename_i d z l hms
    simp only[Option.some.injEq,Prod.mk.injEq]at hh
    obtain⟨rfl,rfl,rfl⟩:=hh
    obtain⟨hp,hq,rfl,rfl,hk⟩:=hp0
    rw[hG]at hg
    have hd:=st_ok (ev_ok he y) (by rw[hst1];exact hp)
    rw[hst1]at hd
    have hd2:=st_ok (ev_ok he i) (by rw[hst2];exact hq)
    rw[hst2]at hd2
    simp only[D]at hd hd2
    have hkv:=isKL_val hk hd2
    have hlk:=fun o=>lookup_mapS (ok:=o) hms hk (hget_sat hi hg)
    exact Exists.elim (hlk _) fun u hu=>done hh0 (.inl (v1 (by rw[hd,hkv];exact hu.1))) (.refl x) hi hu.2
   rename_i b' ms c key kt hg hka hkt
   simp only[Option.some.injEq,Prod.mk.injEq]at hh
   obtain⟨rfl,rfl,rfl⟩:=hh
   obtain⟨hp,hq,rfl,hm1,hk1,hsl⟩:=hp0
   rw[hG]at hg
   have hd:=st_ok (ev_ok he y) (by rw[hst1];exact hp)
   rw[hst1]at hd
   have hd2:=st_ok (ev_ok he i) (by rw[hst2];exact hq)
   rw[hst2]at hd2
   simp only[D]at hd
   have hkv:=keyA_ok hka hd2
   have hs:=hget_sat hi hg
   refine done (v:=valM (findM P kt ms.toList key)) (y:=x) hh0 (.inl (v1 ?_)) (.refl x) hi ?_
   ·rw[hd,hkv]
    exact lookup_raw hkt hs hm1 hk1
   ·simp only[D,true_and]
    exact hsl
  rename_i d z p g r q l hm hst1 hst2
  split at hh<;>try (simp at hh;done)
  rename_i b' d' es hg
  simp only[Option.some.injEq,Prod.mk.injEq]at hh
  obtain⟨rfl,rfl,rfl⟩:=hh
  obtain⟨hp,hq,rfl,rfl,hk⟩:=hp0
  rw[hG]at hg
  have hd:=st_ok (ev_ok he y) (by rw[hst1];exact hp)
  rw[hst1]at hd
  have hd2:=st_ok (ev_ok he i) (by rw[hst2];exact hq)
  rw[hst2]at hd2
  simp only[D]at hd hd2
  have hkv:=isKL_val hk hd2
  obtain⟨u,k1,k2⟩:=lookup_map (ok:=ok) hm hk (hget_sat hi hg)
  exact done hh0 (.inl (v1 (by rw[hd,hkv];exact k1))) (.refl x) hi k2
 case mapUpdate t m k v=>
  split at hh<;>try (simp at hh;done)
  rotate_left
  ·rename_i p g r q a hm hst1 hst2
   split at hh<;>try (simp at hh;done)
   rotate_left
   rotate_left
   ·rename_i b' s' es q2 av hg hst3
    split at hh<;>try (simp at hh;done)
    rename_i kt s z kk hpk hkp
    split at hh<;>try (simp at hh;done)
    rename_i lv hset
    simp only[Option.some.injEq,Prod.mk.injEq]at hh
    obtain⟨rfl,rfl,rfl⟩:=hh
    obtain⟨hp,hq,hq2,rfl,rfl,hK,hk⟩:=hp0
    rw[hG]at hg
    have hd:=st_ok (ev_ok he m) (by rw[hst1];exact hp)
    rw[hst1]at hd
    have hd2:=st_ok (ev_ok he k) (by rw[hst2];exact hq)
    rw[hst2]at hd2
    have hd3:=st_ok (ev_ok he v) (by rw[hst3];exact hq2)
    rw[hst3]at hd3
    simp only[D]at hd
    have hkv:=keyP_ok hkp hd2
    obtain⟨y',k1,k2,k3⟩:=update_mapK (H:=hdel g (H++H0)) hpk hK hk (hi.perm (hdel_perm (hget_app hg)).symm) (setK_ok hset hd3)
    have k4:=k3.perm (hset_perm (hget_app (H0:=H0) hg)).symm
    rw[hset_app hg,<- happ_set hg]at k4
    exact done hh0 (.inr ⟨by simp[execOp,hd,hkv,k1],rfl⟩) k2 k4 (by simp[D])
   rotate_left
   ·rename_i b' d' es q2 av hg hst3
    split at hh<;>try (simp at hh;done)
    rename_i d z l lv hms
    simp only[Option.some.injEq,Prod.mk.injEq]at hh
    obtain⟨rfl,rfl,rfl⟩:=hh
    obtain⟨hp,hq,hq2,rfl,rfl,hk⟩:=hp0
    rw[hG]at hg
    have hd:=st_ok (ev_ok he m) (by rw[hst1];exact hp)
    rw[hst1]at hd
    have hd2:=st_ok (ev_ok he k) (by rw[hst2];exact hq)
    rw[hst2]at hd2
    have hd3:=st_ok (ev_ok he v) (by rw[hst3];exact hq2)
    rw[hst3]at hd3
    simp only[D]at hd hd2
    have hkv:=isKL_val hk hd2
    obtain⟨y',k1,k2,k3⟩:=update_mapS (H:=hdel g (H++H0)) hms hk (hi.perm (hdel_perm (hget_app hg)).symm) (show RdR x lv _ from hd3)
    have k4:=k3.perm (hset_perm (hget_app (H0:=H0) hg)).symm
    rw[hset_app hg,<- happ_set hg]at k4
    exact done hh0 (.inr ⟨by simp[execOp,hd,hkv,k1],rfl⟩) k2 k4 (by simp[D])
   rename_i b' ms c key kt q2 av hg hka hkt hst3
   split at hh<;>try (simp at hh;done)
   rename_i hv hav
   simp only[Option.some.injEq,Prod.mk.injEq]at hh
   obtain⟨rfl,rfl,rfl⟩:=hh
   obtain⟨hp,hq,hq2,rfl,hm1,hk1⟩:=hp0
   rw[hG]at hg
   have hd:=st_ok (ev_ok he m) (by rw[hst1];exact hp)
   rw[hst1]at hd
   have hd2:=st_ok (ev_ok he k) (by rw[hst2];exact hq)
   rw[hst2]at hd2
   have hd3:=st_ok (ev_ok he v) (by rw[hst3];exact hq2)
   rw[hst3]at hd3
   simp only[D]at hd
   have hkv:=keyA_ok hka hd2
   have hvv:=hdrA_ok hav hd3
   have hs:x.w.heap[b']?=some (.map ms c):=hget_sat hi hg
   have hi1:=hi.perm (hdel_perm (hget_app (H0:=H0) hg)).symm
   have hown:=hi1.own (g,.raw b' (.map ms c)) (by simp) b' rfl
   have hle:x.le ⟨{ x.w with heap:=x.w.heap.setIfInBounds b' (.map (putM P kt ms c key hv).1 (putM P kt ms c key hv).2) },x.ok⟩:=
    ⟨fun k hk=>⟨hk,by simp[Array.getElem?_setIfInBounds_ne (show b'≠k from fun e=>hown.2 (e▸hk))]⟩,rfl,rfl,rfl,by simp,Nat.le_refl _⟩
   have k3:Inv ⟨{ x.w with heap:=x.w.heap.setIfInBounds b' (.map (putM P kt ms c key hv).1 (putM P kt ms c key hv).2) },x.ok⟩ ((g,.raw b' (.map (putM P kt ms c key hv).1 (putM P kt ms c key hv).2))::hdel g (H++H0)):=by
    refine hi1.turn (g':=g) hle (fun k hk=>by simpa using hi.bd k hk) (fun k hk=>.inl hk) ?_ ?_ ?_
    ·exact (MapKept.heap_set hs).1
    ·intro k hk
     simp only[Ent.own]at hk
     subst hk
     exact⟨.inl rfl,by simpa using hown.1⟩
    ·intro k _ hk
     exact (MapKept.heap_set hs).2 k fun e=>hk e
   have k4:=k3.perm (hset_perm (hget_app (H0:=H0) hg)).symm
   rw[hset_app hg,<- happ_set hg]at k4
   exact done hh0 (.inr ⟨by simp[execOp,hd,hkv,hvv,update_raw hkt hs hm1 hk1],rfl⟩) hle k4 (by simp[D])
  rename_i d z p g r q l hm hst1 hst2
  split at hh<;>try (simp at hh;done)
  rename_i b' d' es q2 av hg hst3
  split at hh<;>try (simp at hh;done)
  rename_i lv hav
  simp only[Option.some.injEq,Prod.mk.injEq]at hh
  obtain⟨rfl,rfl,rfl⟩:=hh
  obtain⟨hp,hq,hq2,rfl,rfl,hk,h1⟩:=hp0
  rw[hG]at hg
  have hd:=st_ok (ev_ok he m) (by rw[hst1];exact hp)
  rw[hst1]at hd
  have hd2:=st_ok (ev_ok he k) (by rw[hst2];exact hq)
  rw[hst2]at hd2
  have hd3:=st_ok (ev_ok he v) (by rw[hst3];exact hq2)
  rw[hst3]at hd3
  simp only[D]at hd hd2
  have hkv:=isKL_val hk hd2
  have hlv:=asL_ok hav hd3
  have hone:=one1_ok h1 hd3
  have hcl:(act.eval v).cells.toList=[act.eval v]:=by
   cases hvv:act.eval v<;>first | rfl | (rw[hvv]at hone;simp[Value.oneCell']at hone)
  rw[hcl]at hlv
  simp only[RdLs]at hlv
  obtain⟨y',k1,k2,k3⟩:=update_map (H:=hdel g (H++H0)) hm hk (hi.perm (hdel_perm (hget_app hg)).symm) hlv.1
  have k4:=k3.perm (hset_perm (hget_app (H0:=H0) hg)).symm
  rw[hset_app hg,<- happ_set hg]at k4
  exact done hh0 (.inr ⟨by simp[execOp,hd,hkv,k1],rfl⟩) k2 k4 (by simp[D])
 case mapEntry t m k=>
  split at hh<;>try (simp at hh;done)
  rename_i p g r q a hm hst1 hst2
  split at hh<;>try (simp at hh;done)
  rename_i b' ms c key kt hg hka hkt
  simp only[Option.some.injEq,Prod.mk.injEq]at hh
  obtain⟨rfl,rfl,rfl⟩:=hh
  obtain⟨hp,hq,rfl,hm1,hk1,hsl⟩:=hp0
  rw[hG]at hg
  have hd:=st_ok (ev_ok he m) (by rw[hst1];exact hp)
  rw[hst1]at hd
  have hd2:=st_ok (ev_ok he k) (by rw[hst2];exact hq)
  rw[hst2]at hd2
  simp only[D]at hd
  have hkv:=keyA_ok hka hd2
  have hs:x.w.heap[b']?=some (.map ms c):=hget_sat hi hg
  obtain⟨hle,k4⟩:=raw_turn (o':=.map (entM P kt ms c key).1 (entM P kt ms c key).2.1) hi hg
  refine done hh0 (.inl (v1 (by rw[hd,hkv];exact entry_raw hkt hs hm1 hk1))) hle k4 ?_
  simp only[D]
  exact⟨_,rfl,by simp only[Ds,D,RdL,true_and,and_true];exact hsl⟩
 case entryStore t m s v=>
  split at hh<;>try (simp at hh;done)
  rename_i p g r q kk n hst1 hst2
  split at hh<;>try (simp at hh;done)
  rename_i b' ms c q2 av hg hst3
  split at hh<;>try (simp at hh;done)
  rename_i hv hav
  simp only[Option.some.injEq,Prod.mk.injEq]at hh
  obtain⟨rfl,rfl,rfl⟩:=hh
  obtain⟨hp,hq,hq2,rfl,hn⟩:=hp0
  rw[hG]at hg
  have hd:=st_ok (ev_ok he m) (by rw[hst1];exact hp)
  rw[hst1]at hd
  have hd2:=st_ok (ev_ok he s) (by rw[hst2];exact hq)
  rw[hst2]at hd2
  have hd3:=st_ok (ev_ok he v) (by rw[hst3];exact hq2)
  rw[hst3]at hd3
  simp only[D,RdL]at hd hd2
  have hvv:=hdrA_ok hav hd3
  have hs:x.w.heap[b']?=some (.map ms c):=hget_sat hi hg
  obtain⟨hle,k4⟩:=raw_turn (o':=.map (setB ms n hv) c) hi hg
  exact done hh0 (.inr ⟨by simp[execOp,hd,hd2,hvv,store_raw hs hn],rfl⟩) hle k4 (by simp[D])
 case insert t m k v=>
  split at hh<;>try (simp at hh;done)
  rename_i d z p g r q l hm hst1 hst2
  split at hh<;>try (simp at hh;done)
  rename_i b' d' es q2 av hg hst3
  split at hh<;>try (simp at hh;done)
  rename_i lv hav
  simp only[Option.some.injEq,Prod.mk.injEq]at hh
  obtain⟨rfl,rfl,rfl⟩:=hh
  obtain⟨hp,hq,hq2,rfl,rfl,hk,h1⟩:=hp0
  rw[hG]at hg
  have hd:=st_ok (ev_ok he m) (by rw[hst1];exact hp)
  rw[hst1]at hd
  have hd2:=st_ok (ev_ok he k) (by rw[hst2];exact hq)
  rw[hst2]at hd2
  have hd3:=st_ok (ev_ok he v) (by rw[hst3];exact hq2)
  rw[hst3]at hd3
  simp only[D]at hd hd2
  have hkv:=isKL_val hk hd2
  have hlv:=asL_ok hav hd3
  have hone:=one1_ok h1 hd3
  have hcl:(act.eval v).cells.toList=[act.eval v]:=by
   cases hvv:act.eval v<;>first | rfl | (rw[hvv]at hone;simp[Value.oneCell']at hone)
  rw[hcl]at hlv
  simp only[RdLs]at hlv
  obtain⟨y',k1,k2,k3⟩:=update_map (H:=hdel g (H++H0)) hm hk (hi.perm (hdel_perm (hget_app hg)).symm) hlv.1
  have k4:=k3.perm (hset_perm (hget_app (H0:=H0) hg)).symm
  rw[hset_app hg,<- happ_set hg]at k4
  exact done hh0 (.inr ⟨by simp[execOp,hd,hkv,k1],rfl⟩) k2 k4 (by simp[D])
 case range t y=>
  split at hh<;>try (simp at hh;done)
  rotate_left
  ·rename_i p g r hst
   split at hh<;>try (simp at hh;done)
   rename_i b' ms c hg
   simp only[Option.some.injEq,Prod.mk.injEq]at hh
   obtain⟨rfl,_,_⟩:=hh
   have hp00:=hp0
   obtain⟨hp,rfl,hmp⟩:=hp0
   have hg0:=hg
   rw[hG]at hg
   have hd:=st_ok (ev_ok he y) (by rw[hst];exact hp)
   rw[hst]at hd
   simp only[D]at hd
   have hs:x.w.heap[b']?=some (.map ms c):=hget_sat hi hg
   obtain⟨dz,hdz⟩:=Option.isSome_iff_exists.1 hmp
   obtain⟨kt,et,ii,zz,hu,_⟩:=mpT_und (d:=dz.1) (l:=dz.2) (by rw[hdz])
   have le:=X.mk'_le x (.mapIter (some b') c #[] c) hi.bd
   refine⟨.nilIface,x.w.heap.size,.pointer (some ⟨x.w.heap.size,0,none⟩),x.mk' (.mapIter (some b') c #[] c),_,_,_,by simp only[heapF,hst,hg0];rfl,hp00,.inl (v1 ?_),le,happ_new ?_,by simp[D]⟩
   ·simp[Instr.range,run_underlying hu,hd,MapKept.run_getObj_map hs,X.mk']
   ·refine hi.fresh le (fun b hb=>Nat.lt_of_lt_of_le (hi.bd b hb) le.size) (fun b hb=>.inl hb) (heap_alloc_new _ _) ?_ fun b hb=>heap_alloc_old _ _ hb
    intro b hb
    simp only[Ent.own]at hb
    subst hb
    exact⟨Nat.le_refl _,fun hk=>absurd (hi.bd _ hk) (Nat.lt_irrefl _),by simp[X.mk']⟩
  rename_i p s hst
  simp only[Option.some.injEq,Prod.mk.injEq]at hh
  obtain⟨rfl,_,_⟩:=hh
  have hp00:=hp0
  obtain⟨hp,hs⟩:=hp0
  have hd:=st_ok (ev_ok he y) (by rw[hst];exact hp)
  rw[hst]at hd
  simp only[D,RdL]at hd
  have le:=X.mk'_le x (.stringIter ⟨s.toArray⟩ 0) hi.bd
  refine⟨.nilIface,x.w.heap.size,.pointer (some ⟨x.w.heap.size,0,none⟩),x.mk' (.stringIter ⟨s.toArray⟩ 0),_,_,_,by simp only[heapF,hst];rfl,hp00,.inl (v1 ?_),le,happ_new ?_,by simp[D]⟩
  ·simp[Instr.range,run_underlying (isStr_und hs),hd,X.mk']
  ·refine hi.fresh le (fun b hb=>Nat.lt_of_lt_of_le (hi.bd b hb) le.size) (fun b hb=>.inl hb) (heap_alloc_new _ _) ?_ fun b hb=>heap_alloc_old _ _ hb
   intro b hb
   simp only[Ent.own]at hb
   subst hb
   exact⟨Nat.le_refl _,fun hk=>absurd (hi.bd _ hk) (Nat.lt_irrefl _),by simp[X.mk']⟩
 case entry y=>
  split at hh<;>try (simp at hh;done)
  rename_i p g b1 hst
  split at hh<;>try (simp at hh;done)
  rename_i b' m since seen last b2 ms c hg1 hg2
  split at hh<;>try (simp at hh;done)
  rename_i e hse
  split at hh<;>try (simp at hh;done)
  rename_i k v hk hv
  simp only[Option.some.injEq,Prod.mk.injEq]at hh
  obtain⟨rfl,rfl,rfl⟩:=hh
  obtain⟨hp,rfl,rfl,hc⟩:=hp0
  rw[hG]at hg1 hg2
  have hd:=st_ok (ev_ok he y) (by rw[hst];exact hp)
  rw[hst]at hd
  simp only[D]at hd
  have hs1:x.w.heap[b']?=some (.mapIter (some b2) since seen last):=hget_sat hi hg1
  have hs2:x.w.heap[b2]?=some (.map ms c):=hget_sat hi hg2
  refine done hh0 (.inl (v1 (by rw[hd];exact entry_run hs1 hs2 hc hse))) (.refl x) hi ?_
  simp only[D]
  exact⟨_,rfl,by simp only[Ds,D,and_true];exact⟨vL_ok hk,vL_ok hv⟩⟩
 case next y isS=>
  split at hh<;>try (simp at hh;done)
  rename_i p g b1 hst
  split at hh<;>try (simp at hh;done)
  rename_i b' s pos hg
  rw[hG]at hg
  have hsat:=hget_sat hi hg
  simp only[Ent.sat]at hsat
  have hgo:(getObj b').run P x.w=.ok (.stringIter s pos) x.w:=by simp[getObj,Sem.run,hsat]
  split at hh
  ·rename_i hlt
   simp only[Option.some.injEq,Prod.mk.injEq]at hh
   obtain⟨rfl,rfl,rfl⟩:=hh
   obtain⟨hp,rfl,rfl⟩:=hp0
   have hd:=st_ok (ev_ok he y) (by rw[hst];exact hp)
   rw[hst]at hd
   simp only[D]at hd
   have hi1:=hi.perm (hdel_perm (hget_app (H0:=H0) hg)).symm
   have hown:=hi1.own (g,.raw b' (.stringIter s pos)) (by simp) b' rfl
   have hle:x.le ⟨{ x.w with heap:=x.w.heap.setIfInBounds b' (.stringIter s (pos+(Utf8.decode s pos).2)) },x.ok⟩:=
    ⟨fun k hk=>⟨hk,by simp[Array.getElem?_setIfInBounds_ne (show b'≠k from fun e=>hown.2 (e▸hk))]⟩,rfl,rfl,rfl,by simp,Nat.le_refl _⟩
   have k3:=hi1.turn (g':=g) (e':=.raw b' (.stringIter s (pos+(Utf8.decode s pos).2))) hle (fun k hk=>by simpa using hi.bd k hk) (fun k hk=>.inl hk) (MapKept.heap_set hsat).1
    (by intro k hk;simp only[Ent.own]at hk;subst hk;exact⟨.inl rfl,by simpa using hown.1⟩) (fun k _ hk=>(MapKept.heap_set hsat).2 k fun e=>hk e)
   have k4:=k3.perm (hset_perm (hget_app (H0:=H0) hg)).symm
   rw[hset_app hg,<- happ_set hg]at k4
   refine done (v:=.tuple #[.bool true,goInt pos,.int .i32 (Utf8.decode s pos).1]) hh0 (.inl (v1 ?_)) hle k4 ?_
   ·have hso:(setObj b' (.stringIter s (pos+(Utf8.decode s pos).2))).run P x.w=.ok () { x.w with heap:=x.w.heap.setIfInBounds b' (.stringIter s (pos+(Utf8.decode s pos).2)) }:=by simp[setObj,Sem.run,hsat]
    rw[hd]
    simp[Instr.next,hgo,hlt,hso]
   ·simp[D,Ds,RdL,goInt]
  ·rename_i hlt
   simp only[Option.some.injEq,Prod.mk.injEq]at hh
   obtain⟨rfl,rfl,rfl⟩:=hh
   obtain⟨hp,rfl,rfl⟩:=hp0
   have hd:=st_ok (ev_ok he y) (by rw[hst];exact hp)
   rw[hst]at hd
   simp only[D]at hd
   refine done (v:=.tuple #[.bool false]) hh0 (.inl (v1 ?_)) (.refl x) hi ?_
   ·rw[hd]
    simp[Instr.next,hgo,hlt]
   ·simp[D,Ds,RdL]
 case slice t y lo hiO mx=>
  cases mx<;>simp only[reduceCtorEq]at hh
  split at hh<;>try (simp at hh;done)
  rename_i p g hv e hst hsl
  split at hh<;>try (simp at hh;done)
  rename_i h1 e1 sz rows hg
  have hgG:=hg
  split at hh<;>try (simp at hh;done)
  rename_i q1 l q2 k eb1 eb2
  simp only[Option.some.injEq,Prod.mk.injEq]at hh
  obtain⟨rfl,_,_⟩:=hh
  have hp00:=hp0
  obtain⟨hp,hplo,hphi,hq1,hq2,rfl,rfl,rfl,ht,htz,rfl,hkl⟩:=hp0
  rw[hG]at hg
  have hd:=st_ok (ev_ok he y) (by rw[hst];exact hp)
  rw[hst]at hd
  simp only[D]at hd
  have b1:=boundA_ok eb1 hq1 (opt_ok he lo hplo)
  have b2:=boundA_ok eb2 hq2 (opt_ok he hiO hphi)
  have hi1:=hi.perm (hdel_perm (hget_app (H0:=H0) hg)).symm
  obtain⟨xs,⟨ho1,ho2⟩,hrl,hdx⟩:=hi1.sat (g,.seq h1 e1 (szT P e1) rows) (by simp)
  have hlen':(rows.take k).length=k:=by simp;omega
  have hflat:∀(l:List (List A)) (k:Nat),(∀r∈l,r.length=szT P e1)->k<=l.length->(l.take k).flatten=l.flatten.take (k*szT P e1):=by
   intro l
   induction l with
   | nil=>intro k _ hk;simp at hk;subst hk;simp
   | cons a l ih=>
    intro k hl hk
    cases k with
    | zero=>simp
    | succ k=>
     have ha:=hl a (by simp)
     simp only[List.take_succ_cons,List.flatten_cons]
     rw[ih k (fun r hr=>hl r (by simp[hr])) (by simpa using hk),Nat.succ_mul,Nat.add_comm,<- ha,List.take_length_add_append]
  have fin:∀u:Value,u.ownBlock=h1.ownBlock->Ent.sat x (.seq u e1 (szT P e1) (rows.take k))->(∃a n c,u=.slice a n c)->(Instr.sliceAt t h1 (lo.map act.eval) (hiO.map act.eval) none).run P x.w=.ok u x.w ->
    ∃u' b v y' p a ch,heapF P u' b τ E G (.slice t y lo hiO none)=some (p,a,ch)∧p∧((execOp act.eval { dst,op:=.slice t y lo hiO none,type,pos,after,guard }).run P x.w=.ok (.value v) y'.w∨((execOp act.eval { dst,op:=.slice t y lo hiO none,type,pos,after,guard }).run P x.w=.ok .skip y'.w∧v=Go.undef)) ∧
     x.le y'∧Inv y' (happ ch H++H0)∧D y' a v:=by
   intro u hob hsat hsl' hrun
   have k3:=hi1.turn (y:=x) (g':=g) (e':=.seq u e1 (szT P e1) (rows.take k)) (.refl x) hi.bd (fun b hb=>.inl hb) hsat (by
    intro b hb
    have hb':(Ent.seq h1 e1 (szT P e1) rows).own b:=by simp only[Ent.own]at hb ⊢;rw[<- hob];exact hb
    exact⟨.inl hb',(hi1.own (g,.seq h1 e1 (szT P e1) rows) (by simp) b hb').1⟩) (fun b _ _=>rfl)
   have k4:=k3.perm (hset_perm (hget_app (H0:=H0) hg)).symm
   rw[hset_app hg,<- happ_set hg]at k4
   exact⟨u,0,u,x,_,_,_,by simp only[heapF,hst,hsl,hgG,eb1,eb2];rfl,hp00,.inl (v1 (by rw[hd.1];exact hrun)),.refl x,k4,by simp only[D,true_and];exact hsl'⟩
  rcases ho2 with⟨rfl,h0⟩|⟨b0,cap0,cur,rfl,hb0,hg1,h5,h6,h7,htake⟩
  ·have hk0:k=0:=by omega
   subst hk0
   have hr0:rows=[]:=List.length_eq_zero_iff.1 h0
   subst hr0
   refine fin (.slice none 0 0) rfl ⟨[],World.ownsRow_nil _ _ _ _,by simp,by simp[Ds]⟩ ⟨_,_,_,rfl⟩ ?_
   simp only[Instr.sliceAt,Instr.slice,Sem.run_bind,run_underlying (slT_und hsl),Result.andThen_ok]
   rw[run_sliceBounds x.w b1 (show (hiO.map act.eval=none∧0=0)∨_ from b2) (Nat.le_refl 0) (Nat.le_refl 0)]
   simp[run_sizeOf' ht]
  ·refine fin (.slice (some ⟨b0,0,none⟩) k cap0) rfl ⟨xs.take (k*szT P e1),⟨by simp only[List.length_take,ho1,hlen'];have:=Nat.mul_le_mul_right (szT P e1) hkl;omega,.inr ⟨b0,cap0,cur,by rw[hlen'],hb0,hg1,by rw[hlen'];omega,h6,h7,?_⟩⟩,fun r hr=>hrl r (List.mem_of_mem_take hr),?_⟩ ⟨_,_,_,rfl⟩ ?_
   ·rw[hlen',<- htake,List.take_take,Nat.min_eq_left (Nat.mul_le_mul_right _ hkl)]
   ·rw[hflat rows k hrl hkl]
    exact hdx.take _
   ·simp only[Instr.sliceAt,Instr.slice,Sem.run_bind,run_underlying (slT_und hsl),Result.andThen_ok]
    rw[run_sliceBounds x.w b1 b2 (Nat.zero_le _) (Nat.le_trans hkl h5)]
    simp only[Result.andThen_ok,run_sizeOf' ht,Sem.run_pure]
    split<;>simp[add_none]
 case call c=>
  split at hh<;>try (simp at hh;done)
  ·rename_i xo t hcal hargs htys
   split at hh<;>try (simp at hh;done)
   ·rename_i p g hv e hst hsl
    split at hh<;>try (simp at hh;done)
    rename_i h1 e1 sz1 rows hg
    simp only[Option.some.injEq,Prod.mk.injEq]at hh
    obtain⟨rfl,rfl,rfl⟩:=hh
    obtain⟨hp,rfl⟩:=hp0
    rw[hG]at hg
    have hd:=st_ok (ev_ok he xo) (by rw[hst];exact hp)
    rw[hst]at hd
    simp only[D]at hd
    obtain⟨a,cc,e2⟩:=seq_hdr (hget_sat hi hg)
    have ha:c.args=#[xo]:=by apply Array.ext';simpa using hargs
    have hty:c.argTypes=#[t]:=by apply Array.ext';simpa using htys
    refine done (v:=.int .i64 rows.length) (y:=x) hh0 (.inl ?_) (.refl x) hi (by simp[D,RdL])
    simp[execOp,resolve,hcal,invoke,ha,hty,builtin,Builtin.len_,hd.1,e2,run_underlying (slT_und hsl),goInt]
   ·rename_i p g r hst hsl
    split at hh<;>try (simp at hh;done)
    rename_i b' d' es hg
    simp only[Option.some.injEq,Prod.mk.injEq]at hh
    obtain⟨rfl,rfl,rfl⟩:=hh
    obtain⟨hp,rfl,hm⟩:=hp0
    rw[hG]at hg
    have hd:=st_ok (ev_ok he xo) (by rw[hst];exact hp)
    rw[hst]at hd
    simp only[D]at hd
    obtain⟨ms,cc,k1,k2,_⟩:=hget_sat hi hg
    obtain⟨⟨d,z⟩,hm⟩:=Option.isSome_iff_exists.1 hm
    obtain⟨kt,et,_,_,hu,_⟩:=mpT_und hm
    have hll:=k2.length
    simp only[Array.length_toList]at hll
    have ha:c.args=#[xo]:=by apply Array.ext';simpa using hargs
    have hty:c.argTypes=#[t]:=by apply Array.ext';simpa using htys
    refine done (v:=.int .i64 es.length) (y:=x) hh0 (.inl ?_) (.refl x) hi (by simp[D,RdL])
    simp[execOp,resolve,hcal,invoke,ha,hty,builtin,Builtin.len_,hd,run_underlying hu,MapKept.run_getObj_map k1,goInt,hll]
  ·rename_i xo yo t t' hcal hargs htys
   have ha:c.args=#[xo,yo]:=by apply Array.ext';simpa using hargs
   have hty:c.argTypes=#[t,t']:=by apply Array.ext';simpa using htys
   split at hh<;>try (simp at hh;done)
   ·rename_i e p q ys hsl hst1 hst2
    simp only[Option.some.injEq,Prod.mk.injEq]at hh
    obtain⟨rfl,_,_⟩:=hh
    have hp00:=hp0
    obtain⟨hp,hq,rfl,hel,hyl,hyn⟩:=hp0
    have hd:=st_ok (ev_ok he xo) (by rw[hst1];exact hp)
    rw[hst1]at hd
    have hd2:=st_ok (ev_ok he yo) (by rw[hst2];exact hq)
    rw[hst2]at hd2
    simp only[D]at hd hd2
    have hi1:Inv x ((τ,.seq (.slice none 0 0) e (szT P e) [])::(H++H0)):=by
     refine⟨hi.bd,?_,?_,List.pairwise_cons.2 ⟨?_,hi.apart⟩⟩
     ·intro r hr
      rcases List.mem_cons.1 hr with rfl | hr
      ·exact⟨[],World.ownsRow_nil _ _ _ _,by simp,by simp[Ds]⟩
      ·exact hi.sat r hr
     ·intro r hr b hb
      rcases List.mem_cons.1 hr with rfl | hr
      ·simp[Ent.own,Value.ownBlock]at hb
      ·exact hi.own r hr b hb
     ·intro r _ b hb
      simp[Ent.own,Value.ownBlock]at hb
    obtain⟨u,y,k1,k2,k3,k4⟩:=append_own (g':=τ) (ys:=ys.map (·.map A.dat)) type hsl hel hi1 (by intro r hr;obtain⟨r',hr',rfl⟩:=List.mem_map.1 hr;simpa using hyl r' hr') (ones_data ys) (cells_data hd2) (by simpa using hyn)
    simp only[List.nil_append]at k4
    refine⟨u,0,u,y,_,_,_,by simp only[heapF,hcal,hargs,htys,hsl,hst1,hst2];rfl,hp00,.inl ?_,k2,happ_new k4,by simp only[D,true_and];exact k3⟩
    simp[execOp,resolve,hcal,invoke,ha,hty,builtin,hd,k1]
   ·rename_i e p q kk nn hsl hst1 hst2
    simp only[Option.some.injEq,Prod.mk.injEq]at hh
    obtain⟨rfl,_,_⟩:=hh
    have hp00:=hp0
    obtain⟨hp,hq,hint,rfl,hel,h0,hmax⟩:=hp0
    obtain⟨i,z,hinf,hz,hzs,hsz,hby⟩:=hel
    obtain⟨kn,hkn⟩:=Option.isSome_iff_exists.1 hint
    have hd:=st_ok (ev_ok he xo) (by rw[hst1];exact hp)
    rw[hst1]at hd
    have hd2:=st_ok (ev_ok he yo) (by rw[hst2];exact hq)
    rw[hst2]at hd2
    simp only[D,RdL]at hd hd2
    obtain⟨N,rfl⟩:=Int.eq_ofNat_of_zero_le (show 0<=nn by omega)
    have hN:N<=4294967296:=by omega
    have hb48:=Nat.mul_le_mul hN hby
    have hrun:=Lib.run_append_nil_zeros (P:=P) x.w t t' type e i z .i64 kn (slT_und hsl) (intT_und hkn) hinf hz N (by omega) hsz (by omega) (by omega)
    have hzr:zrT P e=z.cells.toList:=by simp[zrT,hinf,hz]
    have hsi:szT P e=z.cells.size:=by rw[elOK_sz hinf,hzs]
    have hge:=grownCap_ge x.w N 0 e
    have hle0:x.le x.drew:=(X.drew_grow x).le
    let o:Obj:=.cells (Builtin.zeroCells z.cells N++Builtin.zeroCells z.cells (grownCap x.w N 0 e-N)) e
    have hi2:Inv x.drew (H++H0):=hi.grow (X.drew_grow x)
    have le:=X.mk'_le x.drew o hi2.bd
    refine⟨.slice (some ⟨x.w.heap.size,0,none⟩) N (grownCap x.w N 0 e),0,.slice (some ⟨x.w.heap.size,0,none⟩) N (grownCap x.w N 0 e),x.drew.mk' o,_,_,_,by simp only[heapF,hcal,hargs,htys,hsl,hst1,hst2];rfl,hp00,.inl ?_,hle0.trans le,happ_new ?_,by simp[D]⟩
    ·simp[execOp,resolve,hcal,invoke,ha,hty,builtin,hd,hd2]
     rw[hrun]
     rfl
    ·refine hi2.fresh le (fun b hb=>Nat.lt_of_lt_of_le (hi2.bd b hb) le.size) (fun b hb=>.inl hb) ?_ ?_ fun b hb=>heap_alloc_old _ _ hb
     ·have hzc:(Builtin.zeroCells z.cells N).toList=(List.replicate N z.cells.toList).flatten:=madeCells_rows z.cells (by omega) N
      refine⟨(Builtin.zeroCells z.cells N).toList,⟨by simp[size_zeroCells,hsi],.inr ⟨x.w.heap.size,grownCap x.w N 0 e,_,by simp,Nat.zero_le _,heap_alloc_new _ _,by simpa using hge,grownCap_le_maxLen _ _ _ _ (by simp only[maxLen];omega),?_,?_⟩⟩,?_,?_⟩
      ·simp only[Array.size_append,size_zeroCells,hsi,<- Nat.add_mul]
       congr 1
       omega
      ·simp only[Array.toList_append,List.length_replicate,Int.toNat_natCast]
       exact List.take_left' (by simp[size_zeroCells,hsi])
      ·intro r hr
       rw[List.eq_of_mem_replicate hr]
       simp[hzr,hsi]
      ·rw[hzc,hzr]
       have hrep:∀n:Nat,Ds (x.drew.mk' o) (List.replicate n (z.cells.toList.map kA)).flatten (List.replicate n z.cells.toList).flatten:=by
        intro n
        induction n with
        | zero=>simp[Ds]
        | succ n ih=>simp only[List.replicate_succ,List.flatten_cons];exact (Ds_kA _ _).append ih
       simpa using hrep N
     ·intro b hb
      simp only[Ent.own,Value.ownBlock,Option.some.injEq]at hb
      subst hb
      exact⟨Nat.le_refl _,fun hk=>absurd (hi2.bd _ hk) (Nat.lt_irrefl _),by simp[X.mk',X.drew]⟩
   ·rename_i e p q g' h1 hsl hst1 hst2
    split at hh<;>try (simp at hh;done)
    rename_i h1' e1 sz1 rows1 hg
    have hgG:=hg
    simp only[Option.some.injEq,Prod.mk.injEq]at hh
    obtain⟨rfl,_,_⟩:=hh
    have hp00:=hp0
    obtain⟨hp,hq,rfl,rfl,rfl,rfl,hel,hr1,hrn⟩:=hp0
    rw[hG]at hg
    have hd:=st_ok (ev_ok he xo) (by rw[hst1];exact hp)
    rw[hst1]at hd
    have hd2:=st_ok (ev_ok he yo) (by rw[hst2];exact hq)
    rw[hst2]at hd2
    simp only[D]at hd hd2
    have hsat:=hget_sat hi hg
    have hrl:=hsat
    obtain⟨_,_,hrl,_⟩:=hrl
    have hi1:Inv x ((τ,.seq (.slice none 0 0) e1 (szT P e1) [])::(H++H0)):=by
     refine⟨hi.bd,?_,?_,List.pairwise_cons.2 ⟨?_,hi.apart⟩⟩
     ·intro r hr
      rcases List.mem_cons.1 hr with rfl | hr
      ·exact⟨[],World.ownsRow_nil _ _ _ _,by simp,by simp[Ds]⟩
      ·exact hi.sat r hr
     ·intro r hr b hb
      rcases List.mem_cons.1 hr with rfl | hr
      ·simp[Ent.own,Value.ownBlock]at hb
      ·exact hi.own r hr b hb
     ·intro r _ b hb
      simp[Ent.own,Value.ownBlock]at hb
    obtain⟨u,y,k1,k2,k3,k4⟩:=append_own (g':=τ) type hsl hel hi1 hrl hr1 ((cells_own hsat).imp (fun h=>⟨⟨none,0,h.1⟩,h.2⟩) id) (by simpa using hrn)
    simp only[List.nil_append]at k4
    refine⟨u,0,u,y,_,_,_,by simp only[heapF,hcal,hargs,htys,hsl,hst1,hst2,hgG];rfl,hp00,.inl ?_,k2,happ_new k4,by simp only[D,true_and];exact k3⟩
    simp[execOp,resolve,hcal,invoke,ha,hty,builtin,hd,hd2.1,k1]
   ·rename_i e p g hv q g' h1 hsl hst1 hst2
    split at hh<;>try (simp at hh;done)
    rename_i h0 e0 sz0 rows h1' e1 sz1 rows1 hg hg1
    have hgG:=hg
    have hgG1:=hg1
    simp only[Option.some.injEq,Prod.mk.injEq]at hh
    obtain⟨rfl,_,_⟩:=hh
    have hp00:=hp0
    obtain⟨hp,hq,hne,rfl,rfl,rfl,rfl,rfl,rfl,rfl,hel,hr1,hrn⟩:=hp0
    rw[hG]at hg hg1
    have hd:=st_ok (ev_ok he xo) (by rw[hst1];exact hp)
    rw[hst1]at hd
    have hd2:=st_ok (ev_ok he yo) (by rw[hst2];exact hq)
    rw[hst2]at hd2
    simp only[D]at hd hd2
    have hsat:=hget_sat hi hg1
    have hrl:=hsat
    obtain⟨_,_,hrl,_⟩:=hrl
    have hi1:=hi.perm (hdel_perm (hget_app (H0:=H0) hg)).symm
    obtain⟨u,y,k1,k2,k3,k4⟩:=append_own (g':=g) type hsl hel hi1 hrl hr1 ((cells_own hsat).imp (fun h=>⟨⟨none,0,h.1⟩,h.2⟩) id) hrn
    have k5:=k4.perm (hset_perm (hget_app (H0:=H0) hg)).symm
    rw[hset_app hg,<- happ_set hg]at k5
    refine⟨u,0,u,y,_,_,_,by simp only[heapF,hcal,hargs,htys,hsl,hst1,hst2,hgG,hgG1];rfl,hp00,.inl ?_,k2,k5,by simp only[D,true_and];exact k3⟩
    simp[execOp,resolve,hcal,invoke,ha,hty,builtin,hd.1,hd2.1,k1]
   ·rename_i e p g hv q ys hsl hst1 hst2
    split at hh<;>try (simp at hh;done)
    rename_i h1 e1 sz1 rows hg
    simp only[Option.some.injEq,Prod.mk.injEq]at hh
    obtain⟨rfl,_,_⟩:=hh
    have hp00:=hp0
    have hgG:=hg
    obtain⟨hp,hq,rfl,rfl,rfl,rfl,hel,hyl,hyn⟩:=hp0
    rw[hG]at hg
    have hd:=st_ok (ev_ok he xo) (by rw[hst1];exact hp)
    rw[hst1]at hd
    have hd2:=st_ok (ev_ok he yo) (by rw[hst2];exact hq)
    rw[hst2]at hd2
    simp only[D]at hd hd2
    have hi1:=hi.perm (hdel_perm (hget_app (H0:=H0) hg)).symm
    obtain⟨u,y,k1,k2,k3,k4⟩:=append_own (g':=g) (ys:=ys.map (·.map A.dat)) type hsl hel hi1 (by intro r hr;obtain⟨r',hr',rfl⟩:=List.mem_map.1 hr;simpa using hyl r' hr') (ones_data ys) (cells_data hd2) (by simpa using hyn)
    have k5:=k4.perm (hset_perm (hget_app (H0:=H0) hg)).symm
    rw[hset_app hg,<- happ_set hg]at k5
    refine⟨u,0,u,y,_,_,_,by simp only[heapF,hcal,hargs,htys,hsl,hst1,hst2,hgG];rfl,hp00,.inl ?_,k2,k5,by simp only[D,true_and];exact k3⟩
    simp[execOp,resolve,hcal,invoke,ha,hty,builtin,hd.1,k1]
end
end Go.Proofs.YtafamcbdaeppoaaGreatDoor
