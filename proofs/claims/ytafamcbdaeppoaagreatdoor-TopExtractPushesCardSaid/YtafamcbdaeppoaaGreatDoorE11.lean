/- Texts joined by a program: Fwy,Fwx,Fwz,Fxa,Fxb,Fxe,Fxf,Fxg,Fxh,Fxi,Fxj. -/
import Derived.Test.YtafamcbdaeppoaaGreatDoorE10
set_option linter.unusedSimpArgs false
set_option linter.unusedVariables false
namespace Go.Proofs.YtafamcbdaeppoaaGreatDoor
section
variable {P:Program}
theorem CallS.lendG {g:FuncId}{az az':List A}{H:Heap}{K K':A->Heap->Prop}(h:CallS P g az' [] K')
  (hz:∀(x y:X) (H0:Heap) (vs:List Value),Inv x (H++H0)->x.le y->y.w=x.w->(∀b,(∃p∈H,p.2.own b)->y.ok b)->Ds x az vs->Ds y az' vs)
  (hk:∀r H',K' r H'->flatV r=true∧(∀p∈H',flatE p.2=true)∧K r (H'++H)):CallS P g az H K:=by
 refine⟨h.1,fun x args H0 hi hd=>?_⟩
 obtain⟨x',hw,hle,hi0,hok,hok'⟩:=hi.freeze
 have hd':=hz x x' H0 _ hi hle hw hok hd
 have hr:=hi0.raws
 have:=h.2 x' args (rawsOf x' H0) (by simpa using hr) hd'
 rw[hw]at this
 refine this.mono ?_
 rintro _ _ ⟨y',v,r,H',rfl,rfl,hley,hiy,hv,hkk⟩
 obtain⟨k1,k2,k3⟩:=hk r H' hkk
 let y:X:=⟨y'.w,fun b=>y'.ok b∧¬ ∃p∈H,p.2.own b⟩
 have hown:∀p∈H,∀b,p.2.own b->b<x.w.heap.size∧¬x.ok b:=fun p hp b hb=>hi.own p (List.mem_append.2 (.inl hp)) b hb
 have hlexy:x.le y:=by
  refine⟨fun b hb=>⟨⟨(hley.keep b (hle.keep b hb).1).1,fun ⟨p,hp,ho⟩=>(hown p hp b ho).2 hb⟩,?_⟩,?_,?_,?_,?_,?_⟩
  ·exact ((hley.keep b (hle.keep b hb).1).2).trans (hle.keep b hb).2
  ·exact hley.os.trans hle.os
  ·exact hley.output.trans hle.output
  ·exact hley.tape.trans hle.tape
  ·exact Nat.le_trans hle.size hley.size
  ·exact Nat.le_trans hle.drawn hley.drawn
 have hH:∀p∈H,∀b,p.2.own b->y'.ok b∧y'.w.heap[b]?=x.w.heap[b]?:=fun p hp b hb=>by
  have h1:=hley.keep b (hok b ⟨p,hp,hb⟩)
  exact⟨h1.1,by rw[h1.2,hw]⟩
 have hH0:∀p∈H0,∀b,p.2.own b->y'.w.heap[b]?=x.w.heap[b]?∧¬y'.ok b:=fun p hp b hb=>by
  have hm:=rawsOf_of (x:=x') hp hb
  have h1:y'.w.heap[b]?=some _:=hiy.sat _ (List.mem_append.2 (.inr hm))
  have hlt:=(hi0.own p hp b hb).1
  refine⟨by rw[h1,<- hw];simp[hlt],(hiy.own _ (List.mem_append.2 (.inr hm)) b rfl).2⟩
 refine⟨y,v,r,H'++H,rfl,rfl,hlexy,?_,flatV_ok k1 hv,k3⟩
 rw[List.append_assoc]
 have sz:∀b,b<x.w.heap.size->b<y.w.heap.size:=fun b hb=>Nat.lt_of_lt_of_le hb hlexy.size
 refine⟨⟨fun b hb=>hiy.bd b hb.1,hi.bd.tab.mono hlexy⟩,?_,?_,?_⟩
 ·intro p hp
  rcases List.mem_append.1 hp with hp | hp
  ·exact flatE_ok (x:=y') (y:=y) (k2 p hp) (fun _ _=>rfl) (hiy.sat p (List.mem_append.2 (.inl hp)))
  ·refine Ent.sat_step hlexy (fun b hb=>?_) (hi.sat p hp)
   rcases List.mem_append.1 hp with hp | hp
   ·exact (hH p hp b hb).2
   ·exact (hH0 p hp b hb).1
 ·intro p hp b hb
  rcases List.mem_append.1 hp with hp | hp
  ·have:=hiy.own p (List.mem_append.2 (.inl hp)) b hb
   exact⟨this.1,fun hh=>this.2 hh.1⟩
  ·rcases List.mem_append.1 hp with hp | hp
   ·exact⟨sz b (hown p hp b hb).1,fun hh=>hh.2 ⟨p,hp,hb⟩⟩
   ·exact⟨sz b (hi.own p (List.mem_append.2 (.inr hp)) b hb).1,fun hh=>(hH0 p hp b hb).2 hh.1⟩
 ·refine List.pairwise_append.2 ⟨(List.pairwise_append.1 hiy.apart).1,hi.apart,?_⟩
  intro p hp q hq b h1 h2
  have hpn:=hiy.own p (List.mem_append.2 (.inl hp)) b h1
  rcases List.mem_append.1 hq with hq | hq
  ·exact hpn.2 (hH q hq b h2).1
  ·exact (List.pairwise_append.1 hiy.apart).2.2 p hp _ (rawsOf_of (x:=x') hq h2) b h1 rfl
theorem rdLs_Ds' {x:X}:∀ {ls:List L}{vs:List Value},RdLs x ls vs->Ds x (ls.map A.dat) vs
 | [],[],_=>by simp[Ds]
 | l::ls,v::vs,h=>by
  simp only[RdLs]at h
  simp only[List.map_cons,Ds,D]
  exact⟨h.1,rdLs_Ds' h.2⟩
 | [],_::_,h=>by simp[RdLs]at h
 | _::_,[],h=>by simp[RdLs]at h
def frzC (H:Heap):A->Option L
 | .dat l=>some l
 | .nils=>some (.sl [])
 | .own t h=>match hget t H with
  | some (.seq h' _ _ rows)=>if allD rows=true then some (.sl (rowsD rows)) else none
  | _=>none
 | _=>none
def hdrOk (H:Heap):A->Prop
 | .own t h=>match hget t H with
  | some (.seq h' _ _ _)=>h'=h
  | _=>True
 | _=>True
def frzCs (H:Heap):List A->Option (List L)
 | []=>some []
 | a::r=>match frzC H a,frzCs H r with
  | some l,some ls=>some (l::ls)
  | _,_=>none
theorem frzC_ok {x y:X}{H H0:Heap}(hi:Inv x (H++H0)) (hle:x.le y) (hw:y.w=x.w) (hok:∀b,(∃p∈H,p.2.own b)->y.ok b) {a:A}{l:L}{v:Value}(hf:frzC H a=some l) (hh:hdrOk H a) (hv:D x a v):RdL y l v:=by
 unfold frzC at hf
 split at hf
 ·simp only[Option.some.injEq]at hf;subst hf
  simp only[D]at hv
  exact RdL.mono hle _ _ hv
 ·simp only[Option.some.injEq]at hf;subst hf
  simp only[D]at hv;subst hv;simp[RdL]
 ·rename_i t h
  simp only[hdrOk]at hh
  split at hf<;>try (cases hf;done)
  rename_i h' e sz rows hg
  rw[hg]at hh
  simp only at hh
  split at hf<;>try (cases hf;done)
  rename_i hd
  simp only[Option.some.injEq]at hf;subst hf;subst hh
  simp only[D]at hv
  rw[hv.1]
  exact seq_data (Ent.sat_step hle (fun b _=>by rw[hw]) (hget_sat hi hg)) (fun b hb=>hok b ⟨_,hget_mem hg,hb⟩) hd
 ·cases hf
theorem frzCs_ok {x y:X}{H H0:Heap}(hi:Inv x (H++H0)) (hle:x.le y) (hw:y.w=x.w) (hok:∀b,(∃p∈H,p.2.own b)->y.ok b):∀ {cs:List A}{ls:List L}{vs:List Value},frzCs H cs=some ls->(∀a∈cs,hdrOk H a)->Ds x cs vs->RdLs y ls vs
 | [],ls,[],hf,_,_=>by simp only[frzCs,Option.some.injEq]at hf;subst hf;simp[RdLs]
 | a::r,ls,v::vs,hf,hh,hd=>by
  simp only[frzCs]at hf
  split at hf<;>try (cases hf;done)
  rename_i l ls' h1 h2
  simp only[Option.some.injEq]at hf;subst hf
  simp only[Ds]at hd
  simp only[RdLs]
  exact⟨frzC_ok hi hle hw hok h1 (hh a (by simp)) hd.1,frzCs_ok hi hle hw hok h2 (fun b hb=>hh b (by simp[hb])) hd.2⟩
 | [],_,_::_,_,_,h=>by simp[Ds]at h
 | _::_,_,[],_,_,h=>by simp[Ds]at h
theorem CallOwn.lendP {g:FuncId}{t b:Nat}{cs:List A}{ls:List L}{az:List A}{e:TypeId}{sz:Nat}{rows:List (List A)}{H:Heap}{K:A->Heap->Prop}(h:CallOwn P g (.rptr ls::az) e sz rows) (τ:Nat)
  (hb:hget t H=some (.box b cs)) (hc:frzCs H cs=some ls∧∀a∈cs,hdrOk H a) (hz:(frzs H az).1∧(frzs H az).2=az) (hf:∀hd,flatE (.seq hd e sz rows)=true)
  (hk:∀hd,K (.own τ hd) ((τ,.seq hd e sz rows)::H)):CallS P g (.ptr t b 0::az) H K:=by
 have h2:CallS P g (.rptr ls::az) [] fun r H'=>∃hd,r=.own τ hd∧H'=[(τ,.seq hd e sz rows)]:=h.s τ fun hd=>⟨hd,rfl,rfl⟩
 refine h2.lendG ?_ ?_
 ·intro x y H0 vs hi hle hw hok hd
  cases vs with
  | nil=>simp[Ds]at hd
  | cons v vs=>
   simp only[Ds]at hd ⊢
   have hr:=frzs_ok hi hle hw hok az vs hd.2 hz.1
   rw[hz.2]at hr
   refine⟨?_,hr⟩
   have hs:=hget_sat hi hb
   obtain⟨c,ty,k1,k2⟩:=hs
   have hv:=hd.1
   simp only[D]at hv ⊢
   subst hv
   have hrd:=frzCs_ok hi hle hw hok hc.1 hc.2 k2
   refine⟨b,0,rfl,rdCells_vals (hok b ⟨_,hget_mem hb,rfl⟩) ls _ 0 hrd ?_⟩
   intro j u hj
   rw[hw]
   simp only[World.cell?,k1,Nat.zero_add]
   simpa using hj
 ·rintro r H' ⟨hd,rfl,rfl⟩
  refine⟨rfl,?_,hk hd⟩
  intro p hp
  simp only[List.mem_singleton]at hp
  subst hp
  exact hf hd
theorem V.frz1 {C:Cfg}{c:Code}{E:Env}{H:Heap}{Q:PostQ}(t:Nat) {τ:Nat}{h:Value}{e sz:Nat}{rows:List (List A)}(hE:E t=.own τ h) (hH:hget τ H=some (.seq h e sz rows)) (hd:allD rows=true)
  (hv:V C c (upd E t (.dat (.sl (rowsD rows)))) (hdel τ H) Q):V C c E H Q:=by
 intro hf x act H0 ms hi he
 have hp:=hdel_perm hH
 have hi1:Inv x ([(τ,.seq h e sz rows)]++(hdel τ H++(marks ms++H0))):=by
  have:=hi.perm (hp.symm.append_right (marks ms++H0))
  simpa using this
 obtain⟨y,hw,hle,hi2,hok,_⟩:=hi1.freeze
 have he2:EnvOK C.n (ms.map mk) y act (upd E t (.dat (.sl (rowsD rows)))):=by
  have hm:=he.mono hle
  refine⟨hm.defers,hm.size,fun s=>?_⟩
  simp only[upd]
  split
  ·rename_i hs
   subst hs
   have hv:=hm.slot s
   rw[hE]at hv
   simp only[D]at hv ⊢
   rw[hv.1]
   exact seq_data (Ent.sat_step hle (fun b _=>by rw[hw]) (hi1.sat (τ,.seq h e sz rows) (by simp))) (fun b hb=>hok b ⟨_,List.mem_singleton.2 rfl,hb⟩) hd
  ·exact hm.slot s
 have:=hv hf y act H0 ms hi2 he2
 rw[hw]at this
 exact wpIn_mono this fun _ _ _=>Post.le hle fun _ _ _ h=>h
theorem CallS.agg {g:FuncId}{ls:List L}{az bz:List A}{H:Heap}{K:A->Heap->Prop}(h:CallS P g (az++.agg (ls.map A.dat)::bz) H K):CallS P g (az++.record ls::bz) H K:=by
 refine⟨h.1,fun x args H0 hi hd=>h.2 x args H0 hi ?_⟩
 have e:=List.take_append_drop az.length args.toList
 have ht:=hd.take az.length
 have hdr:=hd.drop az.length
 simp only[List.take_left,List.drop_left]at ht hdr
 rw[<- e]
 refine ht.append ?_
 generalize args.toList.drop az.length=l at hdr
 cases l with
 | nil=>simp[Ds]at hdr
 | cons v l=>
  simp only[Ds,D]at hdr ⊢
  obtain⟨⟨vs,rfl,hr⟩,h2⟩:=hdr
  refine⟨⟨vs,rfl,?_⟩,h2⟩
  exact rdLs_Ds' hr
attribute [simp] frzC frzCs hdrOk
end
section
variable {P:Program}
def bslO (P:Program) (t:TypeId) (len:Nat) (ps:List (Nat×A)):Option (Prop×TypeId×List (List L)):=
 match slT P t with
 | some e=>if len=ps.length∧0<len then (match rowsA (szT P e) 0 ps with
   | some rows=>some (tk P e≠0∧0<szT P e∧len*szT P e<=16777216∧((P.info? e).bind (·.zero)).isSome=true,e,rows)
   | none=>none) else none
 | none=>none
def tightV (u:Value):Prop:=∃a n,u=.slice a n n
def vcOpsT (P:Program) (T:List Nat):List Oper->Env->Heap->(Env->Heap->Prop)->Prop
 | [],E,H,K=>K E H
 | o::rest,E,H,K=>o.guard=none∧match o.op,T.contains (o.dst.getD 0) with
  | .buildSlice t n ps,true=>match bslO P t n (evs E ps.toList) with
   | some (p,e,rows)=>(evp E ps.toList∧p)∧∀u,tightV u->vcOpsT P T rest (put E o.dst (.own (o.dst.getD 0) u)) ((o.dst.getD 0,.seq u e (szT P e) (rows.map (·.map A.dat)))::H) K
   | none=>False
  | op,_=>vcOp P op o.dst E H fun E' H'=>vcOpsT P T rest E' H' K
def vcCT (C:Cfg) (T:List Nat):Code->Env->Heap->PostQ->Prop
 | .seq a b,E,H,Q=>vcCT C T a E H fun e E' H'=>match e with
  | .normal=>vcCT C T b E' H' Q
  | .exit i=>Q (.exit i) E' H'
  | .ret=>Q .ret E' H'
  | _=>False
 | .ret,E,H,Q=>Q .ret E H
 | .region id ops d,E,H,Q=>match d with
  | false=>vcOpsT C.P T ops.toList E H fun E' H'=>Q .normal E' H'
  | true=>V C (.region id ops true) E H Q
 | _,_,_,_=>False
@[simp] theorem xpH_n:xpH []=[]:=id rfl
@[simp] theorem xpH_box (t b:Nat) (cs:List A) (H:Heap):xpH ((t,.box b cs)::H)=(t,.box b cs)::xpH H:=id rfl
@[simp] theorem xpH_seq (t:Nat) (h:Value) (e sz:Nat) (rows:List (List A)) (H:Heap):xpH ((t,.seq h e sz rows)::H)=(t,.seq h e sz rows)::xpH H:=id rfl
@[simp] theorem xpH_raw (t b:Nat) (o:Obj) (H:Heap):xpH ((t,.raw b o)::H)=(t,.raw b o)::xpH H:=id rfl
@[simp] theorem xpH_map (t b:Nat) (d:TypeDesc) (es:List (L×L)) (H:Heap):xpH ((t,.map b d es)::H)=(t,.map b d es)::xpH H:=id rfl
@[simp] theorem xpH_mapS (t b:Nat) (d:TypeDesc) (es:List (L×List L)) (H:Heap):xpH ((t,.mapS b d es)::H)=(t,.mapS b d es)::xpH H:=id rfl
@[simp] theorem xpH_mapK (t b:Nat) (d:Bool) (es:List (KeyK×List L)) (H:Heap):xpH ((t,.mapK b d es)::H)=(t,.mapK b d es)::xpH H:=id rfl
@[simp] theorem xpH_seqs (t:Nat) (l:List (Value×TypeId×Nat×List (List A))) (H:Heap):xpH ((t,.seqs l)::H)=spreadL (stB t) 0 l++xpH H:=id rfl
theorem V.drawS {n:Nat}{id:Nat}{ops:Array Oper}{E:Env}{H:Heap}{Q:PostQ}(ρ:Nat->Option CR) (hm:P.follows .mixedOrders=true) (hd:depB ops.toList=true) (hn:(H.map (·.1)).Nodup)
  (h:vcD P ρ ops.toList 0 [] ops.toList E H fun E' H'=>Q .normal E' (xpH H')):V ⟨P,none,n⟩ (.region id ops true) E H Q:=by
 have h1:V ⟨P,none,n⟩ (.region id ops true) E H (fun e E' H'=>match e with | .normal=>Q .normal E' (xpH H') | e=>Q e E' H'):=V.draw ρ hm hd hn h
 intro hf x act H0 ms hi he
 refine wpIn_mono (h1 hf x act H0 ms hi he) ?_
 rintro e a' w' ⟨y,E',H',ms',rfl,hle,hi',he',hq⟩
 cases e with
 | normal=>exact⟨y,E',xpH H',ms',rfl,hle,Inv.xp (A0:=[]) hi',he',hq⟩
 | exit k=>exact⟨y,E',H',ms',rfl,hle,hi',he',hq⟩
 | ret=>exact⟨y,E',H',ms',rfl,hle,hi',he',hq⟩
 | goto k=>exact⟨y,E',H',ms',rfl,hle,hi',he',hq⟩
 | panic k=>exact⟨y,E',H',ms',rfl,hle,hi',he',hq⟩
 | outgrown=>exact⟨y,E',H',ms',rfl,hle,hi',he',hq⟩
attribute [simp] spreadL hdrsL ownsL stB
attribute [simp] vcCT vcOpsT bslO
end
section
variable {P:Program}
def loopsC:Code->List Code
 | .loop c=>c::loopsC c
 | .seq a b=>loopsC a++loopsC b
 | .cond _ a b=>loopsC a++loopsC b
 | .block _ c=>loopsC c
 | .scope c=>loopsC c
 | _=>[]
def loopO (f:Func) (k:Nat):Option Code:=match f.body with
 | some c=>(loopsC c)[k]?
 | none=>none
def loopC (f:Func) (k:Nat):Code:=(loopO f k).getD .skip
theorem vc_part {f:Func}{k:Nat}{c:Code}{C:Cfg}{E:Env}{H:Heap}{Q:PostQ}(h:loopO f k=some c) (hv:vcC C c E H Q):vcC C (loopC f k) E H Q:=by
 unfold loopC
 rw[h]
 exact hv
theorem vc_of_part {f:Func}{k:Nat}{c:Code}{C:Cfg}{E:Env}{H:Heap}{Q:PostQ}(h:loopO f k=some c) (hv:vcC C (loopC f k) E H Q):vcC C c E H Q:=by
 unfold loopC at hv
 rw[h]at hv
 exact hv
theorem sub_ins {t:Nat}{e:Ent}:∀ {H K:Heap},hget t H=some e->K.Sublist (hdel t H)->∃K':Heap,K'.Sublist H∧K'.Perm ((t,e)::K)
 | [],_,h,_=>by simp at h
 | (s,e1)::r,K,h,hs=>by
  rw[hget_c]at h
  rw[hdel_c]at hs
  by_cases hst:s=t
  ·subst hst
   rw[if_pos rfl]at h hs
   cases h
   exact⟨(s,e)::K,hs.cons_cons _,List.Perm.refl _⟩
  ·rw[if_neg hst]at h hs
   cases hs with
   | cons _ h2=>
    obtain⟨K',k1,k2⟩:=sub_ins h h2
    exact⟨K',k1.cons _,k2⟩
   | cons_cons _ h2=>
    obtain⟨K',k1,k2⟩:=sub_ins h h2
    exact⟨(s,e1)::K',k1.cons_cons _,(k2.cons _).trans (List.Perm.swap _ _ _)⟩
theorem subP_of:∀ {H' H:Heap},subH H' H->subP H' H
 | [],H,_=>⟨[],List.nil_sublist _,List.Perm.refl _⟩
 | (t,e)::r,H,h=>by
  simp only[subH]at h
  obtain⟨K,k1,k2⟩:=subP_of h.2
  obtain⟨K',k3,k4⟩:=sub_ins h.1 k1
  exact⟨K',k3,k4.trans (k2.cons _)⟩
def accC (i:Nat) (r:List Nat) (c:Option Nat) (acc:List (Nat×List Nat×Option Nat)):List (Nat×List Nat×Option Nat):=match r,c with
 | [],none=>acc
 | _,_=>(i,r,c)::acc
def prsC (i:Nat) (q:List Nat×Option Nat):List (Nat×List Nat×Option Nat)->List (Nat×Nat)->List (Nat×Nat)
 | [],prs=>prs
 | z::acc,prs=>prsC i q acc (if tagC z.2 q=true then (i,z.1)::prs else prs)
def chkD (ops:List Oper) (prs:List (Nat×Nat)):Bool:=prs.all fun p=>dirB ops p.1 p.2||relB ops p.1 p.2
@[congr] theorem chkD_congr {ops:List Oper}{prs prs':List (Nat×Nat)}{z:Prop}(_:(True∧True)=z) (h:prs=prs'):chkD ops prs=chkD ops prs':=by rw[h]
@[simp] theorem chkD_nil (ops:List Oper):chkD ops []=true:=id rfl
@[simp] theorem accC_n (i:Nat) (acc:List (Nat×List Nat×Option Nat)):accC i [] none acc=acc:=id rfl
@[simp] theorem accC_c (i t:Nat) (r:List Nat) (c:Option Nat) (acc:List (Nat×List Nat×Option Nat)):accC i (t::r) c acc=(i,t::r,c)::acc:=id rfl
@[simp] theorem accC_s (i t:Nat) (r:List Nat) (acc:List (Nat×List Nat×Option Nat)):accC i r (some t) acc=(i,r,some t)::acc:=by cases r<;>rfl
@[simp] theorem prsC_n (i:Nat) (q:List Nat×Option Nat) (prs:List (Nat×Nat)):prsC i q [] prs=prs:=id rfl
@[simp] theorem prsC_c (i:Nat) (q:List Nat×Option Nat) (z:Nat×List Nat×Option Nat) (acc:List (Nat×List Nat×Option Nat)) (prs:List (Nat×Nat)):prsC i q (z::acc) prs=prsC i q acc (if tagC z.2 q=true then (i,z.1)::prs else prs):=id rfl
theorem prsC_chk {ops:List Oper}{i:Nat}{q:List Nat×Option Nat}:∀(acc:List (Nat×List Nat×Option Nat)) (prs:List (Nat×Nat)),chkD ops (prsC i q acc prs)=true->chkD ops prs=true∧∀z∈acc,dOr (tagC z.2 q) (dOr (!dirB ops i z.1) (relB ops i z.1))=true
 | [],prs,h=>⟨h,by simp⟩
 | z::acc,prs,h=>by
  rw[prsC_c]at h
  obtain⟨h1,h2⟩:=prsC_chk acc _ h
  cases ht:tagC z.2 q with
  | false=>
   rw[ht]at h1
   simp only[Bool.false_eq_true,if_false]at h1
   refine⟨h1,?_⟩
   intro z' hz
   rcases List.mem_cons.1 hz with rfl | hz
   ·rw[ht,dOr_f]
   ·exact h2 z' hz
  | true=>
   rw[ht]at h1
   simp only[if_true,chkD,List.all_cons,Bool.and_eq_true]at h1
   refine⟨h1.2,?_⟩
   intro z' hz
   rcases List.mem_cons.1 hz with rfl | hz
   ·rw[ht,dOr_t]
    have h3:=h1.1
    cases hd:dirB ops i z'.1 with
    | true=>rfl
    | false=>rw[hd]at h3;simpa using h3
   ·exact h2 z' hz
def vcX (P:Program) (ρ:Nat->Option CR) (ops:List Oper):Nat->List (Nat×List Nat×Option Nat)->List (Nat×Nat)->List Oper->Env->Heap->(Env->Heap->Prop)->Prop
 | _,_,prs,[],E,H,K=>chkD ops prs=true∧K E H
 | i,acc,prs,o::rest,E,H,K=>∀u b,match fStep P ρ u b ops o E (fun t=>hget t H) with
  | some (p,a,ch)=>p∧vcX P ρ ops (i+1) (accC i (rdT E o) (chT ch) acc) (prsC i (rdT E o,chT ch) acc prs) rest (put E o.dst a) (happ ch H) K
  | none=>False
@[congr] theorem vcX_congr {P:Program}{ρ:Nat->Option CR}{ops:List Oper}{i i':Nat}{acc acc':List (Nat×List Nat×Option Nat)}{prs prs':List (Nat×Nat)}{l l':List Oper}{E:Env}{H H':Heap}{K:Env->Heap->Prop}{z:Prop}(_:(True∧True)=z)
  (h1:i=i') (h2:acc=acc') (h3:prs=prs') (h4:H=H'):vcX P ρ ops i acc prs l E H K=vcX P ρ ops i' acc' prs' l E H' K:=by rw[h1,h2,h3,h4]
theorem vcX_D {ρ:Nat->Option CR}{ops:List Oper}{K:Env->Heap->Prop}:∀(l:List Oper) (i:Nat) (acc:List (Nat×List Nat×Option Nat)) (prs:List (Nat×Nat)) (E:Env) (H:Heap),vcX P ρ ops i acc prs l E H K ->
  chkD ops prs=true∧∀accD:List (Nat×List Nat×Option Nat),(∀z∈accD,z∈acc∨z.2=([],none))->vcD P ρ ops i accD l E H K
 | [],i,acc,prs,E,H,h=>⟨h.1,fun _ _=>h.2⟩
 | o::l,i,acc,prs,E,H,h=>by
  simp only[vcX]at h
  constructor
  ·have h0:=h .nilIface 0
   split at h0
   ·exact (prsC_chk acc prs (vcX_D l _ _ _ _ _ h0.2).1).1
   ·exact h0.elim
  ·intro accD hacc
   simp only[vcD]
   intro u b
   have h0:=h u b
   split at h0
   ·rename_i p a ch hs
    rw[hs]
    obtain⟨k1,k2⟩:=vcX_D l _ _ _ _ _ h0.2
    obtain⟨-,k3⟩:=prsC_chk acc prs k1
    refine⟨h0.1,List.all_eq_true.2 fun z hz=>?_,k2 _ fun z hz=>?_⟩
    ·rcases hacc z hz with h1 | h1
     ·exact k3 z h1
     ·rw[h1]
      have:tagC ([],none) (rdT E o,chT ch)=false:=by
       cases hc:chT ch<;>simp[tagC]
      rw[this,dOr_f]
    ·rcases List.mem_cons.1 hz with rfl | hz
     ·generalize rdT E o=r
      generalize chT ch=c
      cases r with
      | nil=>cases c with
       | none=>exact .inr rfl
       | some t=>exact .inl (by simp)
      | cons t r=>exact .inl (by simp)
     ·rcases hacc z hz with h1 | h1
      ·left
       generalize rdT E o=r
       generalize chT ch=c
       cases r with
       | nil=>cases c with
        | none=>exact h1
        | some t=>simp[h1]
       | cons t r=>simp[h1]
      ·exact .inr h1
   ·exact h0.elim
theorem V.drawX {n:Nat}{id:Nat}{ops:Array Oper}{E:Env}{H:Heap}{Q:PostQ}(ρ:Nat->Option CR) (hm:P.follows .mixedOrders=true) (hd:depB ops.toList=true) (hn:(H.map (·.1)).Nodup)
  (h:vcX P ρ ops.toList 0 [] [] ops.toList E H fun E' H'=>Q .normal E' H'):V ⟨P,none,n⟩ (.region id ops true) E H Q:=
 V.draw ρ hm hd hn ((vcX_D _ _ _ _ _ _ h).2 [] (by simp))
attribute [simp] vcX
end
section
variable {P:Program}
def restO:Nat->Code->Option Code
 | 0,c=>some c
 | k+1,.seq _ b=>restO k b
 | _,_=>none
def restF (f:Func) (k:Nat):Option Code:=match f.body with
 | some c=>restO k c
 | none=>none
def restC (f:Func) (k:Nat):Code:=(restF f k).getD .skip
def vcN (C:Cfg):Nat->Code->Env->Heap->PostQ->Prop
 | 0,c,E,H,Q=>V C c E H Q
 | k+1,.seq a b,E,H,Q=>vcC C a E H fun e E' H'=>match e with
  | .normal=>vcN C k b E' H' Q
  | .exit i=>Q (.exit i) E' H'
  | .ret=>Q .ret E' H'
  | _=>False
 | _+1,c,E,H,Q=>vcC C c E H Q
theorem vcN_ok {C:Cfg}:∀(k:Nat) (c:Code) (E:Env) (H:Heap) (Q:PostQ),fitsC C.n c=true->vcN C k c E H Q->W C c E H Q
 | 0,c,E,H,Q,hf,h=>h hf
 | k+1,c,E,H,Q,hf,h=>by
  cases c with
  | seq a b=>
   simp only[fitsC,Bool.and_eq_true]at hf
   refine W.seq ((vcC_ok a E H _ hf.1 h).mono ?_)
   intro e E' H' hq
   cases e with
   | normal=>exact vcN_ok k b E' H' Q hf.2 hq
   | exit i=>exact hq
   | ret=>exact hq
   | goto l=>exact hq
   | panic c=>exact hq
   | outgrown=>exact hq
  | _=>exact vcC_ok _ E H Q hf h
theorem callS_cut (k:Nat) {g:FuncId}{fn:Func}{c:Code}{n:Nat}{rs:List ResultVar}{az:List A}{H:Heap}{K:A->Heap->Prop}(hf:P.funcs[g]?=some fn) (hb:fn.body=some c) (hn:fn.ntmps=n)
  (hr:fn.results=rs.toArray) (hnm:(fn.name == "runtime.NumGoroutine")=false) (hl:az.length<=n) (hfit:fitsC n c=true)
  (h:vcN ⟨P,none,n⟩ k c (envOf az) H (RetV P rs K)):CallS P g az H K:=callS_ofW hf hb hn hr hnm hl hfit (vcN_ok k c _ H _ hfit h)
theorem callFz_cut (k:Nat) {g:FuncId}{fn:Func}{c:Code}{n:Nat}{rs:List ResultVar}{az:List A}{r:A}(hf:P.funcs[g]?=some fn) (hb:fn.body=some c) (hn:fn.ntmps=n)
  (hr:fn.results=rs.toArray) (hnm:(fn.name == "runtime.NumGoroutine")=false) (hl:az.length<=n) (hfit:fitsC n c=true)
  (h:vcN ⟨P,none,n⟩ k c (envOf az) [] (RetV P rs fun r' H'=>(frz H' r').1∧(frz H' r').2=r)):CallFn P g az r:=
 (callS_ofW hf hb hn hr hnm hl hfit (vcN_ok k c _ [] _ hfit h)).frz fun _ _ h=>h
attribute [simp] vcN
end
section
variable {P:Program}
abbrev Sq:=Value×TypeId×Nat×List (List A)
def sq (q:Sq):Ent:=.seq q.1 q.2.1 q.2.2.1 q.2.2.2
theorem inv_shut {x:X}{t u:Nat}{q:Sq}{l:List Sq}{H:Heap}(h:Inv x ((u,sq q)::(t,.seqs l)::H)):Inv x ((t,.seqs (q::l))::H):=by
 have s1:Ent.sat x (sq q):=h.sat (u,sq q) (by simp)
 have s2:Ent.sat x (.seqs l):=h.sat (t,.seqs l) (by simp)
 have ap:=List.pairwise_cons.1 h.apart
 have ap2:=List.pairwise_cons.1 ap.2
 refine⟨h.bd,?_,?_,?_⟩
 ·intro p hp
  rcases List.mem_cons.1 hp with rfl | hp
  ·refine⟨fun q' hq'=>?_,List.pairwise_cons.2 ⟨fun q' hq' b hb=>?_,s2.2⟩⟩
   ·rcases List.mem_cons.1 hq' with rfl | hq'
    ·exact s1
    ·exact s2.1 q' hq'
   ·intro hb2
    exact ap.1 (t,.seqs l) (by simp) b hb ⟨q',hq',hb2⟩
  ·exact h.sat p (by simp[hp])
 ·intro p hp b hb
  rcases List.mem_cons.1 hp with rfl | hp
  ·obtain⟨q',hq',hb2⟩:=hb
   rcases List.mem_cons.1 hq' with rfl | hq'
   ·exact h.own (u,sq q') (by simp) b hb2
   ·exact h.own (t,.seqs l) (by simp) b ⟨q',hq',hb2⟩
  ·exact h.own p (by simp[hp]) b hb
 ·refine List.pairwise_cons.2 ⟨fun p hp b hb=>?_,ap2.2⟩
  obtain⟨q',hq',hb2⟩:=hb
  rcases List.mem_cons.1 hq' with rfl | hq'
  ·exact ap.1 p (by simp[hp]) b hb2
  ·exact ap2.1 p hp b ⟨q',hq',hb2⟩
theorem inv_open {x:X}{t u:Nat}{q:Sq}{l:List Sq}{H:Heap}(h:Inv x ((t,.seqs (q::l))::H)):Inv x ((u,sq q)::(t,.seqs l)::H):=by
 have s:Ent.sat x (.seqs (q::l)):=h.sat (t,.seqs (q::l)) (by simp)
 obtain⟨s1,s2⟩:=s
 have s3:=List.pairwise_cons.1 s2
 have ap:=List.pairwise_cons.1 h.apart
 refine⟨h.bd,?_,?_,?_⟩
 ·intro p hp
  rcases List.mem_cons.1 hp with rfl | hp
  ·exact s1 q (by simp)
  ·rcases List.mem_cons.1 hp with rfl | hp
   ·exact⟨fun q' hq'=>s1 q' (by simp[hq']),s3.2⟩
   ·exact h.sat p (by simp[hp])
 ·intro p hp b hb
  rcases List.mem_cons.1 hp with rfl | hp
  ·exact h.own (t,.seqs (q::l)) (by simp) b ⟨q,by simp,hb⟩
  ·rcases List.mem_cons.1 hp with rfl | hp
   ·obtain⟨q',hq',hb2⟩:=hb
    exact h.own (t,.seqs (q::l)) (by simp) b ⟨q',by simp[hq'],hb2⟩
   ·exact h.own p (by simp[hp]) b hb
 ·refine List.pairwise_cons.2 ⟨fun p hp b hb hb2=>?_,List.pairwise_cons.2 ⟨fun p hp b hb=>?_,ap.2⟩⟩
  ·rcases List.mem_cons.1 hp with rfl | hp
   ·obtain⟨q',hq',hb3⟩:=hb2
    exact s3.1 q' hq' b hb hb3
   ·exact ap.1 p hp b ⟨q,by simp,hb⟩ hb2
  ·obtain⟨q',hq',hb3⟩:=hb
   exact ap.1 p hp b ⟨q',by simp[hq'],hb3⟩
theorem inv_shuffle {x:X}{t:Nat}{l l':List Sq}{H:Heap}(hp:l.Perm l') (h:Inv x ((t,.seqs l)::H)):Inv x ((t,.seqs l')::H):=by
 have ap:=List.pairwise_cons.1 h.apart
 have s:Ent.sat x (.seqs l):=h.sat (t,.seqs l) (by simp)
 refine⟨h.bd,?_,?_,List.pairwise_cons.2 ⟨?_,ap.2⟩⟩
 ·intro p hpp
  rcases List.mem_cons.1 hpp with rfl | hpp
  ·refine⟨fun q hq=>s.1 q (hp.mem_iff.2 hq),(hp.pairwise_iff ?_).1 s.2⟩
   intro a b hab k h1 h2
   exact hab k h2 h1
  ·exact h.sat p (by simp[hpp])
 ·intro p hpp b hb
  rcases List.mem_cons.1 hpp with rfl | hpp
  ·obtain⟨q,hq,hb2⟩:=hb
   exact h.own (t,.seqs l) (by simp) b ⟨q,hp.mem_iff.2 hq,hb2⟩
  ·exact h.own p (by simp[hpp]) b hb
 ·intro p hpp b hb
  obtain⟨q,hq,hb2⟩:=hb
  exact ap.1 p hpp b ⟨q,hp.mem_iff.2 hq,hb2⟩
theorem inv_other {x:X}{t u:Nat}{a b:Sq}{l l':List Sq}{H:Heap}(hp:(a::l).Perm (b::l')) (h:Inv x ((u,sq a)::(t,.seqs l)::H)):Inv x ((u,sq b)::(t,.seqs l')::H):=
 inv_open (inv_shuffle hp (inv_shut h))
theorem CallS.inv {g:FuncId}{az az':List A}{H H':Heap}{K:A->Heap->Prop}(hi:∀x H0,Inv x (H++H0)->Inv x (H'++H0)) (ha:∀x vs,Ds x az vs->Ds x az' vs) (h:CallS P g az' H' K):CallS P g az H K:=
 ⟨h.1,fun x args H0 hx hd=>h.2 x args H0 (hi x H0 hx) (ha x _ hd)⟩
theorem V.inv {C:Cfg}{c:Code}{E:Env}{H H':Heap}{Q:PostQ}(hi:∀x H0,Inv x (H++H0)->Inv x (H'++H0)) (h:V C c E H' Q):V C c E H Q:=by
 intro hf x act H0 ms hx he
 exact h hf x act H0 ms (hi x _ hx) he
end
section
variable {P:Program}
end
section
variable {P:Program}
def endC (P:Program) (o:Oper) (E:Env) (H:Heap) (K:Env->Heap->Prop):Prop:=match callA E o.op with
 | some (p,g,az)=>p∧CallS P g az H fun r H'=>K (put E o.dst r) H'
 | none=>False
attribute [simp] endC
end
section
variable {P:Program}
def Gh (Q:Env->Heap->Prop) (E:Env) (H:Heap):Prop:=
 ∀(n:Nat) (ds:List Deferred) (x:X) (act:Act) (H0:Heap),Inv x (H++H0)->EnvOK n ds x act E ->
  ∃(y:X) (E':Env) (H':Heap),y.w=x.w∧x.le y∧Inv y (H'++H0)∧EnvOK n ds y act E'∧Q E' H'
theorem Gh.here {Q:Env->Heap->Prop}{E:Env}{H:Heap}(h:Q E H):Gh Q E H:=
 fun _ _ x _ _ hi he=>⟨x,E,H,rfl,.refl x,hi,he,h⟩
@[congr] theorem Gh_congr {Q:Env->Heap->Prop}{E:Env}{H H':Heap}{z:Prop}(_:(True∧True)=z) (h:H=H'):Gh Q E H=Gh Q E H':=by rw[h]
theorem Gh.inv {Q:Env->Heap->Prop}{E:Env}{H H':Heap}(hi:∀x H0,Inv x (H++H0)->Inv x (H'++H0)) (h:Gh Q E H'):Gh Q E H:=
 fun n ds x act H0 hx he=>h n ds x act H0 (hi x H0 hx) he
theorem V.gh {C:Cfg}{c:Code}{E:Env}{H:Heap}{Q:PostQ}(h:V C c E H fun e E' H'=>Gh (Q e) E' H'):V C c E H Q:=by
 intro hf x act H0 ms hi he
 refine wpIn_mono (h hf x act H0 ms hi he) ?_
 rintro e a w ⟨y,E1,H1,ms',rfl,l1,i1,e1,g⟩
 obtain⟨z,E2,H2,w2,l2,i2,e2,h2⟩:=g C.n (ms'.map mk) y a _ i1 e1
 exact⟨z,E2,H2,ms',w2,l1.trans l2,i2,e2,h2⟩
theorem V.ofG {C:Cfg}{c:Code}{E:Env}{H:Heap}{Q:PostQ}(h:Gh (fun E' H'=>V C c E' H' Q) E H):V C c E H Q:=by
 intro hf x act H0 ms hi he
 obtain⟨z,E2,H2,w2,l2,i2,e2,h2⟩:=h C.n (ms.map mk) x act _ hi he
 have:=h2 hf z act H0 ms i2 e2
 rw[w2]at this
 exact wpIn_mono this fun _ _ _=>Post.le l2 fun _ _ _ h=>h
theorem freeze1 {x:X}{τ:Nat}{h:Value}{e sz:Nat}{rows:List (List A)}{H H0:Heap}(hH:hget τ H=some (.seq h e sz rows)) (hd:allD rows=true) (hi:Inv x (H++H0)) :
  ∃y:X,y.w=x.w∧x.le y∧Inv y (hdel τ H++H0)∧RdL y (.sl (rowsD rows)) h:=by
 have hp:=hdel_perm hH
 have hi1:Inv x ([(τ,.seq h e sz rows)]++(hdel τ H++H0)):=by
  have:=hi.perm (hp.symm.append_right H0)
  simpa using this
 obtain⟨y,hw,hle,hi2,hok,_⟩:=hi1.freeze
 exact⟨y,hw,hle,hi2,seq_data (Ent.sat_step hle (fun b _=>by rw[hw]) (hi1.sat (τ,.seq h e sz rows) (by simp))) (fun b hb=>hok b ⟨_,List.mem_singleton.2 rfl,hb⟩) hd⟩
theorem Ds_app {x:X}{a b:List A}{vs:List Value}(h:Ds x (a++b) vs):Ds x a (vs.take a.length)∧Ds x b (vs.drop a.length):=by
 have h1:=h.take a.length
 have h2:=h.drop a.length
 rw[List.take_left]at h1
 rw[List.drop_left]at h2
 exact⟨h1,h2⟩
theorem Ds_set {x:X}{a a':A}(hd:∀v,D x a v->D x a' v):∀ {r:List A}{vs:List Value}{j:Nat},r[j]?=some a->Ds x r vs->Ds x (r.set j a') vs
 | [],_,_,h,_=>by simp at h
 | _::_,[],_,_,h=>by simp[Ds]at h
 | b::r,v::vs,0,hj,h=>by
  simp only[List.getElem?_cons_zero,Option.some.injEq]at hj
  subst hj
  simp only[Ds]at h
  simp only[List.set_cons_zero,Ds]
  exact⟨hd v h.1,h.2⟩
 | b::r,v::vs,j+1,hj,h=>by
  simp only[List.getElem?_cons_succ]at hj
  simp only[Ds]at h
  simp only[List.set_cons_succ,Ds]
  exact⟨h.1,Ds_set hd hj h.2⟩
theorem Ds_rows {x:X}{r r':List A}(hd:∀vs,Ds x r vs->Ds x r' vs):∀ {rs:List (List A)}{vs:List Value}{i:Nat},rs[i]?=some r->Ds x rs.flatten vs->Ds x (rs.set i r').flatten vs
 | [],_,_,h,_=>by simp at h
 | q::rs,vs,0,hj,h=>by
  simp only[List.getElem?_cons_zero,Option.some.injEq]at hj
  subst hj
  simp only[List.flatten_cons]at h
  obtain⟨h1,h2⟩:=Ds_app h
  simp only[List.set_cons_zero,List.flatten_cons]
  rw[<- List.take_append_drop q.length vs]
  exact (hd _ h1).append h2
 | q::rs,vs,i+1,hj,h=>by
  simp only[List.getElem?_cons_succ]at hj
  simp only[List.flatten_cons]at h
  obtain⟨h1,h2⟩:=Ds_app h
  simp only[List.set_cons_succ,List.flatten_cons]
  rw[<- List.take_append_drop q.length vs]
  exact h1.append (Ds_rows hd hj h2)
theorem seq_swap {x:X}{hh:Value}{e sz i:Nat}{rs:List (List A)}{r r':List A}(hr:rs[i]?=some r) (hl:r'.length=r.length) (hd:∀vs,Ds x r vs->Ds x r' vs) (hs:Ent.sat x (.seq hh e sz rs)):Ent.sat x (.seq hh e sz (rs.set i r')):=by
 obtain⟨xs,ho,h1,h2⟩:=hs
 refine⟨xs,by simpa using ho,?_,Ds_rows hd hr h2⟩
 intro q hq
 rcases List.mem_or_eq_of_mem_set hq with hq | rfl
 ·exact h1 q hq
 ·rw[hl];exact h1 r (List.mem_of_getElem? hr)
theorem Inv.swap {x:X}{g:Nat}{e e':Ent}{H H0:Heap}(hg:hget g H=some e) (hs:e.sat x->e'.sat x) (ho:∀b,e'.own b->e.own b) (hi:Inv x (H++H0)):Inv x (hset g e' H++H0):=by
 have h1:Inv x ((g,e)::(hdel g H++H0)):=hi.perm ((hdel_perm hg).symm.append_right H0)
 have h2:Inv x ((g,e')::(hdel g H++H0)):=by
  refine⟨h1.bd,?_,?_,?_⟩
  ·intro p hp
   rcases List.mem_cons.1 hp with rfl | hp
   ·exact hs (h1.sat (g,e) (by simp))
   ·exact h1.sat p (by simp only[List.mem_cons];exact .inr hp)
  ·intro p hp b hb
   rcases List.mem_cons.1 hp with rfl | hp
   ·exact h1.own (g,e) (by simp) b (ho b hb)
   ·exact h1.own p (by simp only[List.mem_cons];exact .inr hp) b hb
  ·have:=List.pairwise_cons.1 h1.apart
   exact List.pairwise_cons.2 ⟨fun q hq b hb=>this.1 q hq b (ho b hb),this.2⟩
 exact h2.perm ((hset_perm hg).append_right H0).symm
theorem rowNil_inv {x:X}{H H0:Heap}{g τ i j:Nat}{hh:Value}{e sz:Nat}{rs:List (List A)}{r:List A}(e' sz':Nat) (hg:hget g H=some (.seq hh e sz rs)) (hr:rs[i]?=some r) (hj:r[j]?=some .nils) (hi:Inv x (H++H0)) :
  Inv x (((τ,.seq (.slice none 0 0) e' sz' [])::hset g (.seq hh e sz (rs.set i (r.set j (.own τ (.slice none 0 0))))) H)++H0):=by
 have h1:=hi.swap (e':=.seq hh e sz (rs.set i (r.set j (.own τ (.slice none 0 0))))) hg (fun hs=>seq_swap hr (by simp) (fun vs hv=>Ds_set (fun v hv=>by
  simp only[D]at hv ⊢
  subst hv
  exact⟨rfl,_,_,_,rfl⟩) hj hv) hs) (fun b hb=>hb)
 exact Inv.nil (t:=τ) h1 ⟨rfl,rfl⟩
theorem Gh.frzBox {Q:Env->Heap->Prop}{E:Env}{H:Heap}{g τ j b:Nat}{h:Value}{e sz:Nat}{rows:List (List A)}{cs:List A}{t:Nat}(hg:hget g (hdel τ H)=some (.box b cs)) (hH:hget τ H=some (.seq h e sz rows)) (hd:allD rows=true)
  (hj:cs[j]?=some (.own t h)) (hq:Gh Q E (hset g (.box b (cs.set j (.dat (.sl (rowsD rows))))) (hdel τ H))):Gh Q E H:=by
 intro n ds x act H0 hi he
 obtain⟨y,hw,hle,hi2,hrd⟩:=freeze1 hH hd hi
 have hi3:Inv y (hset g (.box b (cs.set j (.dat (.sl (rowsD rows))))) (hdel τ H)++H0):=
  hi2.swap hg (fun ⟨c,ty,h1,h2⟩=>⟨c,ty,h1,Ds_set (fun v hv=>by simp only[D]at hv ⊢;rw[hv.1];exact hrd) hj h2⟩) (fun b hb=>hb)
 obtain⟨z,E2,H2,w2,l2,i2,e2,h2⟩:=hq n ds y act H0 hi3 (he.mono hle)
 exact⟨z,E2,H2,w2.trans hw,hle.trans l2,i2,e2,h2⟩
def vcF (P:Program) (ρ:Nat->Option CR) (T:List Nat) (ops:List Oper):List Oper->Env->Heap->(Env->Heap->Prop)->Prop
 | [],E,H,K=>K E H
 | o::rest,E,H,K=>∀u b,match T.contains (o.dst.getD 0)&&o.guard.isNone with
  | true=>match heapF P u b (o.dst.getD 0) E (fun t=>hget t H) o.op with
   | some (p,a,ch)=>p∧vcF P ρ T ops rest (put E o.dst a) (happ ch H) K
   | none=>False
  | false=>match fStep P ρ u b ops o E (fun t=>hget t H) with
   | some (p,a,ch)=>p∧vcF P ρ T ops rest (put E o.dst a) (happ ch H) K
   | none=>False
@[congr] theorem vcF_congr {P:Program}{ρ:Nat->Option CR}{T:List Nat}{ops:List Oper}{l:List Oper}{E:Env}{H H':Heap}{K:Env->Heap->Prop}{z:Prop}(_:(True∧True)=z)
  (h:H=H'):vcF P ρ T ops l E H K=vcF P ρ T ops l E H' K:=by rw[h]
theorem vcF_ok {ρ:Nat->Option CR}{T:List Nat}{ops:List Oper}{n:Nat}{ds:List Deferred}{H0:Heap}{x0:X}{Q:Exit->Act->World->Prop}:∀(l:List Oper) (k:Nat) (E:Env) (H:Heap) (K:Env->Heap->Prop),ops.drop k=l->(∀o∈l,fits n o.dst)->vcF P ρ T ops l E H K ->
  (∀E H x act,K E H->x0.le x->Inv x (H++H0)->EnvOK n ds x act E->Q .normal act x.w)->∀x act,x0.le x->Inv x (H++H0)->EnvOK n ds x act E->wpOps P ops.toArray Q ((List.range' k l.length)) act x.w
 | [],k,E,H,K,_,_,h,hq,x,act,hle,hi,he=>by
  simp only[List.length_nil,List.range'_zero,wpOps]
  exact hq _ _ x act h hle hi he
 | o::rest,k,E,H,K,hk,hf,h,hq,x,act,hle,hi,he=>by
  have ho:ops[k]?=some o:=by
   have:=congrArg (·[0]?) hk
   simpa [List.getElem?_drop]using this
  have hk':ops.drop (k+1)=rest:=by
   rw[<- List.drop_drop,hk]
   rfl
  simp only[List.length_cons,List.range'_succ]
  rw[wpOps_cons]
  simp only[vcF]at h
  cases hT:(T.contains (o.dst.getD 0)&&o.guard.isNone) with
  | true=>
   rw[hT]at h
   dsimp only at h
   have hg:o.guard=none:=by
    have:=(Bool.and_eq_true_iff.1 hT).2
    cases hgd:o.guard with
    | none=>rfl
    | some _=>rw[hgd]at this;simp at this
   have hw:Region.wanted o (yielded ops.toArray act.tmps)=true:=by simp[Region.wanted,hg]
   obtain⟨u,b,v,y,p,a,ch,h1,h2,h3,h4,h5,h6⟩:=heapF_ok (P:=P) (o:=o) (E:=E) (τ:=o.dst.getD 0) (fun u b=>by
    have:=h u b
    split at this
    ·rename_i p a ch hh;exact⟨p,a,ch,hh,this.1⟩
    ·exact this.elim) (fun t=>rfl) hi he
   have hk2:=h u b
   rw[h1]at hk2
   have fin:∀v,D y a v->wpOps P ops.toArray Q (List.range' (k+1) rest.length) (act.put o.dst v) y.w:=fun v hd=>
    vcF_ok rest (k+1) _ _ K hk' (fun o ho=>hf o (by simp[ho])) hk2.2 hq y _ (hle.trans h4) h5 ((he.mono h4).put (hf o (by simp)) hd)
   unfold wpOp
   rw[show ops.toArray[k]?=some o by simpa using ho]
   simp only
   rw[if_pos hw]
   left
   show o.upon P act _ Q _
   rcases h3 with h3 | ⟨h3,rfl⟩
   ·rw[h3];exact fin v h6
   ·rw[h3];exact fin Go.undef h6
  | false=>
   rw[hT]at h
   dsimp only at h
   refine fStep_ok (ρ:=ρ) (fun u b=>?_) (fun t=>rfl) hi he (by simpa using ho) ?_
   ·have:=h u b
    split at this
    ·rename_i p a ch hh;exact⟨p,a,ch,hh,this.1⟩
    ·exact this.elim
   ·intro u b p a ch v y hh hle2 hi2 hd
    have:=h u b
    rw[hh]at this
    exact vcF_ok rest (k+1) _ _ K hk' (fun o ho=>hf o (by simp[ho])) this.2 hq y _ (hle.trans hle2) hi2 ((he.mono hle2).put (hf o (by simp)) hd)
theorem V.regF {n:Nat}{id:Nat}{ops:Array Oper}{E:Env}{H:Heap}{Q:PostQ}(ρ:Nat->Option CR) (T:List Nat) (h:vcF P ρ T ops.toList ops.toList E H fun E' H'=>Q .normal E' H'):V ⟨P,none,n⟩ (.region id ops false) E H Q:=by
 intro hf x act H0 ms hi he
 refine wpIn_wide.2 (wp_region ?_)
 have:=vcF_ok (P:=P) (ρ:=ρ) (T:=T) (n:=n) (ds:=ms.map mk) (x0:=x) (Q:=Post n H0 Q x) ops.toList 0 E H _ rfl (fitsOps_ok hf) h (fun E H y act hK hle hi he=>⟨y,E,H,ms,rfl,hle,hi,he,hK⟩) x act (.refl x) hi he
 rw[List.range_eq_range']
 simpa using this
theorem V.seq {C:Cfg}{a b:Code}{E:Env}{H:Heap}{Q:PostQ}(h:V C a E H fun e E' H'=>match e with
  | .normal=>vcC C b E' H' Q
  | .exit i=>Q (.exit i) E' H'
  | .ret=>Q .ret E' H'
  | _=>False):V C (.seq a b) E H Q:=by
 intro hf
 simp only[fitsC,Bool.and_eq_true]at hf
 refine W.seq ((h hf.1).mono ?_)
 intro e E' H' hq
 cases e<;>first | exact vcC_ok b _ _ _ hf.2 hq | exact hq
theorem CallFn.give {g:FuncId}{az az':List A}{Hc Hr H:Heap}{K:A->Heap->Prop}{r:A}(h:CallFn P g az' r) (hH:H=Hc++Hr) (hz:(frzs Hc az).1∧(frzs Hc az).2=az') (hk:K r Hr):CallS P g az H K:=by
 subst hH
 obtain⟨hz1,rfl⟩:=hz
 refine⟨h.1,fun x args H0 hi hd=>?_⟩
 rw[List.append_assoc]at hi
 obtain⟨x',hw,hle,hi0,hok,_⟩:=hi.freeze
 have hd':=frzs_ok hi hle hw hok az _ hd hz1
 have:=(CallS.frame (H1:=Hr) h).2 x' args H0 (by simpa using hi0) hd'
 rw[hw]at this
 refine this.mono ?_
 rintro _ _ ⟨y,v,r',H',rfl,rfl,hley,hiy,hv,H2,⟨rfl,rfl⟩,rfl⟩
 exact⟨y,v,_,_,rfl,rfl,hle.trans hley,by simpa using hiy,hv,hk⟩
attribute [simp] vcF
end
section
variable {P:Program}
end
section
variable {P:Program}
def rStep (P:Program) (ρ:Nat->Option CR) (o:Oper) (E:Env) (G:Nat->Option Ent):Option (Prop×A):=match o.guard with
 | some _=>none
 | none=>match pureA P E o.op with
  | some r=>some r
  | none=>match callA E o.op with
   | some (p,g,az)=>match ρ (o.dst.getD 0) with
    | some (.fn r)=>some (p∧CallFn P g az r,r)
    | some (.ro r)=>some (p∧(rdT E o).Nodup∧CallS P g az (entsOf G (rdT E o)) (fun r' H'=>r'=r∧H'=entsOf G (rdT E o)),r)
    | _=>none
   | none=>match heapF P .nilIface 0 0 E G o.op,reads o.op with
    | some (p,a,none),true=>some (p,a)
    | _,_=>none
def rr (av:Nat->A) (k:Nat) (r:A):Nat->Option (Prop×A×Option (Nat×Ent)):=fun i=>some (True,if i=k then r else av i,none)
section main
variable {ρ:Nat->Option CR}{ops:List Oper}{E0:Env}{H:Heap}{k:Nat}{R:List Nat}{av:Nat->A}
end main
def againC (P:Program) (ρ:Nat->Option CR) (H:Heap):List (Oper×Env×A)->Prop
 | []=>True
 | q::r=>(match rStep P ρ q.1 q.2.1 (fun t=>hget t H) with
  | some (p,a)=>p∧a=q.2.2
  | none=>False)∧againC P ρ H r
def vcM (P:Program) (ρ:Nat->Option CR) (k:Nat) (R:List Nat) (H:Heap) (K:List (Oper×Env×A)->Oper->Env->Env->Prop):Nat->List (Oper×Env×A)->Option (Oper×Env)->List Oper->Env->Prop
 | _,acc,some (ok,Ek),[],E=>K acc ok Ek E
 | _,_,none,[],_=>False
 | i,acc,c,o::rest,E=>if i=k then vcM P ρ k R H K (i+1) acc (some (o,E)) rest (put E o.dst .any) else match rStep P ρ o E (fun t=>hget t H) with
  | some (p,a)=>p∧vcM P ρ k R H K (i+1) (if R.contains i then (o,E,a)::acc else acc) c rest (put E o.dst a)
  | none=>False
def endM (P:Program) (ρ:Nat->Option CR) (o:Oper) (E:Env) (H:Heap) (K:Env->Heap->Prop):Prop:=∀u b,match fStep0 P ρ u b [] o E (fun t=>hget t H) with
 | some (p,a,ch)=>p∧K (put E o.dst a) (happ ch H)
 | none=>False
attribute [simp] rStep againC vcM endM
end
section
variable {P:Program}
def Sees (a b:A):Prop:=∀x v,D x a v->D x b v
def swA (sw:Nat->Option A) (o:Oper) (a:A):A:=(sw (o.dst.getD 0)).getD a
def swP (sw:Nat->Option A) (o:Oper) (a:A):Prop:=match sw (o.dst.getD 0) with
 | some b=>Sees a b
 | none=>True
theorem sw_ok {sw:Nat->Option A}{o:Oper}{a:A}(h:swP sw o a) {x:X}{v:Value}(hv:D x a v):D x (swA sw o a) v:=by
 unfold swA
 unfold swP at h
 split at h
 ·rename_i b hb
  rw[hb]
  exact h x v hv
 ·rename_i hb
  rw[hb]
  exact hv
def vcS (P:Program) (ρ:Nat->Option CR) (T:List Nat) (sw:Nat->Option A) (ops:List Oper):List Oper->Env->Heap->(Env->Heap->Prop)->Prop
 | [],E,H,K=>K E H
 | o::rest,E,H,K=>∀u b,match T.contains (o.dst.getD 0)&&o.guard.isNone with
  | true=>match heapF P u b (o.dst.getD 0) E (fun t=>hget t H) o.op with
   | some (p,a,ch)=>p∧swP sw o a∧vcS P ρ T sw ops rest (put E o.dst (swA sw o a)) (happ ch H) K
   | none=>False
  | false=>match fStep P ρ u b ops o E (fun t=>hget t H) with
   | some (p,a,ch)=>p∧swP sw o a∧vcS P ρ T sw ops rest (put E o.dst (swA sw o a)) (happ ch H) K
   | none=>False
@[congr] theorem vcS_congr {P:Program}{ρ:Nat->Option CR}{T:List Nat}{sw:Nat->Option A}{ops:List Oper}{l:List Oper}{E:Env}{H H':Heap}{K:Env->Heap->Prop}{z:Prop}(_:(True∧True)=z)
  (h:H=H'):vcS P ρ T sw ops l E H K=vcS P ρ T sw ops l E H' K:=by rw[h]
theorem vcS_ok {ρ:Nat->Option CR}{T:List Nat}{sw:Nat->Option A}{ops:List Oper}{n:Nat}{ds:List Deferred}{H0:Heap}{x0:X}{Q:Exit->Act->World->Prop}:∀(l:List Oper) (k:Nat) (E:Env) (H:Heap) (K:Env->Heap->Prop),ops.drop k=l->(∀o∈l,fits n o.dst)->vcS P ρ T sw ops l E H K ->
  (∀E H x act,K E H->x0.le x->Inv x (H++H0)->EnvOK n ds x act E->Q .normal act x.w)->∀x act,x0.le x->Inv x (H++H0)->EnvOK n ds x act E->wpOps P ops.toArray Q ((List.range' k l.length)) act x.w
 | [],k,E,H,K,_,_,h,hq,x,act,hle,hi,he=>by
  simp only[List.length_nil,List.range'_zero,wpOps]
  exact hq _ _ x act h hle hi he
 | o::rest,k,E,H,K,hk,hf,h,hq,x,act,hle,hi,he=>by
  have ho:ops[k]?=some o:=by
   have:=congrArg (·[0]?) hk
   simpa [List.getElem?_drop]using this
  have hk':ops.drop (k+1)=rest:=by
   rw[<- List.drop_drop,hk]
   rfl
  simp only[List.length_cons,List.range'_succ]
  rw[wpOps_cons]
  simp only[vcS]at h
  cases hT:(T.contains (o.dst.getD 0)&&o.guard.isNone) with
  | true=>
   rw[hT]at h
   dsimp only at h
   have hg:o.guard=none:=by
    have:=(Bool.and_eq_true_iff.1 hT).2
    cases hgd:o.guard with
    | none=>rfl
    | some _=>rw[hgd]at this;simp at this
   have hw:Region.wanted o (yielded ops.toArray act.tmps)=true:=by simp[Region.wanted,hg]
   obtain⟨u,b,v,y,p,a,ch,h1,h2,h3,h4,h5,h6⟩:=heapF_ok (P:=P) (o:=o) (E:=E) (τ:=o.dst.getD 0) (fun u b=>by
    have:=h u b
    split at this
    ·rename_i p a ch hh;exact⟨p,a,ch,hh,this.1⟩
    ·exact this.elim) (fun t=>rfl) hi he
   have hk2:=h u b
   rw[h1]at hk2
   have fin:∀v,D y a v->wpOps P ops.toArray Q (List.range' (k+1) rest.length) (act.put o.dst v) y.w:=fun v hd=>
    vcS_ok rest (k+1) _ _ K hk' (fun o ho=>hf o (by simp[ho])) hk2.2.2 hq y _ (hle.trans h4) h5 ((he.mono h4).put (hf o (by simp)) (sw_ok hk2.2.1 hd))
   unfold wpOp
   rw[show ops.toArray[k]?=some o by simpa using ho]
   simp only
   rw[if_pos hw]
   left
   show o.upon P act _ Q _
   rcases h3 with h3 | ⟨h3,rfl⟩
   ·rw[h3];exact fin v h6
   ·rw[h3];exact fin Go.undef h6
  | false=>
   rw[hT]at h
   dsimp only at h
   refine fStep_ok (ρ:=ρ) (fun u b=>?_) (fun t=>rfl) hi he (by simpa using ho) ?_
   ·have:=h u b
    split at this
    ·rename_i p a ch hh;exact⟨p,a,ch,hh,this.1⟩
    ·exact this.elim
   ·intro u b p a ch v y hh hle2 hi2 hd
    have:=h u b
    rw[hh]at this
    exact vcS_ok rest (k+1) _ _ K hk' (fun o ho=>hf o (by simp[ho])) this.2.2 hq y _ (hle.trans hle2) hi2 ((he.mono hle2).put (hf o (by simp)) (sw_ok this.2.1 hd))
theorem V.seqV {C:Cfg}{a b:Code}{E:Env}{H:Heap}{Q:PostQ}(h:V C a E H fun e E' H'=>match e with
  | .normal=>V C b E' H' Q
  | .exit i=>Q (.exit i) E' H'
  | .ret=>Q .ret E' H'
  | _=>False):V C (.seq a b) E H Q:=by
 intro hf
 simp only[fitsC,Bool.and_eq_true]at hf
 refine W.seq ((h hf.1).mono ?_)
 intro e E' H' hq
 cases e with
 | normal=>exact hq hf.2
 | exit i=>exact hq
 | ret=>exact hq
 | goto l=>exact hq
 | panic c=>exact hq
 | outgrown=>exact hq
attribute [simp] vcS swA swP
end
end Go.Proofs.YtafamcbdaeppoaaGreatDoor
