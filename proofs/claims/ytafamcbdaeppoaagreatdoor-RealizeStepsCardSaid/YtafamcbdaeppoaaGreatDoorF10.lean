/- Texts joined by a program: Fwu,Fwv,Ca,Cb,Cc. -/
import Derived.Test.YtafamcbdaeppoaaGreatDoorF9
set_option linter.unusedSimpArgs false
set_option linter.unusedVariables false
set_option maxHeartbeats 2000000
set_option maxRecDepth 10000
namespace Go.Proofs.YtafamcbdaeppoaaGreatDoor
section
variable {P:Program}
def wk (a b:A):Prop:=a=b∨(a=.nils∧(b=.dat (.sl [])∨∃t,b=.own t (.slice none 0 0)))
@[simp] theorem wk_refl (a:A):wk a a=True:=by simp[wk]
@[simp] theorem wk_own (t:Nat):wk .nils (.own t (.slice none 0 0))=True:=by simp[wk]
@[simp] theorem wk_int (k:IntKind) (a b:Int):wk (.dat (.int k a)) (.dat (.int k b))=(a=b):=by simp[wk]
@[simp] theorem wk_bool (a b:Bool):wk (.dat (.bool a)) (.dat (.bool b))=(a=b):=by simp[wk]
@[simp] theorem wk_owno (t:Nat) (g h:Value):wk (.own t g) (.own t h)=(g=h):=by simp[wk]
theorem wk_ok {x:X}{a b:A}(h:wk a b) {v:Value}(hv:D x a v):D x b v:=by
 rcases h with rfl | ⟨rfl,rfl | ⟨t,rfl⟩⟩
 ·exact hv
 ·simp only[D]at hv;subst hv;simp[D,RdL]
 ·simp only[D]at hv;subst hv;simp[D]
def nilSeq:Ent->Prop
 | .seq h _ _ rows=>h=.slice none 0 0∧rows=[]
 | _=>False
def subN:Heap->Heap->Prop
 | [],_=>True
 | (t,e)::r,H=>match hget t H with
  | some e'=>e'=e∧subN r (hdel t H)
  | none=>nilSeq e∧subN r H
theorem Inv.nil {x:X}{H:Heap}(hi:Inv x H) {t:Nat}{e:Ent}(he:nilSeq e):Inv x ((t,e)::H):=by
 cases e<;>simp only[nilSeq]at he
 obtain⟨rfl,rfl⟩:=he
 refine⟨hi.bd,?_,?_,List.pairwise_cons.2 ⟨?_,hi.apart⟩⟩
 ·intro r hr
  rcases List.mem_cons.1 hr with rfl | hr
  ·exact⟨[],World.ownsRow_nil _ _ _ _,by simp,by simp[Ds]⟩
  ·exact hi.sat r hr
 ·intro r hr b hb
  rcases List.mem_cons.1 hr with rfl | hr
  ·simp[Ent.own,Value.ownBlock]at hb
  ·exact hi.own r hr b hb
 ·intro r _ b hb
  simp[Ent.own,Value.ownBlock]at hb
theorem subN_perm:∀ {H' H H0:Heap}{x:X},subN H' H->Inv x (H++H0)->∃N R:Heap,(∀p∈N,nilSeq p.2)∧(H'++R).Perm (N++H)
 | [],H,_,_,_,_=>⟨[],H,by simp,by simp⟩
 | (t,e)::r,H,H0,x,h,hi=>by
  simp only[subN]at h
  split at h
  ·rename_i e' hg
   obtain⟨rfl,h⟩:=h
   have hp:=hdel_perm hg
   have hi':Inv x (hdel t H++((t,e')::H0)):=hi.perm (by
    refine List.Perm.trans ?_ (hp.symm.append_right H0)
    exact List.perm_middle)
   obtain⟨N,R,hN,hpm⟩:=subN_perm h hi'
   refine⟨N,R,hN,?_⟩
   refine (List.Perm.cons _ hpm).trans ?_
   refine List.perm_middle.symm.trans ?_
   exact List.Perm.append_left N hp.symm
  ·obtain⟨hn,h⟩:=h
   obtain⟨N,R,hN,hpm⟩:=subN_perm h hi
   refine⟨(t,e)::N,R,?_,List.Perm.cons _ hpm⟩
   intro p hp
   rcases List.mem_cons.1 hp with rfl | hp
   ·exact hn
   ·exact hN p hp
theorem Inv.nils {x:X}{H:Heap}:∀ {N:Heap},(∀p∈N,nilSeq p.2)->Inv x H->Inv x (N++H)
 | [],_,h=>h
 | (t,e)::N,hN,h=>Inv.nil (Inv.nils (fun p hp=>hN p (by simp[hp])) h) (hN (t,e) (by simp))
theorem subN_inv {x:X}{H H' H0:Heap}(h:subN H' H) (hi:Inv x (H++H0)):Inv x (H'++H0):=by
 obtain⟨N,R,hN,hp⟩:=subN_perm h hi
 have h1:Inv x ((N++H)++H0):=by rw[List.append_assoc];exact Inv.nils hN hi
 have h2:Inv x ((H'++R)++H0):=h1.perm (hp.append_right H0)
 refine h2.sub ?_
 rw[List.append_assoc]
 exact (List.Sublist.refl H').append (List.sublist_append_right R H0)
theorem sets_wk {x:X}{E:Env}{tv:Nat->Value}(hE:∀t,D x (E t) (tv t)):∀(l:List (Nat×A)) (F:Env),(∀p∈l,wk (E p.1) p.2)->(∀t,D x (F t) (tv t))->∀t,D x (sets l F t) (tv t)
 | [],F,_,hF,t=>hF t
 | (s,a)::r,F,hl,hF,t=>by
  simp only[sets,upd]
  split
  ·rename_i h;subst h;exact wk_ok (hl (t,a) (by simp)) (hE t)
  ·exact sets_wk hE r F (fun p hp=>hl p (by simp[hp])) hF t
def kpH (own:Heap) (H:Heap):Heap:=H.filter fun p=>!(own.map (·.1)).contains p.1
@[simp] theorem kpH_n (own:Heap):kpH own []=[]:=id rfl
@[simp] theorem kpH_c (own:Heap) (p:Nat×Ent) (H:Heap):kpH own (p::H)=if (own.map (·.1)).contains p.1 then kpH own H else p::kpH own H:=by
 simp only[kpH,List.filter_cons]
 cases (own.map (·.1)).contains p.1<;>simp
def LoopQ (Q:PostQ) (nx:Env->Heap->Prop):PostQ:=fun e E H=>match e with
 | .normal=>nx E H
 | .exit k=>Q (.exit k) E H
 | .ret=>Q .ret E H
 | _=>False
@[simp] theorem LoopQ_n (Q:PostQ) (nx:Env->Heap->Prop) (E:Env) (H:Heap):LoopQ Q nx .normal E H=nx E H:=rfl
@[simp] theorem LoopQ_e (Q:PostQ) (nx:Env->Heap->Prop) (E:Env) (H:Heap) (k:Nat):LoopQ Q nx (.exit k) E H=Q (.exit k) E H:=rfl
@[simp] theorem LoopQ_r (Q:PostQ) (nx:Env->Heap->Prop) (E:Env) (H:Heap):LoopQ Q nx .ret E H=Q .ret E H:=rfl
@[congr] theorem LoopQ_congr {Q:PostQ}{nx:Env->Heap->Prop}{e e':Exit}{E:Env}{H:Heap}{z:Prop}(_:(True∧True)=z) (h:e=e'):LoopQ Q nx e E H=LoopQ Q nx e' E H:=by rw[h]
def hdE (kv:List (Nat×A)) (sl:List (Nat×A)):Env:=sets sl (sets kv anyE)
def hcat:Heap->Heap->Heap
 | [],K=>K
 | e::H,K=>e::hcat H K
@[simp] theorem hcat_n (K:Heap):hcat [] K=K:=id rfl
@[simp] theorem hcat_c (e:Nat×Ent) (H K:Heap):hcat (e::H) K=e::hcat H K:=id rfl
theorem V.forI {C:Cfg}{E:Env}{H:Heap}{Q:PostQ}{c:Code}{σ:Type}{kv:List (Nat×A)}{kh:Heap}(n:Nat) (Lv:List Nat) (hkv:kv=Lv.map fun t=>(t,E t)) (sl:Nat->σ->List (Nat×A)) (Hs:Nat->σ->Heap) (I:Nat->σ->Prop) (s0:σ)
  (hI0:I 0 s0) (hE0:∀p∈sl 0 s0,wk (E p.1) p.2) (hH0:kh=kpH (Hs 0 s0) H∧subN (hcat (Hs 0 s0) kh) H)
  (hb:∀i s,i<n->I i s->vcC C c (hdE kv (sl i s)) (hcat (Hs i s) kh) (LoopQ Q fun E' H'=>
   ∃s',I (i+1) s'∧(∀p∈sl (i+1) s',wk (E' p.1) p.2)∧(∀p∈kv,E' p.1=p.2)∧subN (hcat (Hs (i+1) s') kh) H'))
  (he:∀s,I n s->vcC C c (hdE kv (sl n s)) (hcat (Hs n s) kh) (LoopQ Q fun _ _=>False)):V C (.loop c) E H Q:=by
 intro hf x act H0 ms hi hen
 have hhead:∀ {i:Nat}{s:σ}{E':Env}{y:X}{a:Act}{ds:List Deferred},EnvOK C.n ds y a E'->(∀p∈sl i s,wk (E' p.1) p.2)->(∀p∈kv,E' p.1=p.2)->EnvOK C.n ds y a (hdE kv (sl i s)):=by
  intro i s E' y a ds h h1 h2
  refine⟨h.defers,h.size,sets_wk h.slot _ _ h1 (sets_wk h.slot _ _ ?_ fun t=>by simp[anyE,D])⟩
  intro p hp
  rw[h2 p hp]
  simp
 have h00:∀p∈kv,E p.1=p.2:=by
  intro p hp
  rw[hkv]at hp
  obtain⟨t,_,rfl⟩:=List.mem_map.1 hp
  rfl
 have key:W C (.loop c) (hdE kv (sl 0 s0)) (hcat (Hs 0 s0) kh) Q:=by
  refine W.loop (fun m E' H'=>∃i s,i<=n∧I i s∧n-i=m∧E'=hdE kv (sl i s)∧H'=hcat (Hs i s) kh) n ⟨0,s0,Nat.zero_le _,hI0,rfl,rfl,rfl⟩ ?_
  rintro m _ _ ⟨i,s,hin,hI,rfl,rfl,rfl⟩
  rcases Nat.lt_or_ge i n with hlt | hge
  ·have hw:=vcC_ok c _ _ _ hf (hb i s hlt hI)
   intro x act H0 ms hi hen
   refine wpIn_mono (hw x act H0 ms hi hen) ?_
   rintro e a' w' ⟨y,E',H',ms',rfl,hle,hi',he',hq⟩
   cases e with
   | normal=>
    obtain⟨s',h1,h3,h4,h5⟩:=hq
    exact⟨y,_,_,ms',rfl,hle,subN_inv h5 hi',hhead he' h3 h4,n-(i+1),by omega,i+1,s',by omega,h1,rfl,rfl,rfl⟩
   | exit k=>exact⟨y,E',H',ms',rfl,hle,hi',he',hq⟩
   | ret=>exact⟨y,E',H',ms',rfl,hle,hi',he',hq⟩
   | goto k=>exact hq.elim
   | panic k=>exact hq.elim
   | outgrown=>exact hq.elim
  ·obtain rfl:i=n:=by omega
   have hw:=vcC_ok c _ _ _ hf (he s hI)
   intro x act H0 ms hi hen
   refine wpIn_mono (hw x act H0 ms hi hen) ?_
   rintro e a' w' ⟨y,E',H',ms',rfl,hle,hi',he',hq⟩
   cases e with
   | normal=>exact hq.elim
   | exit k=>exact⟨y,E',H',ms',rfl,hle,hi',he',hq⟩
   | ret=>exact⟨y,E',H',ms',rfl,hle,hi',he',hq⟩
   | goto k=>exact hq.elim
   | panic k=>exact hq.elim
   | outgrown=>exact hq.elim
 exact key x act H0 ms (subN_inv hH0.2 hi) (hhead hen hE0 h00)
def FoldQ {σ δ:Type}(Q:PostQ) (st:Except δ σ) (all:Except δ σ) (nx:σ->Env->Heap->Prop):PostQ:=fun e E H=>match e with
 | .normal=>∃s',st=.ok s'∧nx s' E H
 | .exit k=>∃d,st=.error d∧(all=.error d->Q (.exit k) E H)
 | .ret=>∃d,st=.error d∧(all=.error d->Q .ret E H)
 | _=>False
@[simp] theorem FoldQ_n {σ δ:Type}(Q:PostQ) (st all:Except δ σ) (nx:σ->Env->Heap->Prop) (E:Env) (H:Heap):FoldQ Q st all nx .normal E H=∃s',st=.ok s'∧nx s' E H:=rfl
@[simp] theorem FoldQ_e {σ δ:Type}(Q:PostQ) (st all:Except δ σ) (nx:σ->Env->Heap->Prop) (E:Env) (H:Heap) (k:Nat):FoldQ Q st all nx (.exit k) E H=∃d,st=.error d∧(all=.error d->Q (.exit k) E H):=rfl
@[simp] theorem FoldQ_r {σ δ:Type}(Q:PostQ) (st all:Except δ σ) (nx:σ->Env->Heap->Prop) (E:Env) (H:Heap):FoldQ Q st all nx .ret E H=∃d,st=.error d∧(all=.error d->Q .ret E H):=rfl
@[congr] theorem FoldQ_congr {σ δ:Type}{Q:PostQ}{st st' all:Except δ σ}{nx:σ->Env->Heap->Prop}{e e':Exit}{E:Env}{H:Heap}{z:Prop}(_:(True∧True)=z) (h:e=e') (h2:st=st'):FoldQ Q st all nx e E H=FoldQ Q st' all nx e' E H:=by rw[h,h2]
theorem foldlM_take {σ δ ι:Type}{step:σ->ι->Except δ σ}{items:List ι}{s0 s:σ}{i:Nat}(h:(items.take i).foldlM step s0=.ok s) (hlt:i<items.length) :
  (items.take (i+1)).foldlM step s0=step s items[i]∧∀d,step s items[i]=.error d->items.foldlM step s0=.error d:=by
 have e1:items.take (i+1)=items.take i++[items[i]]:=by rw[List.take_add_one,List.getElem?_eq_getElem hlt];rfl
 have e2:items=items.take i++(items[i]::items.drop (i+1)):=by
  rw[<- List.drop_eq_getElem_cons hlt,List.take_append_drop]
 constructor
 ·rw[e1,List.foldlM_append,h]
  simp only[bind,Except.bind,List.foldlM_cons,List.foldlM_nil]
  cases step s items[i]<;>rfl
 ·intro d hd
  rw[e2,List.foldlM_append,h]
  simp only[bind,Except.bind,List.foldlM_cons,hd]
theorem V.forL {C:Cfg}{E:Env}{H:Heap}{Q:PostQ}{c:Code}{ι σ δ γ:Type}{kv:List (Nat×A)}{kh:Heap}(items:List ι) (Lv:List Nat) (hkv:kv=Lv.map fun t=>(t,E t)) (sl:Nat->σ->γ->List (Nat×A)) (Hs:Nat->σ->γ->Heap) (step:σ->ι->Except δ σ) (I:Nat->σ->Prop) (s0:σ) (g0:γ)
  (hI0:I 0 s0) (hE0:∀p∈sl 0 s0 g0,wk (E p.1) p.2) (hH0:kh=kpH (Hs 0 s0 g0) H∧subN (hcat (Hs 0 s0 g0) kh) H)
  (hb:∀i s g y (hlt:i<items.length),items[i]=y->I i s->(items.take i).foldlM step s0=.ok s->vcC C c (hdE kv (sl i s g)) (hcat (Hs i s g) kh) (FoldQ Q (step s y) (items.foldlM step s0) fun s' E' H'=>
   I (i+1) s'∧∃g',(∀p∈sl (i+1) s' g',wk (E' p.1) p.2)∧(∀p∈kv,E' p.1=p.2)∧subN (hcat (Hs (i+1) s' g') kh) H'))
  (he:∀s g,I items.length s->items.foldlM step s0=.ok s->vcC C c (hdE kv (sl items.length s g)) (hcat (Hs items.length s g) kh) (LoopQ Q fun _ _=>False)):V C (.loop c) E H Q:=by
 refine V.forI (σ:=σ×γ) items.length Lv hkv (fun i p=>sl i p.1 p.2) (fun i p=>Hs i p.1 p.2) (fun i p=>I i p.1∧(items.take i).foldlM step s0=.ok p.1) (s0,g0) ⟨hI0,rfl⟩ hE0 hH0 ?_ ?_
 ·rintro i ⟨s,g⟩ hlt ⟨hI,hf⟩
  obtain⟨h1,h2⟩:=foldlM_take hf hlt
  refine vcC_mono c ?_ (hb i s g _ hlt rfl hI hf)
  intro e E' H' hq
  cases e with
  | normal=>
   obtain⟨s',h3,h4,g',h5⟩:=hq
   exact⟨(s',g'),⟨h4,by rw[h1];exact h3⟩,h5⟩
  | exit k=>obtain⟨d,h3,h4⟩:=hq;exact h4 (h2 d h3)
  | ret=>obtain⟨d,h3,h4⟩:=hq;exact h4 (h2 d h3)
  | goto k=>exact hq
  | panic k=>exact hq
  | outgrown=>exact hq
 ·rintro⟨s,g⟩ ⟨hI,hf⟩
  rw[List.take_length]at hf
  exact he s g hI hf
mutual
def frz (H:Heap):A->Prop×A
 | .own t h=>match hget t H with
  | some (.seq h' _ _ rows)=>(h'=h∧allD rows=true,.dat (.sl (rowsD rows)))
  | _=>(True,.own t h)
 | .nils=>(True,.dat (.sl []))
 | .agg az=>((frzs H az).1,packA (frzs H az).2)
 | .tuple az=>((frzs H az).1,.tuple (frzs H az).2)
 | a=>(True,a)
def frzs (H:Heap):List A->Prop×List A
 | []=>(True,[])
 | a::az=>((frz H a).1∧(frzs H az).1,(frz H a).2::(frzs H az).2)
end
mutual
theorem frz_ok {x:X}{H H0:Heap}(hi:Inv x (H++H0)) {y:X}(hle:x.le y) (hw:y.w=x.w) (hok:∀b,(∃p∈H,p.2.own b)->y.ok b):∀(a:A) (v:Value),D x a v->(frz H a).1->D y (frz H a).2 v
 | .own t h,v,hv,hp=>by
  simp only[frz]at hp ⊢
  simp only[D]at hv
  split at hp
  ·rename_i h' e sz rows hg
   obtain⟨rfl,hd⟩:=hp
   simp only[D]
   have hs:=hget_sat hi hg
   rw[hv.1]
   refine seq_data (Ent.sat_step hle (fun b _=>by rw[hw]) hs) (fun b hb=>hok b ⟨_,hget_mem hg,hb⟩) hd
  ·simpa [D]using hv
 | .nils,v,hv,_=>by simp only[D]at hv;subst hv;simp[frz,D,RdL]
 | .agg az,v,hv,hp=>by
  simp only[frz]at hp ⊢
  simp only[D]at hv
  obtain⟨vs,rfl,hds⟩:=hv
  exact packA_ok (frzs_ok hi hle hw hok az _ hds hp)
 | .tuple az,v,hv,hp=>by
  simp only[frz]at hp ⊢
  simp only[D]at hv ⊢
  obtain⟨vs,rfl,hds⟩:=hv
  exact⟨vs,rfl,frzs_ok hi hle hw hok az _ hds hp⟩
 | .any,v,hv,_=>by simpa [frz]using hv.mono hle
 | .undef,v,hv,_=>by simpa [frz]using hv.mono hle
 | .dat _,v,hv,_=>by simpa [frz]using hv.mono hle
 | .nn _,v,hv,_=>by simpa [frz]using hv.mono hle
 | .clip _,v,hv,_=>by simpa [frz]using hv.mono hle
 | .owd _ _,v,hv,_=>by simpa [frz]using hv.mono hle
 | .record _,v,hv,_=>by simpa [frz]using hv.mono hle
 | .ptr _ _ _,v,hv,_=>by simpa [frz]using hv.mono hle
 | .rptr _,v,hv,_=>by simpa [frz]using hv.mono hle
 | .nilp,v,hv,_=>by simpa [frz]using hv.mono hle
 | .fn _ _ _,v,hv,_=>by simpa [frz]using hv.mono hle
 | .nilf,v,hv,_=>by simpa [frz]using hv.mono hle
 | .map _ _,v,hv,_=>by simpa [frz]using hv.mono hle
 | .yld _,v,hv,_=>by simpa [frz]using hv.mono hle
 | .cond _ _,v,hv,_=>by simpa [frz]using hv.mono hle
 | .eptr _ _ _ _ _,v,hv,_=>by simpa [frz]using hv.mono hle
theorem frzs_ok {x:X}{H H0:Heap}(hi:Inv x (H++H0)) {y:X}(hle:x.le y) (hw:y.w=x.w) (hok:∀b,(∃p∈H,p.2.own b)->y.ok b):∀(az:List A) (vs:List Value),Ds x az vs->(frzs H az).1->Ds y (frzs H az).2 vs
 | [],[],_,_=>by simp[frzs,Ds]
 | a::az,v::vs,hd,hp=>by
  simp only[Ds]at hd
  simp only[frzs]at hp ⊢
  simp only[Ds]
  exact⟨frz_ok hi hle hw hok a v hd.1 hp.1,frzs_ok hi hle hw hok az vs hd.2 hp.2⟩
 | [],_::_,h,_=>by simp[Ds]at h
 | _::_,[],h,_=>by simp[Ds]at h
end
theorem CallS.frz {g:FuncId}{az:List A}{H:Heap}{K:A->Heap->Prop}{r:A}(h:CallS P g az H K) (hk:∀r' H',K r' H'->(Go.Proofs.YtafamcbdaeppoaaGreatDoor.frz H' r').1∧(Go.Proofs.YtafamcbdaeppoaaGreatDoor.frz H' r').2=r):CallS P g az H fun r' H'=>r'=r∧H'=[]:=by
 refine⟨h.1,fun x args H0 hi hd=>(h.2 x args H0 hi hd).mono ?_⟩
 rintro _ _ ⟨y,v,r',H',rfl,rfl,hle,hi',hv,hkk⟩
 obtain⟨h1,rfl⟩:=hk r' H' hkk
 obtain⟨z,hw,hle2,hi2,hok,_⟩:=hi'.freeze
 exact⟨z,v,_,[],rfl,hw,hle.trans hle2,hi2,frz_ok hi' hle2 hw hok r' v hv h1,rfl,rfl⟩
theorem callFz_of {g:FuncId}{fn:Func}{c:Code}{n:Nat}{rs:List ResultVar}{az:List A}{r:A}(hf:P.funcs[g]?=some fn) (hb:fn.body=some c) (hn:fn.ntmps=n)
  (hr:fn.results=rs.toArray) (hnm:(fn.name == "runtime.NumGoroutine")=false) (hl:az.length<=n) (hfit:fitsC n c=true)
  (h:vcC ⟨P,none,n⟩ c (envOf az) [] (RetV P rs fun r' H'=>(frz H' r').1∧(frz H' r').2=r)):CallFn P g az r:=
 (callS_of hf hb hn hr hnm hl hfit h).frz fun _ _ h=>h
theorem CallS.fn {g:FuncId}{az:List A}{K:A->Heap->Prop}{r:A}(h:CallS P g az [] K) (hk:∀r' H',K r' H'->(Go.Proofs.YtafamcbdaeppoaaGreatDoor.frz H' r').1∧(Go.Proofs.YtafamcbdaeppoaaGreatDoor.frz H' r').2=r):CallFn P g az r:=h.frz hk
def ownAt (H:Heap) (e:TypeId) (sz:Nat) (rows:List (List A)):A->Prop
 | .own t h=>hget t H=some (.seq h e sz rows)
 | .nils=>rows=[]
 | _=>False
theorem hget_sub {g:Nat}{e:Ent}:∀ {H:Heap},hget g H=some e->List.Sublist [(g,e)] H:=fun h=>List.singleton_sublist.2 (hget_mem h)
theorem CallS.own {g:FuncId}{az:List A}{e:TypeId}{sz:Nat}{rows:List (List A)}(h:CallS P g az [] fun r H'=>ownAt H' e sz rows r):CallOwn P g az e sz rows:=by
 refine⟨h.1,fun x args H0 hi hd=>(h.2 x args H0 hi hd).mono ?_⟩
 rintro _ _ ⟨y,v,r,H',rfl,rfl,hle,hi',hv,hk⟩
 cases r<;>simp only[ownAt]at hk
 ·subst hk
  simp only[D]at hv
  subst hv
  exact⟨y,_,.own 0 (.slice none 0 0),[(0,.seq (.slice none 0 0) e sz [])],rfl,rfl,hle,Inv.nil (hi'.sub (List.sublist_append_right _ _)) ⟨rfl,rfl⟩,by simp[D],0,_,rfl,rfl⟩
 ·rename_i t hh
  exact⟨y,v,.own t hh,[(t,.seq hh e sz rows)],rfl,rfl,hle,hi'.sub ((hget_sub hk).append (List.Sublist.refl _)),hv,t,hh,rfl,rfl⟩
theorem callO_of {g:FuncId}{fn:Func}{c:Code}{n:Nat}{rs:List ResultVar}{az:List A}{e:TypeId}{sz:Nat}{rows:List (List A)}(hf:P.funcs[g]?=some fn) (hb:fn.body=some c) (hn:fn.ntmps=n)
  (hr:fn.results=rs.toArray) (hnm:(fn.name == "runtime.NumGoroutine")=false) (hl:az.length<=n) (hfit:fitsC n c=true)
  (h:vcC ⟨P,none,n⟩ c (envOf az) [] (RetV P rs fun r H'=>ownAt H' e sz rows r)):CallOwn P g az e sz rows:=
 (callS_of hf hb hn hr hnm hl hfit h).own
theorem CallOwn.s {g:FuncId}{az:List A}{e:TypeId}{sz:Nat}{rows:List (List A)}(h:CallOwn P g az e sz rows) {H:Heap}{K:A->Heap->Prop}(τ:Nat) (hk:∀hd,K (.own τ hd) ((τ,.seq hd e sz rows)::H)):CallS P g az H K:=by
 refine⟨h.1,fun x args H0 hi hd=>((CallS.frame (H1:=H) h).2 x args H0 hi hd).mono ?_⟩
 rintro _ _ ⟨y,v,r,H',rfl,rfl,hle,hi',hv,H2,⟨t,hh,rfl,rfl⟩,rfl⟩
 exact⟨y,v,.own τ hh,_,rfl,rfl,hle,hi'.ents (H':=((τ,.seq hh e sz rows)::H)++H0) (by simp),by simpa [D]using hv,hk hh⟩
theorem CallOwn.fn {g:FuncId}{az:List A}{e:TypeId}{sz:Nat}{rows:List (List A)}(h:CallOwn P g az e sz rows) (hd:allD rows=true):CallFn P g az (.dat (.sl (rowsD rows))):=by
 refine CallS.fn h ?_
 rintro r H' ⟨t,hh,rfl,rfl⟩
 simp[Go.Proofs.YtafamcbdaeppoaaGreatDoor.frz,hget,hd]
mutual
def flatL:L->Bool
 | .sl []=>true
 | .sl _=>false
 | _=>true
end
def flatV:A->Bool
 | .dat l=>flatL l
 | .record ls=>ls.all flatL
 | .agg az=>az.all fun a=>match a with
  | .dat l=>flatL l
  | .own _ _=>true
  | .nils=>true
  | _=>false
 | .tuple az=>az.all fun a=>match a with
  | .dat l=>flatL l
  | .own _ _=>true
  | .nils=>true
  | .record ls=>ls.all flatL
  | _=>false
 | .own _ _=>true
 | .nils=>true
 | .undef=>true
 | .nilp=>true
 | .any=>true
 | _=>false
theorem flatL_ok {x y:X}{l:L}{v:Value}(h:flatL l=true) (hv:RdL x l v):RdL y l v:=by
 cases l with
 | int k n=>simpa [RdL]using hv
 | bool b=>simpa [RdL]using hv
 | str s=>simpa [RdL]using hv
 | sl xs=>
  cases xs with
  | nil=>
   simp only[RdL]at hv ⊢
   rcases hv with h1 | ⟨b,off,cap,e,hc,_⟩|h1
   ·exact .inl h1
   ·exact .inr (.inl ⟨b,off,cap,e,hc,by simp[RdRows]⟩)
   ·exact .inr (.inr h1)
  | cons a r=>simp[flatL]at h
theorem flatLs_ok {x y:X}:∀ {ls:List L}{vs:List Value},ls.all flatL=true->RdLs x ls vs->RdLs y ls vs
 | [],[],_,_=>by simp[RdLs]
 | l::ls,v::vs,h,hv=>by
  simp only[List.all_cons,Bool.and_eq_true]at h
  simp only[RdLs]at hv ⊢
  exact⟨flatL_ok h.1 hv.1,flatLs_ok h.2 hv.2⟩
 | [],_::_,_,h=>by simp[RdLs]at h
 | _::_,[],_,h=>by simp[RdLs]at h
theorem flatDs_ok {x y:X}{f:A->Bool}(hf:∀a v,f a=true->D x a v->D y a v):∀ {az:List A}{vs:List Value},az.all f=true->Ds x az vs->Ds y az vs
 | [],[],_,_=>by simp[Ds]
 | l::ls,v::vs,h,hv=>by
  simp only[List.all_cons,Bool.and_eq_true]at h
  simp only[Ds]at hv ⊢
  exact⟨hf _ _ h.1 hv.1,flatDs_ok hf h.2 hv.2⟩
 | [],_::_,_,h=>by simp[Ds]at h
 | _::_,[],_,h=>by simp[Ds]at h
theorem flatV_ok {x y:X}{a:A}{v:Value}(h:flatV a=true) (hv:D x a v):D y a v:=by
 cases a<;>simp only[flatV,Bool.false_eq_true]at h<;>simp only[D]at hv ⊢<;>try exact hv
 ·exact flatL_ok h hv
 ·obtain⟨vs,rfl,hr⟩:=hv
  exact⟨vs,rfl,flatLs_ok h hr⟩
 ·obtain⟨vs,rfl,hr⟩:=hv
  refine⟨vs,rfl,flatDs_ok ?_ h hr⟩
  intro a v ha hd
  split at ha<;>first | (simp only[D]at hd ⊢;first | exact hd | exact flatL_ok ha hd) | cases ha
 ·obtain⟨vs,rfl,hr⟩:=hv
  refine⟨vs,rfl,flatDs_ok ?_ h hr⟩
  intro a v ha hd
  split at ha<;>first | (simp only[D]at hd ⊢;first | exact hd | exact flatL_ok ha hd | (obtain⟨vs,rfl,hr⟩:=hd;exact⟨vs,rfl,flatLs_ok ha hr⟩)) | cases ha
def flatE:Ent->Bool
 | .seq _ _ _ rows=>rows.all (·.all flatV)
 | _=>false
theorem flatE_ok {x y:X}{e:Ent}(h:flatE e=true) (hw:∀b,e.own b->y.w.heap[b]?=x.w.heap[b]?) (hs:e.sat x):e.sat y:=by
 cases e<;>simp only[flatE,Bool.false_eq_true]at h
 rename_i v e sz rows
 obtain⟨xs,⟨h1,h2⟩,h3,h4⟩:=hs
 refine⟨xs,⟨h1,?_⟩,h3,flatDs_ok (f:=flatV) (fun a v ha hd=>flatV_ok ha hd) ?_ h4⟩
 ·rcases h2 with h2 | ⟨g,cap,cur,rfl,h5,h6,h7⟩
  ·exact .inl h2
  ·exact .inr ⟨g,cap,cur,rfl,h5,by rw[hw g rfl];exact h6,h7⟩
 ·rw[List.all_eq_true]at h ⊢
  intro a ha
  obtain⟨r,hr,ha⟩:=List.mem_flatten.1 ha
  exact List.all_eq_true.1 (h r hr) a ha
def Ent.blks:Ent->List Nat
 | .box b _=>[b]
 | .seq h _ _ _=>h.ownBlock.toList
 | .raw b _=>[b]
 | .map b _ _=>[b]
 | .mapS b _ _=>[b]
 | .mapK b _ _=>[b]
 | .loop b _ _ _ _ _ _ _=>[b]
 | .seqs l=>l.filterMap (·.1.ownBlock)
theorem Ent.blk_own {e:Ent}{b:Nat}:e.own b↔b∈e.blks:=by
 cases e<;>simp[Ent.own,Ent.blks]
theorem Ent.blks_apart {x:X}{e:Ent}(h:e.sat x):e.blks.Pairwise (·≠·):=by
 cases e with
 | seq v e sz rows=>simp only[Ent.blks];cases v.ownBlock<;>simp
 | seqs l=>
  refine List.Pairwise.filterMap _ ?_ h.2
  intro p q hpq a ha c hc e
  subst e
  exact hpq a ha hc
 | box _ _=>simp[Ent.blks]
 | raw _ _=>simp[Ent.blks]
 | map _ _ _=>simp[Ent.blks]
 | mapS _ _ _=>simp[Ent.blks]
 | mapK _ _ _=>simp[Ent.blks]
 | loop _ _ _ _ _ _ _ _=>simp[Ent.blks]
def rawsOf (x:X) (H:Heap):Heap:=H.flatMap fun p=>p.2.blks.map fun b=>(0,.raw b ((x.w.heap[b]?).getD (.deferred none)))
theorem rawsOf_mem {x:X}{H:Heap}{q:Nat×Ent}(hq:q∈rawsOf x H):∃p∈H,∃b,p.2.own b∧q=(0,.raw b ((x.w.heap[b]?).getD (.deferred none))):=by
 obtain⟨p,hp,h⟩:=List.mem_flatMap.1 hq
 obtain⟨b,hb,rfl⟩:=List.mem_map.1 h
 exact⟨p,hp,b,Ent.blk_own.2 hb,rfl⟩
theorem rawsOf_of {x:X}{H:Heap}{p:Nat×Ent}{b:Nat}(hp:p∈H) (hb:p.2.own b):((0,.raw b ((x.w.heap[b]?).getD (.deferred none))):Nat×Ent)∈rawsOf x H:=
 List.mem_flatMap.2 ⟨p,hp,List.mem_map.2 ⟨b,Ent.blk_own.1 hb,rfl⟩⟩
theorem Inv.raws {x:X}{H:Heap}(hi:Inv x H):Inv x (rawsOf x H):=by
 refine⟨hi.bd,?_,?_,?_⟩
 ·intro q hq
  obtain⟨p,hp,b,hb,rfl⟩:=rawsOf_mem hq
  have hlt:=(hi.own p hp b hb).1
  show x.w.heap[b]?=some _
  simp[hlt]
 ·intro q hq b hb
  obtain⟨p,hp,b',hb',rfl⟩:=rawsOf_mem hq
  simp only[Ent.own]at hb
  subst hb
  exact hi.own p hp b hb'
 ·refine List.pairwise_flatMap.2 ⟨fun p hp=>?_,hi.apart.imp ?_⟩
  ·rw[List.pairwise_map]
   refine (Ent.blks_apart (hi.sat p hp)).imp ?_
   intro a c hac b h1 h2
   simp only[Ent.own]at h1 h2
   exact hac (h1.symm.trans h2)
  ·intro p q hpq r hr s hs b h1 h2
   obtain⟨b1,hb1,rfl⟩:=List.mem_map.1 hr
   obtain⟨b2,hb2,rfl⟩:=List.mem_map.1 hs
   simp only[Ent.own]at h1 h2
   subst h1
   subst h2
   exact hpq _ (Ent.blk_own.2 hb1) (Ent.blk_own.2 hb2)
theorem CallS.lend {g:FuncId}{az az':List A}{H:Heap}{K K':A->Heap->Prop}(h:CallS P g az' [] K') (hz:(frzs H az).1∧(frzs H az).2=az')
  (hk:∀r H',K' r H'->flatV r=true∧(∀p∈H',flatE p.2=true)∧K r (H'++H)):CallS P g az H K:=by
 obtain⟨hz1,rfl⟩:=hz
 refine⟨h.1,fun x args H0 hi hd=>?_⟩
 obtain⟨x',hw,hle,hi0,hok,hok'⟩:=hi.freeze
 have hd':=frzs_ok hi hle hw hok az _ hd hz1
 have hr:=hi0.raws
 have:=h.2 x' args (rawsOf x' H0) (by simpa using hr) hd'
 rw[hw]at this
 refine this.mono ?_
 rintro _ _ ⟨y',v,r,H',rfl,rfl,hley,hiy,hv,hkk⟩
 obtain⟨k1,k2,k3⟩:=hk r H' hkk
 let y:X:=⟨y'.w,fun b=>y'.ok b∧¬ ∃p∈H,p.2.own b⟩
 have hown:∀p∈H,∀b,p.2.own b->b<x.w.heap.size∧¬x.ok b:=fun p hp b hb=>hi.own p (List.mem_append.2 (.inl hp)) b hb
 have hlexy:x.le y:=by
  refine⟨fun b hb=>⟨⟨(hley.keep b (hle.keep b hb).1).1,fun ⟨p,hp,ho⟩=>(hown p hp b ho).2 hb⟩,?_⟩,?_,?_,?_,?_,?_⟩
  ·exact ((hley.keep b (hle.keep b hb).1).2).trans (hle.keep b hb).2
  ·exact hley.os.trans hle.os
  ·exact hley.output.trans hle.output
  ·exact hley.tape.trans hle.tape
  ·exact Nat.le_trans hle.size hley.size
  ·exact Nat.le_trans hle.drawn hley.drawn
 have hH:∀p∈H,∀b,p.2.own b->y'.ok b∧y'.w.heap[b]?=x.w.heap[b]?:=fun p hp b hb=>by
  have h1:=hley.keep b (hok b ⟨p,hp,hb⟩)
  exact⟨h1.1,by rw[h1.2,hw]⟩
 have hH0:∀p∈H0,∀b,p.2.own b->y'.w.heap[b]?=x.w.heap[b]?∧¬y'.ok b:=fun p hp b hb=>by
  have hm:=rawsOf_of (x:=x') hp hb
  have h1:y'.w.heap[b]?=some _:=hiy.sat _ (List.mem_append.2 (.inr hm))
  have hlt:=(hi0.own p hp b hb).1
  refine⟨by rw[h1,<- hw];simp[hlt],(hiy.own _ (List.mem_append.2 (.inr hm)) b rfl).2⟩
 refine⟨y,v,r,H'++H,rfl,rfl,hlexy,?_,flatV_ok k1 hv,k3⟩
 rw[List.append_assoc]
 have sz:∀b,b<x.w.heap.size->b<y.w.heap.size:=fun b hb=>Nat.lt_of_lt_of_le hb hlexy.size
 refine⟨⟨fun b hb=>hiy.bd b hb.1,hi.bd.tab.mono hlexy⟩,?_,?_,?_⟩
 ·intro p hp
  rcases List.mem_append.1 hp with hp | hp
  ·exact flatE_ok (x:=y') (y:=y) (k2 p hp) (fun _ _=>rfl) (hiy.sat p (List.mem_append.2 (.inl hp)))
  ·refine Ent.sat_step hlexy (fun b hb=>?_) (hi.sat p hp)
   rcases List.mem_append.1 hp with hp | hp
   ·exact (hH p hp b hb).2
   ·exact (hH0 p hp b hb).1
 ·intro p hp b hb
  rcases List.mem_append.1 hp with hp | hp
  ·have:=hiy.own p (List.mem_append.2 (.inl hp)) b hb
   exact⟨this.1,fun hh=>this.2 hh.1⟩
  ·rcases List.mem_append.1 hp with hp | hp
   ·exact⟨sz b (hown p hp b hb).1,fun hh=>hh.2 ⟨p,hp,hb⟩⟩
   ·exact⟨sz b (hi.own p (List.mem_append.2 (.inr hp)) b hb).1,fun hh=>(hH0 p hp b hb).2 hh.1⟩
 ·refine List.pairwise_append.2 ⟨(List.pairwise_append.1 hiy.apart).1,hi.apart,?_⟩
  intro p hp q hq b h1 h2
  have hpn:=hiy.own p (List.mem_append.2 (.inl hp)) b h1
  rcases List.mem_append.1 hq with hq | hq
  ·exact hpn.2 (hH q hq b h2).1
  ·exact (List.pairwise_append.1 hiy.apart).2.2 p hp _ (rawsOf_of (x:=x') hq h2) b h1 rfl
theorem CallFn.lend {g:FuncId}{az az':List A}{H:Heap}{K:A->Heap->Prop}{r:A}(h:CallFn P g az' r) (hz:(frzs H az).1∧(frzs H az).2=az') (hf:flatV r=true) (hk:K r H):CallS P g az H K:=
 CallS.lend (K':=fun r' H'=>r'=r∧H'=[]) h hz (by rintro _ _ ⟨rfl,rfl⟩;exact⟨hf,by simp,by simpa using hk⟩)
theorem CallOwn.lend {g:FuncId}{az az':List A}{e:TypeId}{sz:Nat}{rows:List (List A)}(h:CallOwn P g az' e sz rows) {H:Heap}{K:A->Heap->Prop}(τ:Nat) (hz:(frzs H az).1∧(frzs H az).2=az') (hf:∀hd,flatE (.seq hd e sz rows)=true)
  (hk:∀hd,K (.own τ hd) ((τ,.seq hd e sz rows)::H)):CallS P g az H K:=by
 have h2:CallS P g az' [] fun r H'=>∃hd,r=.own τ hd∧H'=[(τ,.seq hd e sz rows)]:=h.s τ fun hd=>⟨hd,rfl,rfl⟩
 refine h2.lend hz ?_
 rintro r H' ⟨hd,rfl,rfl⟩
 refine⟨rfl,?_,hk hd⟩
 intro p hp
 simp only[List.mem_singleton]at hp
 subst hp
 exact hf hd
theorem CallS.frzPart {g:FuncId}{az:List A}{K:A->Heap->Prop}{H:Heap}{ρ:A}(h:CallS P g az H fun r H'=>∃H2,K r H2∧H'=H2++H) (hk:∀r H',K r H'->(Go.Proofs.YtafamcbdaeppoaaGreatDoor.frz H' r).1∧(Go.Proofs.YtafamcbdaeppoaaGreatDoor.frz H' r).2=ρ):CallS P g az H fun r' H'=>r'=ρ∧H'=H:=by
 refine⟨h.1,fun x args H0 hi hd=>(h.2 x args H0 hi hd).mono ?_⟩
 rintro _ _ ⟨y,v,r,H',rfl,rfl,hle,hi',hv,H2,hkk,rfl⟩
 obtain⟨h1,rfl⟩:=hk r H2 hkk
 rw[List.append_assoc]at hi'
 obtain⟨z,hw,hle2,hi2,hok,_⟩:=hi'.freeze
 exact⟨z,v,_,H,rfl,hw,hle.trans hle2,hi2,frz_ok hi' hle2 hw hok r v hv h1,rfl,rfl⟩
theorem CallOwn.lendFn {g:FuncId}{az az':List A}{e:TypeId}{sz:Nat}{rows:List (List A)}(h:CallOwn P g az' e sz rows) {H:Heap}(hz:(frzs H az).1∧(frzs H az).2=az') (hf:∀hd,flatE (.seq hd e sz rows)=true) (hd:allD rows=true) :
  CallS P g az H fun r' H'=>r'=.dat (.sl (rowsD rows))∧H'=H:=by
 refine CallS.frzPart (K:=fun r H'=>∃hh,r=.own 0 hh∧H'=[(0,.seq hh e sz rows)]) (h.lend 0 hz hf fun hh=>⟨[(0,.seq hh e sz rows)],⟨hh,rfl,rfl⟩,rfl⟩) ?_
 rintro r H' ⟨hh,rfl,rfl⟩
 simp[Go.Proofs.YtafamcbdaeppoaaGreatDoor.frz,hget,hd]
attribute [simp] hdE ownAt frz frzs flatV flatL flatE subN nilSeq
end
abbrev encI (n:Int):List L:=[.int .i64 n]
abbrev encB (b:Bool):List L:=[.bool b]
abbrev encT (s:List UInt8):List L:=[.str s]
abbrev aI (n:Int):A:=.dat (.int .i64 n)
abbrev aB (b:Bool):A:=.dat (.bool b)
abbrev aT (s:List UInt8):A:=.dat (.str s)
abbrev aIs (xs:List Int):A:=.dat (.sl (xs.map encI))
abbrev aBs (xs:List Bool):A:=.dat (.sl (xs.map encB))
abbrev aTs (xs:List (List UInt8)):A:=.dat (.sl (xs.map encT))
abbrev rI (n:Int):List A:=[.dat (.int .i64 n)]
abbrev rB (b:Bool):List A:=[.dat (.bool b)]
abbrev rT (s:List UInt8):List A:=[.dat (.str s)]
structure Signal where
 name:List UInt8
 kind:Int
 on:Expr
 off:Expr
 delay:Int
 init:Bool
abbrev encS (s:Signal):List L:=[.str s.name,.int .i64 s.kind,.int .i64 s.on.op,.int .i64 s.on.index,.sl (s.on.args.map encE),.int .i64 s.off.op,.int .i64 s.off.index,.sl (s.off.args.map encE),.int .i64 s.delay,.bool s.init]
structure Control where
 actuators:Int
 inputs:List (List UInt8)
 signals:List Signal
 plus:List Int
 minus:List Int
abbrev encC (c:Control):List L:=[.int .i64 c.actuators,.sl (c.inputs.map encT),.sl (c.signals.map encS),.sl (c.plus.map encI),.sl (c.minus.map encI)]
abbrev aC (c:Control):A:=.record (encC c)
structure State where
 ends:List Int
 valves:List Bool
 inputs:List Bool
 values:List Bool
 timers:List Int
 deriving DecidableEq
abbrev encSt (s:State):List L:=[.sl (s.ends.map encI),.sl (s.valves.map encB),.sl (s.inputs.map encB),.sl (s.values.map encB),.sl (s.timers.map encI)]
abbrev aSt (s:State):A:=.record (encSt s)
abbrev Sh {α:Type}(l:List α):Prop:=l.length<=9223372036854775807
abbrev I64 (n:Int):Prop:=-9223372036854775808<=n∧n<=9223372036854775807
structure OkS (s:Signal):Prop where
 name:Sh s.name
 kind:I64 s.kind
 on:OkE s.on
 off:OkE s.off
 delay:I64 s.delay
structure OkC (c:Control):Prop where
 actuators:I64 c.actuators
 inputs:Sh c.inputs
 names:∀s∈c.inputs,Sh s
 signals:Sh c.signals
 sigs:∀s∈c.signals,OkS s
 plus:Sh c.plus
 minus:Sh c.minus
 plusI:∀n∈c.plus,I64 n
 minusI:∀n∈c.minus,I64 n
structure OkSt (s:State):Prop where
 ends:Sh s.ends
 valves:Sh s.valves
 inputs:Sh s.inputs
 values:Sh s.values
 timers:Sh s.timers
 endsI:∀n∈s.ends,I64 n
 timersI:∀n∈s.timers,I64 n
structure Sm (c:Control):Prop where
 act : -1000000<=c.actuators∧c.actuators<=1000000
 inp:c.inputs.length<=1000000
 sig:c.signals.length<=1000000
theorem visit_call {σ δ:Type}{l:Nat}{Hc:σ->Heap}{Hd:δ->Heap}{step:σ->Int×Expr->Except δ σ}{b2 b3:Nat}:∀(N:Nat) (x:Expr),SizeOf.sizeOf x<N->OkE x->∀(d:Int),1<=d->d<=17->∀(s:σ),
  (∀s p,p∈preE x d->CallY Tryz.prog l [.dat (.int .i64 p.1),aE p.2] (Hc s) (yK Hc Hd (step s p))) ->
  CallS Tryz.prog 335 [aE x,.dat (.int .i64 d),.ptr 2 b2 0,.ptr 3 b3 0] ((3,.box b3 [.fn 335 [] [.ptr 2 b2 0,.ptr 3 b3 0]])::(2,.box b2 [.yld l])::rt 1000 (Hc s))
   fun r H'=>match (preE x d).foldlM step s with
    | .ok s'=>r=.dat (.bool true)∧H'=(3,.box b3 [.fn 335 [] [.ptr 2 b2 0,.ptr 3 b3 0]])::(2,.box b2 [.yld l])::rt 1000 (Hc s')
    | .error e=>r=.dat (.bool false)∧H'=(3,.box b3 [.fn 335 [] [.ptr 2 b2 0,.ptr 3 b3 0]])::(2,.box b2 [.yld l])::rt 1000 (Hd e)
 | 0,_,h,_,_,_,_,_,_=>absurd h (Nat.not_lt_zero _)
 | N+1,x,hN,hx,d,hd1,hd2,s,hy=>by
  refine CallS.dropP (callS_of Tryz.func335 rfl Tryz.ntmps335 (rs:=[.tmp 6]) rfl (by kernel_rfl) (by simp) (by kernel_rfl) (K:=fun r H'=>match (preE x d).foldlM step s with
    | .ok s'=>r=.dat (.bool true)∧subP ((3,.box b3 [.fn 335 [] [.ptr 2 b2 0,.ptr 3 b3 0]])::(2,.box b2 [.yld l])::rt 1000 (Hc s')) H'
    | .error e=>r=.dat (.bool false)∧subP ((3,.box b3 [.fn 335 [] [.ptr 2 b2 0,.ptr 3 b3 0]])::(2,.box b2 [.yld l])::rt 1000 (Hd e)) H') ?_) ?_
  ·simp
   refine ((hy s (d,x) (by rw[preE_eq];simp)).rt.c1.c1).mono ?_
   rintro r H' ⟨_,⟨_,⟨H1,rfl,hk⟩,rfl⟩,rfl⟩
   simp only[yK]at hk
   rw[preE_eq,List.foldlM_cons]
   cases hst:step s (d,x) with
   | error e=>
    rw[hst]at hk
    obtain⟨rfl,rfl⟩:=hk
    simp[bind,Except.bind,subP.refl]
   | ok s1=>
    rw[hst]at hk
    obtain⟨rfl,rfl⟩:=hk
    simp only[bind,Except.bind]
    simp
    refine V.for' [1,3,15,16] (fun p=>[(17,.dat (.int .i64 (p.1:Nat)))]) (fun p=>(3,.box b3 [.fn 335 [] [.ptr 2 b2 0,.ptr 3 b3 0]])::(2,.box b2 [.yld l])::rt 1000 (Hc p.2))
     (fun p:Nat×σ=>p.1<=x.args.length∧(if d<=16 then preL (x.args.drop p.1) (d+1) else []).foldlM step p.2=(if d<=16 then preL x.args (d+1) else []).foldlM step s1) (fun p=>x.args.length-p.1) (0,s1) ⟨by simp,by simp,subP.refl _⟩ ?_
    rintro⟨i,s2⟩ ⟨hi,hinv⟩
    simp only at hi hinv
    have hlen:=hx.len
    have hadv:∀ {y:Expr}{rest:List Expr},x.args.drop i=y::rest->d<=16->(preE y (d+1)++preL rest (d+1)).foldlM step s2=(preL x.args (d+1)).foldlM step s1:=by
     intro y rest h hd
     rw[h]at hinv
     simpa [hd,preL]using hinv
    by_cases hlt:i<x.args.length
    ·obtain⟨y,hy1⟩:∃y,x.args[i]'hlt=y:=⟨_,rfl⟩
     have hy0:x.args[i]?=some y:=by rw[List.getElem?_eq_getElem hlt,hy1]
     have hmem:y∈x.args:=List.mem_of_getElem? hy0
     have hdrop:x.args.drop i=y::x.args.drop (i+1):=by
      rw[List.drop_eq_getElem_cons hlt]
      rw[hy1]
     simp[hlt,hy1,encE_eq,reads,Nat.not_le.2 hlt]
     intro b
     refine⟨by omega,?_⟩
     refine GCall.ways (fun hd=>⟨hd,?_⟩) (fun hd=>⟨.dat (.bool true),?_⟩)
     ·have hsub:∀p∈preE y (d+1),p∈preE x d:=by
       intro p hp
       rw[preE_eq,if_pos hd]
       refine List.mem_cons_of_mem _ ?_
       have:∀(l:List Expr),y∈l->p∈preL l (d+1):=by
        intro l
        induction l with
        | nil=>simp
        | cons z l ih=>
         intro hz
         simp only[preL,List.mem_append]
         rcases List.mem_cons.1 hz with rfl | hz
         ·exact .inl hp
         ·exact .inr (ih hz)
       exact this _ hmem
      have ih:=visit_call (Hc:=Hc) (Hd:=Hd) (step:=step) (b2:=b2) (b3:=b3) (l:=l) N y (by have:=Expr.lt_of_mem hmem;omega) (hx.args y hmem) (d+1) (by omega) (by omega) s2 (fun s p hp=>hy s p (hsub p hp))
      refine ih.c1.mono ?_
      rintro r H' ⟨H2,hk,rfl⟩
      have hA:=hadv hdrop hd
      rw[List.foldlM_append]at hA
      cases hf:(preE y (d+1)).foldlM step s2 with
      | error e=>
       rw[hf]at hk hA
       obtain⟨rfl,rfl⟩:=hk
       simp only[bind,Except.bind]at hA
       simp[hd,<- hA]
       exact (subP.refl _).c _
      | ok s3=>
       rw[hf]at hk hA
       obtain⟨rfl,rfl⟩:=hk
       simp only[bind,Except.bind]at hA
       simp[hd]
       exact⟨by omega,i+1,s3,⟨hlt,hA⟩,by omega,by simp,(subP.refl _).c _⟩
     ·simp[hd]
      refine⟨by omega,i+1,s2,⟨hlt,?_⟩,by omega,by simp,(subP.refl _).c _⟩
      simpa [hd]using hinv
    ·have hie:i=x.args.length:=by omega
     subst hie
     simp
     have hinv':Except.ok s2=(if d<=16 then preL x.args (d+1) else []).foldlM step s1:=by
      rw[<- hinv]
      split<;>simp[preL,pure,Except.pure]
     rw[<- hinv']
     exact subP.refl _
  ·intro r H' hk
   cases hf:(preE x d).foldlM step s with
   | error e=>
    rw[hf]at hk
    exact⟨_,hk.2,hk.1,rfl⟩
   | ok s3=>
    rw[hf]at hk
    exact⟨_,hk.2,hk.1,rfl⟩
theorem preorder_call {σ δ:Type}{l:Nat}{Hc:σ->Heap}{Hd:δ->Heap}{step:σ->Int×Expr->Except δ σ}{x:Expr}(hx:OkE x) (s:σ)
  (hy:∀s p,p∈preE x 1->CallY Tryz.prog l [.dat (.int .i64 p.1),aE p.2] (Hc s) (yK Hc Hd (step s p))) :
  CallS Tryz.prog 334 [.yld l,.rptr [.int .i64 x.op,.int .i64 x.index,.sl (x.args.map encE)]] (Hc s) fun _ H'=>match (preE x 1).foldlM step s with
    | .ok s'=>H'=Hc s'
    | .error e=>H'=Hd e:=by
 refine CallS.rt (k:=1000) (CallS.dropP (callS_of Tryz.func334 rfl Tryz.ntmps334 (rs:=[]) rfl (by kernel_rfl) (by simp) (by kernel_rfl) (K:=fun _ H'=>match (preE x 1).foldlM step s with
    | .ok s'=>subP (rt 1000 (Hc s')) H'
    | .error e=>subP (rt 1000 (Hd e)) H') ?_) ?_)
 ·simp
  intro b2 b3
  refine (visit_call (SizeOf.sizeOf x+1) x (by omega) hx 1 (by omega) (by omega) s hy).mono ?_
  intro r H' hk
  cases hf:(preE x 1).foldlM step s with
  | error e=>
   rw[hf]at hk
   obtain⟨_,rfl⟩:=hk
   simp
   exact ((subP.refl _).c _).c _
  | ok s3=>
   rw[hf]at hk
   obtain⟨_,rfl⟩:=hk
   simp
   exact ((subP.refl _).c _).c _
 ·intro r H' hk
  cases hf:(preE x 1).foldlM step s with
  | error e=>
   rw[hf]at hk
   exact⟨_,hk,_,rfl,rfl⟩
  | ok s3=>
   rw[hf]at hk
   exact⟨_,hk,_,rfl,rfl⟩
theorem preorder_fn (x:Expr):CallFn Tryz.prog 264 [aE x] (.fn 334 [] [.rptr [.int .i64 x.op,.int .i64 x.index,.sl (x.args.map encE)]]):=by
 refine callFn_of Tryz.func264 rfl Tryz.ntmps264 (rs:=[.tmp 2]) rfl (by kernel_rfl) (by simp) (by kernel_rfl) ?_
 simp
theorem preorder_iter (x:Expr) (hx:OkE x):IterS Tryz.prog 334 [] [.rptr [.int .i64 x.op,.int .i64 x.index,.sl (x.args.map encE)]] (preE x 1) fun p=>[.dat (.int .i64 p.1),aE p.2]:=
 fun _ _ _ _ s hy=>preorder_call hx s hy
def measS (s:Int×Int) (p:Int×Expr):Except Unit (Int×Int):=if s.1+1>256∨p.1>16 then .error () else .ok (s.1+1,max s.2 p.1)
def meas (x:Expr):Except Unit (Int×Int):=(preE x 1).foldlM measS (0,0)
theorem measure_fn (x:Expr) (hx:OkE x):CallFn Tryz.prog 263 [aE x] (.tuple (match meas x with
  | .ok (n,d)=>[.dat (.int .i64 n),.dat (.int .i64 d),.dat (.bool true)]
  | .error _=>[.dat (.int .i64 0),.dat (.int .i64 0),.dat (.bool false)])):=by
 refine callFn_of Tryz.func263 rfl Tryz.ntmps263 (rs:=[.cell 2 3,.cell 3 3,.cell 4 4]) rfl (by kernel_rfl) (by simp) (by kernel_rfl) ?_
 simp
 intro b1 b2 b3 b4 b5
 refine (preorder_fn x).s ?_
 refine V.rangeFold (items:=preE x 1) (enc:=fun p=>[.dat (.int .i64 p.1),aE p.2]) 100 (by simp) trivial (preorder_iter x hx)
  (fun s:Int×Int=>[(6,.box b5 [.dat (.int .i64 s.2)]),(5,.box b4 [.dat (.int .i64 s.1)]),(4,.box b3 [.dat (.bool false)]),(3,.box b2 [.dat (.int .i64 0)]),(2,.box b1 [.dat (.int .i64 0)])])
  (fun _:Unit=>[(4,.box b3 [.dat (.bool false)]),(3,.box b2 [.dat (.int .i64 0)]),(2,.box b1 [.dat (.int .i64 0)])])
  (fun _=>none) measS (fun s=>0<=s.1∧s.1<=256) (0,0) (by simp) ?_ (subP.refl _) (by simp) ?_ ?_
 ·rintro⟨n,m⟩ p s' ⟨h1,h2⟩ h
  simp only[measS]at h
  split at h
  ·cases h
  ·simp only[Except.ok.injEq]at h
   subst h
   simp only at *
   omega
 ·rintro l ⟨n,m⟩ ⟨d,y⟩ ⟨h1,h2⟩ hp
  simp only at h1 h2
  have hmax:(if m<d then d else m)=max m d:=by split<;>omega
  simp[hmax]
  refine⟨by omega,?_,?_⟩
  ·intro h
   simp only[measS]
   rw[if_pos (by simp only[gt_iff_lt];exact h)]
   exact⟨rfl,((subP.refl _).c _).c _⟩
  ·intro h h'
   simp only[measS]
   rw[if_neg (by simp only[gt_iff_lt];omega)]
   exact subP.refl _
 ·intro o ho
  cases o with
  | error e=>simp[meas,ho,jX]
  | ok s=>
   obtain⟨n,m⟩:=s
   simp[meas,ho]
   refine V.draw (fun _=>none) (by kernel_rfl) (by kernel_rfl) (by simp) ?_
   simp[meas,ho]
theorem every_fn (b:Bool):CallFn Tryz.prog 336 [.dat (.bool b)] (.fn 371 [] [.rptr [.bool b]]):=by
 refine callFn_of Tryz.func336 rfl Tryz.ntmps336 (rs:=[.tmp 2]) rfl (by kernel_rfl) (by simp) (by kernel_rfl) ?_
 simp
abbrev shapesA:List A:=[.dat (.int .i64 0),.dat (.int .i64 0),.nilf,.dat (.int .i64 0),.dat (.int .i64 0),.nilf,.dat (.int .i64 1),.dat (.int .i64 1),.fn 371 [] [.rptr [.bool false]],
 .dat (.int .i64 2),.dat (.int .i64 256),.fn 371 [] [.rptr [.bool true]],.dat (.int .i64 2),.dat (.int .i64 256),.fn 337 [] []]
theorem shapes_fn:CallFn Tryz.prog 266 [] (.agg shapesA):=by
 refine callFn_of Tryz.func266 rfl Tryz.ntmps266 (rs:=[.cell 0 339]) rfl (by kernel_rfl) (by simp) (by kernel_rfl) ?_
 simp
 intro b
 refine (every_fn false).s ?_
 simp
 refine (every_fn true).s ?_
 simp
def nodeR (x:Expr) (n:Int):Int:=
 if x.op<0∨x.op>=5 then 1
 else
  let k:Int:=x.args.length
  let lm:Int×Int:=if x.op<=1 then (0,0) else if x.op=2 then (1,1) else (2,256)
  if k<lm.1∨k>lm.2 then 3
  else
   let most:=if x.op=0 then 1 else if x.op=1 then n-1 else 0
   if x.index<0∨x.index>most then 2 else 0
theorem node_fn (x:Expr) (hx:OkE x) (n:Int) (hn:0<=n∧n<=256):CallFn Tryz.prog 265 [aE x,.dat (.int .i64 n)] (.dat (.int .i64 (nodeR x n))):=by
 refine callFn_of Tryz.func265 rfl Tryz.ntmps265 (rs:=[.tmp 4]) rfl (by kernel_rfl) (by simp) (by kernel_rfl) ?_
 simp
 refine⟨fun h=>by simp[nodeR,h],fun h0 h5=>?_⟩
 have h:=hx.len
 obtain ho | ho | ho | ho | ho:x.op=0∨x.op=1∨x.op=2∨x.op=3∨x.op=4:=by omega
 all_goals
  refine V.draw (fun s=>if s=15 then some (.fn (.agg shapesA)) else none) (by kernel_rfl) (by kernel_rfl) (by simp) ?_
  simp[ho,reads,Region.binds]
  refine⟨shapes_fn,?_⟩
  and_intros<;>intros<;>simp only[nodeR,ho]<;>(cases hk:x.args<;>simp_all<;>omega)
def nodeS (n:Int) (_:Unit) (p:Int×Expr):Except Int Unit:=if nodeR p.2 n≠0 then .error (nodeR p.2 n) else .ok ()
def checkE (x:Expr) (n:Int):Int:=
 if n<0∨n>256 then 2
 else match meas x with
  | .error _=>5
  | .ok _=>match (preE x 1).foldlM (nodeS n) () with
   | .ok _=>0
   | .error e=>e
theorem preE_ok:∀(N:Nat) (x:Expr),SizeOf.sizeOf x<N->OkE x->∀(d:Int),∀p∈preE x d,OkE p.2
 | 0,_,h,_,_,_,_=>absurd h (Nat.not_lt_zero _)
 | N+1,x,hN,hx,d,p,hp=>by
  rw[preE_eq]at hp
  rcases List.mem_cons.1 hp with rfl | hp
  ·exact hx
  ·split at hp
   ·have:∀l:List Expr,(∀y∈l,y∈x.args)->p∈preL l (d+1)->OkE p.2:=by
     intro l
     induction l with
     | nil=>intro _ h;simp[preL]at h
     | cons y l ih=>
      intro hl h
      simp only[preL,List.mem_append]at h
      rcases h with h | h
      ·have hm:=hl y (by simp)
       exact preE_ok N y (by have:=Expr.lt_of_mem hm;omega) (hx.args y hm) (d+1) p h
      ·exact ih (fun y hy=>hl y (by simp[hy])) h
    exact this x.args (fun _ h=>h) hp
   ·simp at hp
theorem check_fn (x:Expr) (hx:OkE x) (n:Int):CallFn Tryz.prog 177 [aE x,.dat (.int .i64 n)] (.dat (.int .i64 (checkE x n))):=by
 refine callFn_of Tryz.func177 rfl Tryz.ntmps177 (rs:=[.cell 4 36]) rfl (by kernel_rfl) (by simp) (by kernel_rfl) ?_
 simp
 intro b
 refine⟨fun h=>by simp[checkE,h],fun h0 h1=>?_⟩
 refine (measure_fn x hx).s ?_
 cases hm:meas x with
 | error e=>simp[checkE,hm,Int.not_lt.2 h0,Int.not_lt.2 h1]
 | ok s=>
  obtain⟨k,d⟩:=s
  simp
  refine (preorder_fn x).s ?_
  refine V.rangeFold (items:=preE x 1) (enc:=fun p=>[.dat (.int .i64 p.1),aE p.2]) 100 (by simp) trivial (preorder_iter x hx)
   (fun _:Unit=>[(4,.box b [.dat (.int .i64 0)])]) (fun e:Int=>[(4,.box b [.dat (.int .i64 e)])]) (fun _=>none) (nodeS n) (fun _=>True) () trivial (fun _ _ _ _ _=>trivial) (subP.refl _) (by simp) ?_ ?_
  ·rintro l ⟨⟩ ⟨d,y⟩ _ hp
   simp
   intro b1
   refine (node_fn y (preE_ok (SizeOf.sizeOf x+1) x (by omega) hx 1 _ hp) n ⟨h0,h1⟩).s ?_
   simp
   by_cases hz:nodeR y n=0
   ·simp[nodeS,hz]
    exact (subP.refl _).c _
   ·simp[nodeS,hz,jX]
    exact (subP.refl _).c _
  ·intro o ho
   cases o with
   | error e=>simp[checkE,hm,ho,jX,Int.not_lt.2 h0,Int.not_lt.2 h1]
   | ok s=>simp[checkE,hm,ho,jX,Int.not_lt.2 h0,Int.not_lt.2 h1]
inductive RightE (n:Int):Expr->Prop
 | mk (x:Expr) (h:nodeR x n=0) (hr:∀a∈x.args,RightE n a):RightE n x
theorem RightE.node {n:Int}{x:Expr}(h:RightE n x):nodeR x n=0:=by cases h;assumption
theorem RightE.args {n:Int}{x:Expr}(h:RightE n x):∀a∈x.args,RightE n a:=by cases h;assumption
mutual
def evalE:Expr->List Bool->Bool
 | ⟨op,ix,args⟩,vs=>if op=0 then ix==1 else if op=1 then vs.getD ix.toNat false else if op=2 then (evalL args vs).all (·==false) else if op=3 then (evalL args vs).all (·==true) else !(evalL args vs).all (·==false)
def evalL:List Expr->List Bool->List Bool
 | [],_=>[]
 | x::xs,vs=>evalE x vs::evalL xs vs
end
theorem evalE_eq (x:Expr) (vs:List Bool):evalE x vs=if x.op=0 then x.index==1 else if x.op=1 then vs.getD x.index.toNat false else if x.op=2 then (evalL x.args vs).all (·==false) else if x.op=3 then (evalL x.args vs).all (·==true) else !(evalL x.args vs).all (·==false):=by
 cases x;simp[evalE]
def allS (b:Bool) (_:Unit) (v:Bool):Except Unit Unit:=if v=b then .ok () else .error ()
theorem allS_eq (b:Bool):∀vs:List Bool,vs.foldlM (allS b) ()=if vs.all (·==b) then .ok () else .error ()
 | []=>by simp[pure,Except.pure]
 | v::vs=>by
  simp only[List.foldlM_cons,allS]
  by_cases h:v=b
  ·simp[h,bind,Except.bind,allS_eq b vs]
  ·simp[h,bind,Except.bind]
theorem all_call {f:FuncId}{first caps:List A}{items:List Bool}(b:Bool) (hit:IterS Tryz.prog f first caps items fun v=>[.dat (.bool v)]):CallFn Tryz.prog 371 [.fn f first caps,.rptr [.bool b]] (.dat (.bool (items.all (·==b)))):=by
 refine callFn_of Tryz.func371 rfl Tryz.ntmps371 (rs:=[.cell 3 4]) rfl (by kernel_rfl) (by simp) (by kernel_rfl) ?_
 simp
 intro b1
 refine V.rangeFold 100 (by simp) trivial hit (fun _:Unit=>[(3,.box b1 [.dat (.bool false)])]) (fun _:Unit=>[(3,.box b1 [.dat (.bool false)])]) (fun _=>none) (allS b) (fun _=>True) () trivial (fun _ _ _ _ _=>trivial) (subP.refl _) (by simp) ?_ ?_
 ·rintro l ⟨⟩ v _ hp
  simp
  by_cases hv:v=b
  ·simp[allS,hv,subP.refl]
  ·simp[allS,hv,jX,subP.refl]
 ·intro o ho
  rw[allS_eq]at ho
  cases o with
  | ok s => 
   cases ha:items.all (·==b) with
   | true=>simp[ha]
   | false=>rw[ha]at ho;simp at ho
  | error e=>
   cases ha:items.all (·==b) with
   | true=>rw[ha]at ho;simp at ho
   | false=>simp[jX,ha]
theorem none_call {f:FuncId}{first caps:List A}{items:List Bool}(hit:IterS Tryz.prog f first caps items fun v=>[.dat (.bool v)]):CallFn Tryz.prog 337 [.fn f first caps] (.dat (.bool (!items.all (·==false)))):=by
 refine callFn_of Tryz.func337 rfl Tryz.ntmps337 (rs:=[.tmp 2]) rfl (by kernel_rfl) (by simp) (by kernel_rfl) ?_
 simp
 refine (every_fn false).s ?_
 simp
 refine (all_call false hit).s ?_
 simp
theorem evalL_drop {args:List Expr}{vs:List Bool}{i:Nat}{y:Expr}(h:args[i]?=some y):evalL (args.drop i) vs=evalE y vs::evalL (args.drop (i+1)) vs:=by
 obtain⟨hlt,hy⟩:=List.getElem?_eq_some_iff.1 h
 rw[List.drop_eq_getElem_cons hlt,hy,evalL]
theorem evalL_mem {vs:List Bool}{y:Expr}:∀ {args:List Expr},y∈args->evalE y vs∈evalL args vs
 | [],h=>by simp at h
 | z::l,h=>by
  rw[evalL]
  rcases List.mem_cons.1 h with rfl | h
  ·simp
  ·exact List.mem_cons_of_mem _ (evalL_mem h)
theorem eval_iter (x:Expr) (hx:OkE x) (vs:List Bool) (ih:∀a∈x.args,CallFn Tryz.prog 178 [aE a,aBs vs] (.dat (.bool (evalE a vs)))) :
  IterS Tryz.prog 267 [] [.rptr [.int .i64 x.op,.int .i64 x.index,.sl (x.args.map encE)],.rptr [.sl (vs.map encB)]] (evalL x.args vs) fun v=>[.dat (.bool v)]:=by
 intro σ δ l Hc Hd step s hy
 refine CallS.rt (k:=1000) (CallS.dropP (callS_of Tryz.func267 rfl Tryz.ntmps267 (rs:=[]) rfl (by kernel_rfl) (by simp) (by kernel_rfl) (K:=fun _ H'=>match (evalL x.args vs).foldlM step s with
    | .ok s'=>subP (rt 1000 (Hc s')) H'
    | .error e=>subP (rt 1000 (Hd e)) H') ?_) ?_)
 ·simp
  refine V.for' [0,1,2,7,8] (fun p=>[(9,.dat (.int .i64 (p.1:Nat)))]) (fun p=>rt 1000 (Hc p.2))
   (fun p:Nat×σ=>p.1<=x.args.length∧(evalL (x.args.drop p.1) vs).foldlM step p.2=(evalL x.args vs).foldlM step s) (fun p=>x.args.length-p.1) (0,s) ⟨by simp,by simp,subP.refl _⟩ ?_
  rintro⟨i,s2⟩ ⟨hi,hinv⟩
  simp only at hi hinv
  have hlen:=hx.len
  by_cases hlt:i<x.args.length
  ·obtain⟨y,hy1⟩:∃y,x.args[i]'hlt=y:=⟨_,rfl⟩
   have hy0:x.args[i]?=some y:=by rw[List.getElem?_eq_getElem hlt,hy1]
   have hmem:y∈x.args:=List.mem_of_getElem? hy0
   rw[evalL_drop hy0,List.foldlM_cons]at hinv
   simp[hlt,hy1,encE_eq,Nat.not_le.2 hlt]
   intro b
   refine (ih y hmem).s ?_
   simp
   refine (hy s2 (evalE y vs) (evalL_mem hmem)).rt.c1.mono ?_
   rintro r H' ⟨_,⟨H1,rfl,hk⟩,rfl⟩
   simp only[yK]at hk
   cases hst:step s2 (evalE y vs) with
   | error e=>
    rw[hst]at hk hinv
    obtain⟨rfl,rfl⟩:=hk
    simp only[bind,Except.bind]at hinv
    simp[<- hinv]
    exact (subP.refl _).c _
   | ok s3=>
    rw[hst]at hk hinv
    obtain⟨rfl,rfl⟩:=hk
    simp only[bind,Except.bind]at hinv
    simp
    exact⟨by omega,i+1,s3,⟨hlt,hinv⟩,by omega,by simp,(subP.refl _).c _⟩
  ·have hie:i=x.args.length:=by omega
   subst hie
   simp
   rw[<- hinv]
   simp[evalL,pure,Except.pure]
   exact subP.refl _
 ·intro r H' hk
  cases hf:(evalL x.args vs).foldlM step s with
  | error e=>
   rw[hf]at hk
   exact⟨_,hk,_,rfl,rfl⟩
  | ok s3=>
   rw[hf]at hk
   exact⟨_,hk,_,rfl,rfl⟩
theorem eval_fn:∀(N:Nat) (x:Expr),SizeOf.sizeOf x<N->OkE x->∀vs:List Bool,vs.length<=256->RightE vs.length x->CallFn Tryz.prog 178 [aE x,aBs vs] (.dat (.bool (evalE x vs)))
 | 0,_,h,_,_,_,_=>absurd h (Nat.not_lt_zero _)
 | N+1,x,hN,hx,vs,hv,hr=>by
  have ih:∀a∈x.args,CallFn Tryz.prog 178 [aE a,aBs vs] (.dat (.bool (evalE a vs))):=fun a ha=>eval_fn N a (by have:=Expr.lt_of_mem ha;omega) (hx.args a ha) vs hv (hr.args a ha)
  have hit:IterS Tryz.prog 267 [] [.rptr [.int .i64 x.op,.int .i64 x.index,.sl (x.args.map encE)],.rptr [.sl (vs.map encB)]] (evalL x.args vs) fun v=>[.dat (.bool v)]:=eval_iter x hx vs ih
  have hn:=hr.node
  have hop:0<=x.op∧x.op<5:=by
   unfold nodeR at hn
   split at hn<;>omega
  refine callFn_of Tryz.func178 rfl Tryz.ntmps178 (rs:=[.tmp 4]) rfl (by kernel_rfl) (by simp) (by kernel_rfl) ?_
  obtain ho | ho | ho | ho | ho:x.op=0∨x.op=1∨x.op=2∨x.op=3∨x.op=4:=by omega
  ·simp[ho,evalE_eq x]
  ·have hix:0<=x.index∧x.index<vs.length:=by
    simp[nodeR,ho]at hn
    omega
   obtain⟨k,hk⟩:∃k:Nat,x.index=k:=⟨x.index.toNat,by omega⟩
   rw[hk]at hix
   have hkl:k<vs.length:=by omega
   simp[ho,hk,hkl,evalE_eq x]
  ·have e:evalE x vs=(evalL x.args vs).all (·==false):=by rw[evalE_eq,if_neg (by omega),if_neg (by omega),if_pos ho]
   simp[ho]
   refine V.draw (fun s=>if s=19 then some (.fn (.agg shapesA)) else if s=25 then some (.fn (.dat (.bool (evalE x vs)))) else none) (by kernel_rfl) (by kernel_rfl) (by simp) ?_
   simp[ho,reads,Region.binds]
   rw[ho]at hit
   exact⟨shapes_fn,by rw[e];exact all_call false hit⟩
  ·have e:evalE x vs=(evalL x.args vs).all (·==true):=by rw[evalE_eq,if_neg (by omega),if_neg (by omega),if_neg (by omega),if_pos ho]
   simp[ho]
   refine V.draw (fun s=>if s=19 then some (.fn (.agg shapesA)) else if s=25 then some (.fn (.dat (.bool (evalE x vs)))) else none) (by kernel_rfl) (by kernel_rfl) (by simp) ?_
   simp[ho,reads,Region.binds]
   rw[ho]at hit
   exact⟨shapes_fn,by rw[e];exact all_call true hit⟩
  ·have e:evalE x vs = !(evalL x.args vs).all (·==false):=by rw[evalE_eq,if_neg (by omega),if_neg (by omega),if_neg (by omega),if_neg (by omega)]
   simp[ho]
   refine V.draw (fun s=>if s=19 then some (.fn (.agg shapesA)) else if s=25 then some (.fn (.dat (.bool (evalE x vs)))) else none) (by kernel_rfl) (by kernel_rfl) (by simp) ?_
   simp[ho,reads,Region.binds]
   rw[ho]at hit
   exact⟨shapes_fn,by rw[e];exact none_call hit⟩
end Go.Proofs.YtafamcbdaeppoaaGreatDoor
