/- Texts joined by a program: Fxl,Fxm,Fxn,Hk,In,Io,Ip,Iq,Ir,Is,Id,It,Pm,Iz,Ov,Ow,Ia. -/
import Derived.Test.YtafamcbdaeppoaaGreatDoorF20
import Derived.Test.YtafamcbdaeppoaaGreatDoorF15
import Derived.Test.YtafamcbdaeppoaaGreatDoorF19
import Derived.Test.YtafamcbdaeppoaaGreatDoorF18
import Derived.Test.YtafamcbdaeppoaaGreatDoorF16
set_option linter.unusedSimpArgs false
set_option linter.unusedVariables false
set_option maxHeartbeats 8000000
set_option maxRecDepth 10000
namespace Go.Proofs.YtafamcbdaeppoaaGreatDoor
section
variable {P:Program}
theorem ds_take {x:X}:∀(ls:List L) {rest:List A}{vs:List Value},Ds x (ls.map A.dat++rest) vs->RdLs x ls (vs.take ls.length)
 | [],_,_,_=>by simp[RdLs]
 | l::ls,rest,v::vs,h=>by
  simp only[List.map_cons,List.cons_append,Ds,D]at h
  simp only[List.length_cons,List.take_succ_cons,RdLs]
  exact⟨h.1,ds_take ls h.2⟩
 | l::ls,rest,[],h=>by simp[Ds]at h
theorem Gh.frzPre {Q:Env->Heap->Prop}{E:Env}{H:Heap}(t:Nat) {τ b:Nat}{ls:List L}{rest:List A}(hE:E t=.ptr τ b 0) (hH:hget τ H=some (.box b (ls.map A.dat++rest)))
  (hq:Gh Q (upd E t (.rptr ls)) (hdel τ H)):Gh Q E H:=by
 intro n ds x act H0 hi he
 have hp:=hdel_perm hH
 have hi1:Inv x ([(τ,.box b (ls.map A.dat++rest))]++(hdel τ H++H0)):=by
  have:=hi.perm (hp.symm.append_right H0)
  simpa using this
 obtain⟨y,hw,hle,hi2,hok,_⟩:=hi1.freeze
 have he2:EnvOK n ds y act (upd E t (.rptr ls)):=by
  have hm:=he.mono hle
  refine⟨hm.defers,hm.size,fun s=>?_⟩
  simp only[upd]
  split
  ·rename_i hs
   subst hs
   have hv:=he.slot s
   rw[hE]at hv
   obtain⟨c,ty,k1,k2⟩:=hi1.sat (τ,.box b (ls.map A.dat++rest)) (by simp)
   simp only[D]at hv ⊢
   rw[hv]
   refine⟨b,0,rfl,rdCells_vals (hok b ⟨_,List.mem_singleton.2 rfl,rfl⟩) ls _ 0 (RdLs.mono hle _ _ (ds_take ls k2)) ?_⟩
   intro j u hj
   rw[hw]
   simp only[World.cell?,k1,Nat.zero_add]
   have hj2:c.toList[j]?=some u:=by
    rw[List.getElem?_take]at hj
    split at hj
    ·exact hj
    ·cases hj
   simpa using hj2
  ·exact hm.slot s
 obtain⟨z,E2,H2,w2,l2,i2,e2,h2⟩:=hq n ds y act H0 hi2 he2
 exact⟨z,E2,H2,w2.trans hw,hle.trans l2,i2,e2,h2⟩
theorem rows1 {x:X}:∀(ls:List L) (b off:Nat),RdCells x ls b off->RdRows x (ls.map fun l=>[l]) b off
 | [],_,_,_=>by simp[RdRows]
 | l::ls,b,off,h=>by
  simp only[RdCells]at h
  simp only[List.map_cons,RdRows,RdCells,List.length_singleton]
  exact⟨⟨h.1,trivial⟩,rows1 ls b (off+1) h.2⟩
theorem sliceArr_ok {o:Oper}{t e:TypeId}{n:Nat}{x:Operand}{E:Env}{ls:List L}(ho:o.op=.slice t x none none none) (hu:arT P t=some (n,e)) (hs:tk P e≠0) (hE:ev E x=.rptr ls) (hn:n<=ls.length) :
  PureOK P o E (.dat (.sl ((ls.take n).map fun l=>[l]))):=by
 intro m ds y act he hb
 obtain⟨dst,op,type,pos,after,guard⟩:=o
 simp only at ho
 subst ho
 have hv:=ev_ok he x
 rw[hE]at hv
 simp only[D]at hv
 obtain⟨b,off,hv,hc⟩:=hv
 refine⟨.slice (some ⟨b,off,none⟩) n n,y,?_,Grow.refl y,?_⟩
 ·simp[execOp,Instr.sliceAt,run_underlying (arT_und hu),hv,Instr.sureAddr,Instr.sliceBounds,run_sizeOf' hs,add_none]
 ·simp only[D,RdL]
  refine .inr (.inl ⟨b,off,n,?_,?_,rows1 _ _ _ (RdCells.take n ls b off hc)⟩)
  ·simp;omega
  ·simp;omega
def vcT (P:Program) (ρ:Nat->Option CR) (T:List Nat) (hd:Nat->Option A) (ops:List Oper):List Oper->Env->Heap->(Env->Heap->Prop)->Prop
 | [],E,H,K=>K E H
 | o::rest,E,H,K=>match hd (o.dst.getD 0),o.guard with
  | some a,none=>PureOK P o E a∧vcT P ρ T hd ops rest (put E o.dst a) H K
  | _,_=>∀u b,match T.contains (o.dst.getD 0)&&o.guard.isNone with
   | true=>match heapF P u b (o.dst.getD 0) E (fun t=>hget t H) o.op with
    | some (p,a,ch)=>p∧vcT P ρ T hd ops rest (put E o.dst a) (happ ch H) K
    | none=>False
   | false=>match fStep P ρ u b ops o E (fun t=>hget t H) with
    | some (p,a,ch)=>p∧vcT P ρ T hd ops rest (put E o.dst a) (happ ch H) K
    | none=>False
theorem vcT_ok {ρ:Nat->Option CR}{T:List Nat}{hd:Nat->Option A}{ops:List Oper}{n:Nat}{ds:List Deferred}{H0:Heap}{x0:X}{Q:Exit->Act->World->Prop}:∀(l:List Oper) (k:Nat) (E:Env) (H:Heap) (K:Env->Heap->Prop),ops.drop k=l->(∀o∈l,fits n o.dst)->vcT P ρ T hd ops l E H K ->
  (∀E H x act,K E H->x0.le x->Inv x (H++H0)->EnvOK n ds x act E->Q .normal act x.w)->∀x act,x0.le x->Inv x (H++H0)->EnvOK n ds x act E->wpOps P ops.toArray Q ((List.range' k l.length)) act x.w
 | [],k,E,H,K,_,_,h,hq,x,act,hle,hi,he=>by
  simp only[List.length_nil,List.range'_zero,wpOps]
  exact hq _ _ x act h hle hi he
 | o::rest,k,E,H,K,hk,hf,h,hq,x,act,hle,hi,he=>by
  have ho:ops[k]?=some o:=by
   have:=congrArg (·[0]?) hk
   simpa [List.getElem?_drop]using this
  have hk':ops.drop (k+1)=rest:=by
   rw[<- List.drop_drop,hk]
   rfl
  simp only[List.length_cons,List.range'_succ]
  rw[wpOps_cons]
  simp only[vcT]at h
  split at h
  ·rename_i a hh hg
   obtain⟨u,y,h1,h2,h3⟩:=h.1 _ _ x act he hi.bd
   have hw:Region.wanted o (yielded ops.toArray act.tmps)=true:=by simp[Region.wanted,hg]
   unfold wpOp
   rw[show ops.toArray[k]?=some o by simpa using ho]
   simp only
   rw[if_pos hw]
   left
   show o.upon P act _ Q _
   rw[h1]
   exact vcT_ok rest (k+1) _ _ K hk' (fun o ho=>hf o (by simp[ho])) h.2 hq y _ (hle.trans h2.le) (hi.grow h2) ((he.mono h2.le).put (hf o (by simp)) h3)
  ·cases hT:(T.contains (o.dst.getD 0)&&o.guard.isNone) with
   | true=>
    rw[hT]at h
    dsimp only at h
    have hg:o.guard=none:=by
     have:=(Bool.and_eq_true_iff.1 hT).2
     cases hgd:o.guard with
     | none=>rfl
     | some _=>rw[hgd]at this;simp at this
    have hw:Region.wanted o (yielded ops.toArray act.tmps)=true:=by simp[Region.wanted,hg]
    obtain⟨u,b,v,y,p,a,ch,h1,h2,h3,h4,h5,h6⟩:=heapF_ok (P:=P) (o:=o) (E:=E) (τ:=o.dst.getD 0) (fun u b=>by
     have:=h u b
     split at this
     ·rename_i p a ch hh;exact⟨p,a,ch,hh,this.1⟩
     ·exact this.elim) (fun t=>rfl) hi he
    have hk2:=h u b
    rw[h1]at hk2
    have fin:∀v,D y a v->wpOps P ops.toArray Q (List.range' (k+1) rest.length) (act.put o.dst v) y.w:=fun v hd=>
     vcT_ok rest (k+1) _ _ K hk' (fun o ho=>hf o (by simp[ho])) hk2.2 hq y _ (hle.trans h4) h5 ((he.mono h4).put (hf o (by simp)) hd)
    unfold wpOp
    rw[show ops.toArray[k]?=some o by simpa using ho]
    simp only
    rw[if_pos hw]
    left
    show o.upon P act _ Q _
    rcases h3 with h3 | ⟨h3,rfl⟩
    ·rw[h3];exact fin v h6
    ·rw[h3];exact fin Go.undef h6
   | false=>
    rw[hT]at h
    dsimp only at h
    refine fStep_ok (ρ:=ρ) (fun u b=>?_) (fun t=>rfl) hi he (by simpa using ho) ?_
    ·have:=h u b
     split at this
     ·rename_i p a ch hh;exact⟨p,a,ch,hh,this.1⟩
     ·exact this.elim
    ·intro u b p a ch v y hh hle2 hi2 hd
     have:=h u b
     rw[hh]at this
     exact vcT_ok rest (k+1) _ _ K hk' (fun o ho=>hf o (by simp[ho])) this.2 hq y _ (hle.trans hle2) hi2 ((he.mono hle2).put (hf o (by simp)) hd)
theorem V.regD {n:Nat}{id:Nat}{ops:Array Oper}{E:Env}{H:Heap}{Q:PostQ}(ρ:Nat->Option CR) (T:List Nat) (hd:Nat->Option A) (h:vcT P ρ T hd ops.toList ops.toList E H fun E' H'=>Q .normal E' H'):V ⟨P,none,n⟩ (.region id ops false) E H Q:=by
 intro hf x act H0 ms hi he
 refine wpIn_wide.2 (wp_region ?_)
 have:=vcT_ok (P:=P) (ρ:=ρ) (T:=T) (hd:=hd) (n:=n) (ds:=ms.map mk) (x0:=x) (Q:=Post n H0 Q x) ops.toList 0 E H _ rfl (fitsOps_ok hf) h (fun E H y act hK hle hi he=>⟨y,E,H,ms,rfl,hle,hi,he,hK⟩) x act (.refl x) hi he
 rw[List.range_eq_range']
 simpa using this
attribute [simp] vcT
end
section
variable {P:Program}
theorem CallS.res {g:FuncId}{az:List A}{H:Heap}{K K':A->Heap->Prop}(h:CallS P g az H K)
  (hk:∀r H',K r H'->∃r' H'',(∀x H0,Inv x (H'++H0)->Inv x (H''++H0))∧(∀x v,D x r v->D x r' v)∧K' r' H''):CallS P g az H K':=by
 refine⟨h.1,fun x args H0 hi hd=>(h.2 x args H0 hi hd).mono ?_⟩
 rintro _ _ ⟨y,v,r,H',rfl,rfl,hle,hiy,hv,hkr⟩
 obtain⟨r',H'',a1,a2,a3⟩:=hk r H' hkr
 exact⟨y,v,r',H'',rfl,rfl,hle,a1 y H0 hiy,a2 y v hv,a3⟩
theorem rowsD_T (xs:List (List UInt8)):rowsD (xs.map rT)=xs.map encT:=by unfold rowsD;rw[List.map_map];rfl
theorem allD_T (xs:List (List UInt8)):allD (xs.map rT)=true:=by simp[allD,isD]
attribute [simp] rowsD_T allD_T
end
theorem sets_D {x:X}{tv:Nat->Value}:∀(l:List (Nat×A)) (F:Env),(∀p∈l,D x p.2 (tv p.1))->(∀t,D x (F t) (tv t))->∀t,D x (sets l F t) (tv t)
 | [],_,_,hF=>hF
 | p::l,F,hl,hF=>by
  intro t
  obtain⟨s,a⟩:=p
  show D x (upd (sets l F) s a t) (tv t)
  unfold upd
  by_cases h:t=s
  ·rw[if_pos h,h]
   exact hl (s,a) (by simp)
  ·rw[if_neg h]
   exact sets_D l F (fun q hq=>hl q (by simp[hq])) hF t
theorem Ds_c {x:X}{a a':A}{az az':List A}(h1:∀v,D x a v->D x a' v) (h2:∀vs,Ds x az vs->Ds x az' vs):∀vs,Ds x (a::az) vs->Ds x (a'::az') vs
 | [],h=>by simp[Ds]at h
 | v::vs,h=>by simp only[Ds]at h ⊢;exact⟨h1 v h.1,h2 vs h.2⟩
theorem D_tag {x:X}{t t' b o:Nat}:∀v,D x (.ptr t b o) v->D x (.ptr t' b o) v:=fun v hv=>by simpa only[D]using hv
theorem D_mtag {x:X}{t t' b:Nat}:∀v,D x (.map t b) v->D x (.map t' b) v:=fun v hv=>by simpa only[D]using hv
theorem D_nilo {x:X}{t:Nat}:∀v,D x .nils v->D x (.own t (.slice none 0 0)) v:=fun v hv=>by
 simp only[D]at hv ⊢
 exact⟨hv,none,0,0,rfl⟩
theorem Ds_i {x:X}{az:List A}:∀vs,Ds x az vs->Ds x az vs:=fun _ h=>h
theorem D_i {x:X}{a:A}:∀v,D x a v->D x a v:=fun _ h=>h
theorem box_sat {x:X}{b:Nat}{cs cs':List A}(h:∀vs,Ds x cs vs->Ds x cs' vs):Ent.sat x (.box b cs)->Ent.sat x (.box b cs'):=by
 rintro⟨c,ty,h1,h2⟩
 exact⟨c,ty,h1,h _ h2⟩
theorem D_own {x:X}{t t':Nat}{h:Value}:∀v,D x (.own t h) v->D x (.own t' h) v:=fun v hv=>by simpa only[D]using hv
theorem D_any {x:X}{a:A}:∀v,D x a v->D x .any v:=fun v _=>by simp only[D]
theorem V.cutIN {C:Cfg}(k:Nat) {c:Code}{E:Env}{H Hs:Heap}{Q:PostQ}(kv:List (Nat×A)) (hE:∀p∈kv,∀x v,D x (E p.1) v->D x p.2 v) (hi:∀x H0,Inv x (H++H0)->Inv x (Hs++H0)) (h:vcN C k c (hdE kv []) Hs Q):V C c E H Q:=by
 intro hf x act H0 ms hinv he
 refine vcN_ok k c _ _ _ hf h x act H0 ms (hi x _ hinv) ⟨he.defers,he.size,?_⟩
 refine sets_D [] _ (by simp) (sets_D kv _ (fun p hp=>hE p hp x _ (he.slot p.1)) fun t=>?_)
 simp[anyE,D]
theorem D_fn {x:X}{f:FuncId}{fs fs' cs cs':List A}(h1:∀vs,Ds x fs vs->Ds x fs' vs) (h2:∀vs,Ds x cs vs->Ds x cs' vs):∀v,D x (.fn f fs cs) v->D x (.fn f fs' cs') v:=by
 intro v hv
 simp only[D]at hv ⊢
 obtain⟨a,b,e,k1,k2⟩:=hv
 exact⟨a,b,e,h1 _ k1,h2 _ k2⟩
section
open Go.Sort
section gen
variable {P:Program}
theorem V.cutI {C:Cfg}{c:Code}{E:Env}{H Hs:Heap}{Q:PostQ}(kv:List (Nat×A)) (hE:∀p∈kv,∀x v,D x (E p.1) v->D x p.2 v) (hi:∀x H0,Inv x (H++H0)->Inv x (Hs++H0)) (h:vcC C c (hdE kv []) Hs Q):V C c E H Q:=by
 intro hf x act H0 ms hinv he
 refine vcC_ok c _ _ _ hf h x act H0 ms (hi x _ hinv) ⟨he.defers,he.size,?_⟩
 refine sets_D [] _ (by simp) (sets_D kv _ (fun p hp=>hE p hp x _ (he.slot p.1)) fun t=>?_)
 simp[anyE,D]
end gen
theorem joined_s {t b:Nat}(kind:Int) (letter:List UInt8):CallS Tryz.prog 106 [.ptr t b 0,aI kind,.dat (.str letter)] [] fun r H'=>∃b4,r=.fn 172 [] [.ptr 3 b4 0,.rptr [.int .i64 kind],.rptr [.str letter]]∧H'=[(3,.box b4 [.ptr t b 0])]:=by
 refine callS_of Tryz.func106 rfl Tryz.ntmps106 (rs:=[.tmp 6]) rfl (by kernel_rfl) (by simp) (by kernel_rfl) ?_
 simp
theorem maker_inv {c:Control}{b12 b14 b4 b5:Nat}{x:X}{H0:Heap}(hi:Inv x ([(75,Ent.box b5 [A.ptr 14 b14 0]),(74,.box b4 [.ptr 14 b14 0]),
   (14,.box b14 [.dat (.int .i64 c.actuators),.dat (.sl (c.inputs.map encT)),.dat (.sl (c.signals.map encS)),.dat (.sl (c.plus.map encI)),.dat (.sl (c.minus.map encI)),.nils,.nils,.dat (.int .i64 0),.dat (.int .i64 0),.map 12 b12,
    .fn 103 [.ptr 14 b14 0] [],.fn 104 [.ptr 14 b14 0] [],.fn 105 [.ptr 14 b14 0] [],
    .fn 172 [] [.ptr 74 b4 0,.rptr [.int .i64 9],.rptr [.str [80]]],.fn 172 [] [.ptr 75 b5 0,.rptr [.int .i64 8],.rptr [.str [81]]]]),
   (12,.mapS b12 (.int .i64) [])]++H0)):Inv x (mkrH c b14 b4 b5 b12 (.slice none 0 0) (.slice none 0 0) mk0++H0):=by
 have tg:∀vs,Ds x [A.ptr 14 b14 0] vs->Ds x [A.ptr 70 b14 0] vs:=Ds_c D_tag Ds_i
 have h1:=Inv.swap (g:=75) (e':=.box b5 [.ptr 70 b14 0]) rfl (box_sat tg) (fun _ h=>h) hi
 simp only[hset,if_true]at h1
 have h2:=Inv.swap (g:=74) (e':=.box b4 [.ptr 70 b14 0]) rfl (box_sat tg) (fun _ h=>h) h1
 simp only[hset,show ¬(75:Nat)=74 by omega,if_true,if_false]at h2
 have h3:=Inv.swap (g:=14) (e':=.box b14 (mkrC c b14 b4 b5 b12 (.slice none 0 0) (.slice none 0 0) mk0)) rfl (box_sat (Ds_c D_i (Ds_c D_i (Ds_c D_i (Ds_c D_i (Ds_c D_i (Ds_c D_nilo (Ds_c D_nilo (Ds_c D_i (Ds_c D_i (Ds_c D_mtag
  (Ds_c (D_fn tg Ds_i) (Ds_c (D_fn tg Ds_i) (Ds_c (D_fn tg Ds_i) Ds_i)))))))))))))) (fun _ h=>h) h2
 simp only[hset,show ¬(75:Nat)=14 by omega,show ¬(74:Nat)=14 by omega,if_true,if_false]at h3
 have h4:=Inv.nil (t:=72) (e:=.seq (.slice none 0 0) 180 4 []) (Inv.nil (t:=71) (e:=.seq (.slice none 0 0) 112 7 []) h3 ⟨rfl,rfl⟩) ⟨rfl,rfl⟩
 have h5:Inv x ([(72,Ent.seq (.slice none 0 0) 180 4 []),(71,.seq (.slice none 0 0) 112 7 []),(75,.box b5 [.ptr 70 b14 0]),(74,.box b4 [.ptr 70 b14 0]),(70,.box b14 (mkrC c b14 b4 b5 b12 (.slice none 0 0) (.slice none 0 0) mk0)),(73,.mapS b12 (.int .i64) [])]++H0):=h4.ents (by simp)
 refine h5.perm ?_
 exact (perm_at [_,_,_,_,_,_] (0,.box 0 []) 6 rfl [4,1,0,5,3,2] (by decide)).append_right H0
theorem joinedR {t b:Nat}(τ:Nat) (kind:Int) (letter:List UInt8) (H:Heap):CallS Tryz.prog 106 [.ptr t b 0,aI kind,.dat (.str letter)] H fun r H'=>∃b4,r=.fn 172 [] [.ptr τ b4 0,.rptr [.int .i64 kind],.rptr [.str letter]]∧H'=(τ,.box b4 [.ptr t b 0])::H:=by
 refine (CallS.frame (H:=[]) (H1:=H) (joined_s kind letter)).res ?_
 rintro r H' ⟨_,⟨b4,rfl,rfl⟩,rfl⟩
 refine⟨_,_,fun x H0 hi=>hi.ents (by simp),fun x v hv=>?_,b4,rfl,rfl⟩
 exact D_fn Ds_i (Ds_c D_tag Ds_i) v hv
theorem drawn1_fn (a b:Made):CallFn Tryz.prog 110 [.agg (rMade a),.agg (rMade b)] (aI (Go.Lib.compareBytes a.name b.name)):=by
 obtain⟨ak,an,ad,asg,aa,av,al⟩:=a
 obtain⟨bk,bn,bd,bs,ba,bv,bl⟩:=b
 refine callFz_of Tryz.func110 rfl Tryz.ntmps110 (rs:=[.tmp 4]) rfl (by kernel_rfl) (by simp) (by kernel_rfl) ?_
 cases aa<;>cases ba
 all_goals
  simp[argA]
  intros
  refine (Compare_fnT an bn).s ?_
  simp
theorem few_whole {c:Control}(hc:OkR c):FewM (wholeM c) 60000:=by
 have f0:=few_start hc
 have f1:=few_gates hc f0 c.signals.length (Nat.le_refl _)
 have f2:=few_sigs hc f1 c.signals.length
 have hlen:=hc.len
 have hact:=hc.act
 have f4:FewM (wholeM c) (200+256*c.signals.length+520*c.signals.length+2*c.actuators.toNat):=few_fold (fun m n i h=>few_pil h i) f2.1 _
 exact f4.mono (by omega)
theorem made_ord:OrdOK (fun _:Made=>True) fun a b=>Go.Lib.compareBytes a.name b.name:=by
 have ho:=ltB_ord Made.name
 refine⟨fun a _=>?_,fun a b c _ _ _ h1 h2=>?_,fun a b c _ _ _ h1 h2=>?_⟩
 ·rw[cmpT_lt,ltB_irrefl]
  simp
 ·rw[cmpT_lt]at *
  exact ltB_trans h1 h2
 ·rw[cmpT_lt]at *
  have:=ho.ntrans c b a (by simpa using h2) (by simpa using h1)
  simpa using this
theorem sortM_s (l:List Made) (hl:l.length<=1000000) {t:Nat}{h:Value}:CallS Tryz.prog 109 [.own t h,.fn 110 [] []] [(t,.seq h 112 7 (l.map rMade))] fun r H'=>r=.tuple []∧∃l':List Made,l'.Perm l∧l'.Pairwise (fun a b=>byName b a=false)∧H'=[(t,.seq h 112 7 (l'.map rMade))]:=by
 refine (sortA_s sfrealizemadeLays 7 (by exact Tryz.isAgg112) (by exact Tryz.sizeOf112) ⟨_,Tryz.func109,by kernel_rfl,by kernel_rfl⟩
  ⟨_,Tryz.func110,by kernel_rfl,by kernel_rfl⟩ rMade (fun _=>rfl) (fun p=>?_) (fun _=>True) (fun a b=>Go.Lib.compareBytes a.name b.name) (fun a b _ _=>drawn1_fn a b) made_ord l (fun _ _=>trivial) (by omega)).mono ?_
 ·unfold rMade argA
  cases p.arg<;>rfl
 ·rintro r H' ⟨rfl,l',h1,h2,rfl⟩
  refine⟨rfl,l',h1,h2.imp fun {a b} hab=>?_,rfl⟩
  rw[cmpT_lt]at hab
  unfold byName
  simpa using hab
theorem drawn_s (c:Control) (hc:OkC c):CallS Tryz.prog 50 [aC c] [] fun r H'=>(checkC c≠0∧r=.tuple [.nilp,aI (checkC c)]) ∨
  (checkC c=0∧∃b b4 b5 bg hp hj ps,r=.tuple [.ptr 70 b 0,aI 0]∧ps.Perm (wholeM c).parts∧ps.Pairwise (fun a b=>byName b a=false)∧H'=mkrH c b b4 b5 bg hp hj { wholeM c with parts:=ps }):=by
 refine callS_cut 4 Tryz.func50 rfl Tryz.ntmps50 (rs:=[.tmp 2,.tmp 3]) rfl (by kernel_rfl) (by simp) (by kernel_rfl) ?_
 have hck:=Check_fn c hc
 simp
 refine hck.s ?_
 simp
 intro hz b12 b14
 refine (joinedR 74 9 [80] _).mono ?_
 rintro _ _ ⟨b4,rfl,rfl⟩
 simp
 refine (joinedR 75 8 [81] _).mono ?_
 rintro _ _ ⟨b5,rfl,rfl⟩
 simp
 refine V.cutI (Hs:=mkrH c b14 b4 b5 b12 (.slice none 0 0) (.slice none 0 0) mk0) [(5,.ptr 70 b14 0)] ?_ ?_ ?_
 ·simp[D]
 ·exact fun x H0 hi=>maker_inv hi
 ·have hR:=okR_of hz
  have hact:=hR.act
  have hinp:=hR.inp
  simp
  refine ((machine37_s hR.sm ⟨by omega,by omega⟩ (by omega)).on0 rfl).mono ?_
  rintro _ _ ⟨rfl,hp1,hj1,rfl⟩
  simp
  refine ((signals37_s hR).on0 rfl).mono ?_
  rintro _ _ ⟨rfl,hp2,hj2,rfl⟩
  simp
  have hfw:=few_whole hR
  refine ((sortM_s (wholeM c).parts (by have:=hfw.1;omega)).frame.c1).mono ?_
  rintro _ _ ⟨_,⟨_,⟨rfl,ps,hps1,hps2,rfl⟩,rfl⟩,rfl⟩
  simp
  exact⟨hz,b4,b5,b12,hp2,hj2,ps,hps1,hps2,⟨rfl,rfl,rfl,rfl,rfl⟩,⟨rfl,rfl⟩,rfl,rfl,rfl,rfl⟩
def countR (c:Control):Int×Int:=if checkC c≠0 then (0,checkC c) else (countM c,0)
theorem Count37_fn (c:Control) (hc:OkC c):CallFn Tryz.prog 47 [aC c] (.tuple [aI (countR c).1,aI (countR c).2]):=by
 have hd:=drawn_s c hc
 unfold countR
 refine callFz_of Tryz.func47 rfl Tryz.ntmps47 (rs:=[.tmp 2,.tmp 3]) rfl (by kernel_rfl) (by simp) (by kernel_rfl) ?_
 simp
 refine hd.mono ?_
 rintro r H' (⟨hz,rfl⟩|⟨hz,b,b4,b5,bg,hp,hj,ps,rfl,hperm,-,rfl⟩)
 ·simp[hz]
 ·have hl:=hperm.length_eq
  rw[whole_len]at hl
  simp[hz,hl]
end

def EndP (p:Pin):Prop:=p=noPin∨p.part≠[]



section
section
variable {x:Expr}{d:Dr}{sg:Int}{h:Value}{b3 b6 b7:Nat}
end
end
theorem TotB.ord {α:Type}{lt:α->α->Bool}(h:TotB lt):OrdB lt:=by
 refine⟨fun a b h1=>h.asymm h1,fun a b c h1 h2=>?_⟩
 cases h3:lt c a with
 | false=>rfl
 | true=>
  exfalso
  cases h4:lt a b with
  | true=>rw[h.trans _ _ _ h3 h4]at h2;cases h2
  | false=>
   obtain rfl:=h.tot _ _ h4 h1
   rw[h3]at h2
   cases h2
theorem sort_unique {α:Type}{lt:α->α->Bool}(h:TotB lt) {l m l':List α}(hp:l.Perm m) (hl:l'.Perm l) (hs:l'.Pairwise fun a b=>lt b a=false):l'=sortB lt m:=
 sorted_same (fun a b _ _ h1 h2=>h.tot a b h2 h1) hs (sortB_sorted h.ord m) (hl.trans (hp.trans (sortB_perm lt m).symm))
abbrev PortP:=Nat×List UInt8
def beforeP:PortP->PortP->Bool:=lexB (fun a b=>decide (a<b)) ltB
def earlierP:PortP×PortP->PortP×PortP->Bool:=lexB beforeP beforeP
theorem before_tot:TotB beforeP:=lexB_tot nat_tot ltB_tot
theorem earlier_tot:TotB earlierP:=lexB_tot before_tot before_tot
def pipeN (a b:PortP):PortP×PortP:=if beforeP b a=true then (b,a) else (a,b)
def portL (ps:List Made) (p:Pin):PortP:=(posL ps p.part,p.port)
theorem inC_of {c:Control}(h:checkC c=0):InC c:=by
 have hf:=fine_of h
 have hR:=okR_of h
 refine⟨hR.act.1,fun i x hx=>?_,fun a ha=>?_⟩
 ·obtain⟨h1,h2,_⟩:=hR.sig i x hx
  exact⟨h1,vars_right _ _ (Nat.lt_succ_self _) h2.1,(occ_off hf hx).2⟩
 ·have hpl:=hR.pil.1
  have hml:=hR.pil.2.1
  have g1:c.plus[a]?=some c.plus[a]:=List.getElem?_eq_getElem (by omega)
  have g2:c.minus[a]?=some c.minus[a]:=List.getElem?_eq_getElem (by omega)
  have r1:=hR.pil.2.2.1 _ (List.mem_of_getElem? g1)
  have r2:=hR.pil.2.2.2 _ (List.mem_of_getElem? g2)
  rw[List.getD_eq_getElem?_getD,List.getD_eq_getElem?_getD,g1,g2]
  exact⟨r1,r2⟩
structure Gd (n k m:Nat) (d:Dr):Prop where
 gears:d.gears.length<=n
 links:d.links.length<=k
 count:d.count<=m
 ends:∀p∈d.ends,EndP p
abbrev dr0:Dr:=(⟨[],[],[],0⟩:Dr).put ⟨0,[83],0,-1,none,-1,-1⟩ false
mutual
theorem nd_right {n:Int}:∀x:Expr,RightE n x->∀y∈ndE x,nodeR y n=0
 | ⟨op,ix,args⟩,h,y,hy=>by
  simp only[ndE,List.mem_cons]at hy
  rcases hy with rfl | hy
  ·exact h.node
  ·exact ndL_right args h.args y hy
theorem ndL_right {n:Int}:∀l:List Expr,(∀x∈l,RightE n x)->∀y∈ndL l,nodeR y n=0
 | [],_,y,hy=>by simp[ndL]at hy
 | x::xs,h,y,hy=>by
  simp only[ndL,List.mem_append]at hy
  rcases hy with hy | hy
  ·exact nd_right x (h x (by simp)) y hy
  ·exact ndL_right xs (fun z hz=>h z (by simp[hz])) y hy
end
theorem check_of {x:Expr}{n:Int}(hn:0<=n∧n<=256) (hs:szE x<=256) (hd:dpE x<=16) (hr:RightE n x):checkE x n=0:=by
 unfold checkE
 rw[if_neg (by omega)]
 obtain⟨s,hm⟩:=(meas_iff x).2 ⟨hs,hd⟩
 rw[hm]
 have h:=firstErr_app (fun y=>nodeR y n) (ndE x) [] (nd_right x hr)
 have h2:=nodeFold n (preE x 1)
 rw[(preE_all x 1 (by omega)).1]at h2
 simp only[List.append_nil,firstErr]at h
 rw[h]at h2
 exact h2
theorem szL_mem:∀ {l:List Expr}{y:Expr},y∈l->szE y<=szL l
 | [],_,h=>by simp at h
 | x::xs,y,h=>by
  rw[szL]
  rcases List.mem_cons.1 h with rfl | h
  ·omega
  ·have:=szL_mem h
   omega
theorem dpL_mem:∀ {l:List Expr}{y:Expr},y∈l->dpE y<=dpL l
 | [],_,h=>by simp at h
 | x::xs,y,h=>by
  rw[dpL]
  rcases List.mem_cons.1 h with rfl | h
  ·omega
  ·have:=dpL_mem h
   omega
theorem check_arg {x y:Expr}{n:Int}(h:checkE x n=0) (hy:y∈x.args):checkE y n=0:=by
 have hr:=right_of_check h
 have h2:=(light_iff x).1 (light_check h)
 rw[szE_eq,dpE_eq]at h2
 have h3:=szL_mem hy
 have h4:=dpL_mem hy
 exact check_of hr.2 (by omega) (by omega) (hr.1.args y hy)
section
inductive GearK (c:Control):Made->Prop
 | sup:GearK c ⟨0,[83],0,-1,none,-1,-1⟩
 | cyl (a:Nat) (h:(a:Int)<c.actuators):GearK c ⟨1,letterT a,0,-1,none,-1,-1⟩
 | lim0 (a:Nat) (h:(a:Int)<c.actuators):GearK c ⟨6,letterT a++[48],0,-1,none,-1,2*a⟩
 | lim1 (a:Nat) (h:(a:Int)<c.actuators):GearK c ⟨6,letterT a++[49],0,-1,none,-1,2*a+1⟩
 | val (a:Nat) (h:(a:Int)<c.actuators):GearK c ⟨2,86::letterT a,0,-1,none,a,-1⟩
 | but (i:Nat) (h:i<c.inputs.length):GearK c ⟨7,c.inputs.getD i [],0,-1,none,-1,2*c.actuators+i⟩
 | mem (i:Nat) (x:Signal) (h:c.signals[i]?=some x) (k:x.kind=1):GearK c ⟨2,ownT c i,0,i,none,-1,firstC c+i⟩
 | tim (i:Nat) (x:Signal) (h:c.signals[i]?=some x) (k:x.kind=2):GearK c ⟨12,ownT c i,x.delay,i,none,-1,firstC c+i⟩
 | inv (i n:Nat) (y:Expr) (h:i<c.signals.length) (k:checkE y (countC c)=0):GearK c ⟨5,78::numT n,0,i,some y,-1,-1⟩
 | twin (i n:Nat) (h:i<c.signals.length):GearK c ⟨9,80::numT n,0,i,none,-1,-1⟩
 | shut (i n:Nat) (h:i<c.signals.length):GearK c ⟨8,81::numT n,0,i,none,-1,-1⟩
def GearsK (c:Control) (ps:List Made):Prop:=∀p∈ps,GearK c p
variable {c:Control}
theorem GearsK.nil:GearsK c []:=fun _ h=>nomatch h
theorem GearsK.app {l m:List Made}(h:GearsK c l) (h2:GearsK c m):GearsK c (l++m):=fun q hq=>(List.mem_append.1 hq).elim (h q) (h2 q)
theorem GearsK.one {p:Made}(h:GearK c p):GearsK c [p]:=fun q hq=>by rw[List.mem_singleton.1 hq];exact h
theorem twin_k {i:Nat}{op:Int}(hop:op=3∨op=4) (h:i<c.signals.length):∀(ps:List Pin) {d:Dl},GearsK c d.parts->GearsK c (ps.foldl (twinD i (if op=3 then 9 else 8) (if op=3 then 80 else 81)) d).parts
 | [],_,hd=>hd
 | p::ps,d,hd=>by
  refine twin_k hop h ps (hd.app (.one ?_))
  rcases hop with rfl | rfl
  ·exact .twin i _ h
  ·exact .shut i _ h
mutual
theorem expr_k (fl:Bool) (pf:Int->Pin) {i:Nat}(hi:i<c.signals.length):∀(x:Expr) (k:Nat),checkE x (countC c)=0->GearsK c (exprD fl pf i x k).parts
 | ⟨op,ix,args⟩,k,hc=>by
  have h:=args_k fl pf hi args k fun y hy=>check_arg hc hy
  have hop:=node_op (right_of_check hc).1.node
  simp only at hop
  rw[exprD_eq]
  dsimp only
  split
  ·exact .nil
  ·split
   ·exact .nil
   ·generalize hr:argsD fl pf i args k=r at *
    split
    ·unfold notsD
     cases e:args.head? with
     | none=>exact h
     | some y=>exact h.app (.one (.inv i _ y hi (check_arg hc (List.mem_of_mem_head? e))))
    ·unfold foldD
     obtain⟨r1,r2,r3,r4⟩:=r
     dsimp only at h ⊢
     cases r4 with
     | nil=>exact h
     | cons p ps=>exact twin_k (by omega) hi ps h
theorem args_k (fl:Bool) (pf:Int->Pin) {i:Nat}(hi:i<c.signals.length):∀(xs:List Expr) (k:Nat),(∀y∈xs,checkE y (countC c)=0)->GearsK c (argsD fl pf i xs k).parts
 | [],k,_=>.nil
 | x::xs,k,h=>by
  rw[argsD]
  exact (expr_k fl pf hi x k (h x (by simp))).app (args_k fl pf hi xs _ fun y hy=>h y (by simp[hy]))
end
theorem k_fold {f:Dr->Nat->Dr}{N:Nat}(hf:∀d i,i<N->GearsK c d.gears->GearsK c (f d i).gears) {d:Dr}(h:GearsK c d.gears):∀j,j<=N->GearsK c ((List.range j).foldl f d).gears
 | 0,_=>h
 | j+1,hj=>by
  rw[List.range_succ,List.foldl_append]
  exact hf _ j (by omega) (k_fold hf h j (by omega))
theorem k_act {d:Dr}(h:GearsK c d.gears) {a:Nat}(ha:(a:Int)<c.actuators):GearsK c (actR d a).gears:=(((h.app (.one (.cyl a ha))).app (.one (.lim0 a ha))).app (.one (.lim1 a ha))).app (.one (.val a ha))
theorem k_in {d:Dr}(h:GearsK c d.gears) {i:Nat}(hi:i<c.inputs.length):GearsK c (inR37 c d i).gears:=h.app (.one (.but i hi))
theorem k_sigF {d:Dr}(h:GearsK c d.gears) (i:Nat):GearsK c (sigF c d i).gears:=by
 unfold sigF
 split
 ·rename_i x hx
  split
  ·rename_i hk
   exact h.app (.one (.mem i x hx hk))
  ·split
   ·rename_i hk
    exact h.app (.one (.tim i x hx hk))
   ·exact h
 ·exact h
theorem on_check (hc:checkC c=0) {i:Nat}{x:Signal}(hx:c.signals[i]?=some x):checkE x.on (countC c)=0∧(x.kind=1->checkE x.off (countC c)=0):=by
 have hf:=fine_of hc
 have h:=sig_parts (hf.sigs i x hx)
 exact⟨h.2.2.1,fun hk=>(h.2.2.2.2.1 hk).1⟩
theorem k_gate (hc:checkC c=0) {d:Dr}(h:GearsK c d.gears) (i:Nat):GearsK c (gateR c d i).gears:=by
 unfold gateR
 split
 ·rename_i x hx
  split
  ·exact h.app (expr_k true _ (List.getElem?_eq_some_iff.1 hx).1 x.on _ (on_check hc hx).1)
  ·exact h
 ·exact h
theorem k_sig (hc:checkC c=0) {d:Dr}(h:GearsK c d.gears) (i:Nat):GearsK c (sigR c d i).gears:=by
 unfold sigR
 split
 ·rename_i x hx
  have hi:=(List.getElem?_eq_some_iff.1 hx).1
  have ho:=on_check hc hx
  have hk:=((okR_of hc).sig i x hx).1
  split
  ·exact h
  ·split
   ·exact h.app (expr_k true _ hi x.on _ ho.1)
   ·exact (h.app (expr_k true _ hi x.on _ ho.1)).app (expr_k true _ hi x.off _ (ho.2 (by omega)))
 ·exact h
theorem whole_k (hc:checkC c=0):GearsK c (wholeR c).gears:=by
 have hR:=okR_of hc
 have h0:GearsK c dr0.gears:=.one .sup
 have h1:=k_fold (f:=actR) (N:=c.actuators.toNat) (fun d i hi h=>k_act h (by omega)) h0 _ (Nat.le_refl _)
 have h2:=k_fold (f:=inR37 c) (N:=c.inputs.length) (fun d i hi h=>k_in h hi) h1 _ (Nat.le_refl _)
 have h3:=k_fold (f:=sigF c) (N:=c.signals.length) (fun d i hi h=>k_sigF h i) h2 _ (Nat.le_refl _)
 have h4:=k_fold (f:=gateR c) (N:=c.signals.length) (fun d i hi h=>k_gate hc h i) h3 _ (Nat.le_refl _)
 have h5:=k_fold (f:=sigR c) (N:=c.signals.length) (fun d i hi h=>k_sig hc h i) h4 _ (Nat.le_refl _)
 exact k_fold (f:=pilR c) (N:=c.actuators.toNat) (fun d i hi h=>h) h5 _ (Nat.le_refl _)
end
def FedK (k:Int):Prop:=k=2∨k=5∨k=6∨k=7∨k=12
structure Adds (l:List Made) (js:List (Pin×Pin)):Prop where
 take:∀z∈js,z.2.part∈nms l∨∃a,z.2.part=86::letterT a
 feed:∀p∈l,FedK p.kind->(supPin,(⟨p.name,[49]⟩:Pin))∈js
theorem Adds.nil:Adds [] []:=⟨fun _ h=>(nomatch h),fun _ h=>(nomatch h)⟩
theorem Adds.app {a b:List Made}{ja jb:List (Pin×Pin)}(h:Adds a ja) (h2:Adds b jb):Adds (a++b) (ja++jb):=by
 refine⟨fun z hz=>?_,fun p hp hk=>?_⟩
 ·rcases List.mem_append.1 hz with hz | hz
  ·rcases h.take z hz with e | e
   ·exact .inl (by rw[nms,List.map_append];exact List.mem_append_left _ e)
   ·exact .inr e
  ·rcases h2.take z hz with e | e
   ·exact .inl (by rw[nms,List.map_append];exact List.mem_append_right _ e)
   ·exact .inr e
 ·rcases List.mem_append.1 hp with hp | hp
  ·exact List.mem_append_left _ (h.feed p hp hk)
  ·exact List.mem_append_right _ (h2.feed p hp hk)
def GrowM (m m':Mk):Prop:=∃l js,m'.parts=m.parts++l∧m'.joins=m.joins++js∧Adds l js
theorem GrowM.refl (m:Mk):GrowM m m:=⟨[],[],by simp,by simp,.nil⟩
theorem GrowM.trans {a b d:Mk}(h:GrowM a b) (h2:GrowM b d):GrowM a d:=by
 obtain⟨l,js,e1,e2,e3⟩:=h
 obtain⟨l2,js2,f1,f2,f3⟩:=h2
 exact⟨l++l2,js++js2,by rw[f1,e1,List.append_assoc],by rw[f2,e2,List.append_assoc],e3.app f3⟩
theorem GrowM.fold {f:Mk->Nat->Mk}(h:∀m i,GrowM m (f m i)) (m:Mk):∀k:Nat,GrowM m ((List.range k).foldl f m)
 | 0=>.refl m
 | k+1=>by
  rw[List.range_succ,List.foldl_append]
  exact (GrowM.fold h m k).trans (h _ k)
theorem feed_mem (s:List UInt8):joinD supPin ⟨s,[49]⟩=[(supPin,⟨s,[49]⟩)]:=by
 unfold joinD
 rw[if_neg]
 rintro (h | h)
 ·exact absurd h (by decide)
 ·exact pin_ne (by simp) h
theorem twin_adds {sg kind:Int}(hk:kind=8∨kind=9) {letter:UInt8}:∀(ps:List Pin) (d:Dl),Adds d.parts d.joins->Adds (ps.foldl (twinD sg kind letter) d).parts (ps.foldl (twinD sg kind letter) d).joins
 | [],_,h=>h
 | p::ps,d,h=>by
  rw[List.foldl_cons]
  refine twin_adds hk ps _ ?_
  have:Adds [(⟨kind,letter::numT d.num,0,sg,none,-1,-1⟩:Made)] (joinD d.pin ⟨letter::numT d.num,[49]⟩++joinD p ⟨letter::numT d.num,[49,49]⟩):=by
   refine⟨fun z hz=>.inl ?_,fun q hq hf=>?_⟩
   ·rcases List.mem_append.1 hz with hz | hz<;>rw[(joinD_take hz).1]<;>simp[nms]
   ·rw[List.mem_singleton.1 hq]at hf
    unfold FedK at hf
    simp only at hf
    omega
  have h2:=h.app this
  rw[<- List.append_assoc]at h2
  exact h2
mutual
theorem expr_adds (pf:Int->Pin) (sg:Int):∀(x:Expr) (k:Nat),Adds (exprD false pf sg x k).parts (exprD false pf sg x k).joins
 | ⟨op,ix,args⟩,k=>by
  have h:=args_adds pf sg args k
  rw[exprD_eq]
  dsimp only
  by_cases h0:op=0
  ·rw[if_pos h0];exact .nil
  ·rw[if_neg h0]
   by_cases h1:op=1
   ·rw[if_pos h1];exact .nil
   ·rw[if_neg h1]
    by_cases h2:op=2
    ·rw[if_pos h2]
     unfold notsD
     cases args.head? with
     | none=>exact h
     | some y=>
      simp only[notD]
      generalize argsD false pf sg args k=r at *
      have:Adds [(⟨5,78::numT r.num,0,sg,some y,-1,-1⟩:Made)] (airD false ⟨78::numT r.num,[49]⟩++joinD (r.pins.headD noPin) ⟨78::numT r.num,[49,48]⟩):=by
       unfold airD
       rw[if_neg (by decide),feed_mem]
       refine⟨fun z hz=>.inl ?_,fun q hq _=>?_⟩
       ·rcases List.mem_append.1 hz with hz | hz
        ·rw[List.mem_singleton.1 hz];simp[nms]
        ·rw[(joinD_take hz).1];simp[nms]
       ·rw[List.mem_singleton.1 hq];simp
      have h3:=h.app this
      rw[<- List.append_assoc]at h3
      exact h3
    ·rw[if_neg h2]
     unfold foldD
     generalize argsD false pf sg args k=r at *
     cases r.pins with
     | nil=>exact h
     | cons p ps=>exact twin_adds (by split<;>simp) ps _ h
theorem args_adds (pf:Int->Pin) (sg:Int):∀(xs:List Expr) (k:Nat),Adds (argsD false pf sg xs k).parts (argsD false pf sg xs k).joins
 | [],k=>.nil
 | x::xs,k=>by
  rw[argsD]
  exact (expr_adds pf sg x k).app (args_adds pf sg xs _)
end
theorem gateM_grow (c:Control) (m:Mk) (i:Nat):GrowM m (gateM c m i):=by
 unfold gateM
 split
 ·exact⟨_,_,rfl,rfl,expr_adds _ _ _ _⟩
 ·exact .refl m
theorem own_adds (m:Mk) (k d l:Int) (s:List UInt8):Adds [(⟨k,s,d,m.signal,none,-1,l⟩:Made)] (joinD supPin ⟨s,[49]⟩):=by
 rw[feed_mem]
 refine⟨fun z hz=>.inl ?_,fun p hp _=>?_⟩
 ·rw[List.mem_singleton.1 hz];simp[nms]
 ·rw[List.mem_singleton.1 hp];simp
theorem Adds.more {l:List Made}{js:List (Pin×Pin)}(h:Adds l js) {g t:Pin}(ht:t.part∈nms l):Adds l (js++joinD g t):=by
 refine⟨fun z hz=>?_,fun p hp hk=>List.mem_append_left _ (h.feed p hp hk)⟩
 rcases List.mem_append.1 hz with hz | hz
 ·exact h.take z hz
 ·rw[(joinD_take hz).1];exact .inl ht
theorem sigM_grow (c:Control) (m:Mk) (i:Nat):GrowM m (sigM c m i):=by
 unfold sigM
 cases c.signals[i]? with
 | none=>exact .refl m
 | some x=>
  dsimp only
  split
  ·have h1:=own_adds (m.sig i) 2 0 (firstC c+i) (ownT c i)
   have h2:=(h1.app (expr_adds (portM c m.gates) i x.on m.number)).more (g:=(exprD false (portM c m.gates) i x.on m.number).pin) (t:=⟨ownT c i,[49,52]⟩) (by simp[nms])
   have h3:=(h2.app (expr_adds (portM c m.gates) i x.off (exprD false (portM c m.gates) i x.on m.number).num)).more (g:=(exprD false (portM c m.gates) i x.off (exprD false (portM c m.gates) i x.on m.number).num).pin) (t:=⟨ownT c i,[49,50]⟩) (by simp[nms])
   refine⟨_,_,?_,?_,h3⟩
   ·simp[Mk.to,Mk.app,Mk.join,Mk.feed,Mk.add,Mk.sig,Mk.expr]
   ·simp[Mk.to,Mk.app,Mk.join,Mk.feed,Mk.add,Mk.sig,Mk.expr]
  ·split
   ·have h1:=own_adds (m.sig i) 12 x.delay (firstC c+i) (ownT c i)
    have h2:=(h1.app (expr_adds (portM c m.gates) i x.on m.number)).more (g:=(exprD false (portM c m.gates) i x.on m.number).pin) (t:=⟨ownT c i,[49,50]⟩) (by simp[nms])
    refine⟨_,_,?_,?_,h2⟩
    ·simp[Mk.to,Mk.app,Mk.join,Mk.feed,Mk.add,Mk.sig,Mk.expr]
    ·simp[Mk.to,Mk.app,Mk.join,Mk.feed,Mk.add,Mk.sig,Mk.expr]
   ·exact .refl m
theorem pilM_grow (c:Control) (m:Mk) (a:Nat):GrowM m (pilM c m a):=by
 refine⟨[],joinD (portM c m.gates (c.plus.getD a 0)) ⟨86::letterT a,[49,52]⟩++joinD (portM c m.gates (c.minus.getD a 0)) ⟨86::letterT a,[49,50]⟩,by simp[pilM,Mk.join],by simp[pilM,Mk.join],⟨fun z hz=>.inr ⟨a,?_⟩,fun _ h=>nomatch h⟩⟩
 rcases List.mem_append.1 hz with hz | hz<;>rw[(joinD_take hz).1]
theorem inM_grow (c:Control) (m:Mk) (i:Nat):GrowM m (inM c m i):=⟨_,_,rfl,rfl,own_adds m 7 0 _ _⟩
theorem acts_feed (m:Mk) (a:Nat) (h:∀q∈m.parts.map knOf,FedK q.1->(supPin,(⟨q.2,[49]⟩:Pin))∈m.joins):∀q∈(actM m a).parts.map knOf,FedK q.1->(supPin,(⟨q.2,[49]⟩:Pin))∈(actM m a).joins:=fun q hq hk=>by
 have e:(actM m a).joins=m.joins++actJ a:=by
  unfold actM actJ
  simp[Mk.join,Mk.feed,Mk.add,Mk.valve]
 rw[act_kn]at hq
 rw[e]
 rcases List.mem_append.1 hq with hq | hq
 ·exact List.mem_append_left _ (h q hq hk)
 ·refine List.mem_append_right _ ?_
  unfold actJ
  rw[feed_mem,feed_mem,feed_mem]
  simp only[List.mem_cons,List.not_mem_nil,or_false]at hq
  rcases hq with rfl | rfl | rfl | rfl
  ·unfold FedK at hk
   simp only at hk
   omega
  ·simp
  ·simp
  ·simp
theorem acts_take (m:Mk) (a:Nat) (h:∀z∈m.joins,z.2.part∈nms m.parts):∀z∈(actM m a).joins,z.2.part∈nms (actM m a).parts:=fun z hz=>by
 have e:(actM m a).joins=m.joins++actJ a:=by
  unfold actM actJ
  simp[Mk.join,Mk.feed,Mk.add,Mk.valve]
 rw[e]at hz
 rw[nms,act_names]
 rcases List.mem_append.1 hz with hz | hz
 ·exact List.mem_append_left _ (h z hz)
 ·refine List.mem_append_right _ ?_
  unfold actJ at hz
  rw[feed_mem,feed_mem,feed_mem]at hz
  simp only[List.mem_append]at hz
  rcases hz with hz | hz | hz | hz | hz
  ·rw[List.mem_singleton.1 hz];simp
  ·rw[List.mem_singleton.1 hz];simp
  ·rw[List.mem_singleton.1 hz];simp
  ·rw[(joinD_take hz).1];simp
  ·rw[(joinD_take hz).1];simp
theorem machine_feed (c:Control):(∀q∈(machineM c).parts.map knOf,FedK q.1->(supPin,(⟨q.2,[49]⟩:Pin))∈(machineM c).joins)∧∀z∈(machineM c).joins,z.2.part∈nms (machineM c).parts:=by
 have h1:∀n:Nat,(∀q∈((List.range n).foldl actM ((⟨[],[],0,-1,[]⟩:Mk).add 0 [83] 0 (-1))).parts.map knOf,FedK q.1->(supPin,(⟨q.2,[49]⟩:Pin))∈((List.range n).foldl actM ((⟨[],[],0,-1,[]⟩:Mk).add 0 [83] 0 (-1))).joins)∧∀z∈((List.range n).foldl actM ((⟨[],[],0,-1,[]⟩:Mk).add 0 [83] 0 (-1))).joins,z.2.part∈nms ((List.range n).foldl actM ((⟨[],[],0,-1,[]⟩:Mk).add 0 [83] 0 (-1))).parts:=by
  intro n
  induction n with
  | zero=>
   refine⟨fun q hq hk=>?_,fun z hz=>nomatch hz⟩
   simp only[List.range_zero,List.foldl_nil,Mk.add,List.nil_append,List.map_cons,List.map_nil,List.mem_singleton]at hq
   subst hq
   unfold FedK at hk
   simp only at hk
   omega
  | succ n ih=>
   rw[List.range_succ,List.foldl_append]
   exact⟨acts_feed _ n ih.1,acts_take _ n ih.2⟩
 obtain⟨a1,a2⟩:=h1 c.actuators.toNat
 unfold machineM
 obtain⟨l,js,e1,e2,e3⟩:=GrowM.fold (inM_grow c) ((List.range c.actuators.toNat).foldl actM ((⟨[],[],0,-1,[]⟩:Mk).add 0 [83] 0 (-1))) c.inputs.length
 have htk:∀n:Nat,∀m:Mk,(∀z∈m.joins,z.2.part∈nms m.parts)->∀z∈((List.range n).foldl (inM c) m).joins,z.2.part∈nms ((List.range n).foldl (inM c) m).parts:=by
  intro n
  induction n with
  | zero=>exact fun m h=>h
  | succ n ih=>
   intro m h z hz
   rw[List.range_succ,List.foldl_append]at hz ⊢
   have ih:=ih m h
   generalize (List.range n).foldl (inM c) m=m' at *
   simp only[List.foldl_cons,List.foldl_nil,inM,Mk.feed,Mk.join,Mk.add]at hz ⊢
   rw[nms,List.map_append]
   rcases List.mem_append.1 hz with hz | hz
   ·exact List.mem_append_left _ (ih z hz)
   ·rw[(joinD_take hz).1]
    exact List.mem_append_right _ (by simp)
 refine⟨fun q hq hk=>?_,htk _ _ a2⟩
 rw[e1,List.map_append]at hq
 rw[e2]
 rcases List.mem_append.1 hq with hq | hq
 ·exact List.mem_append_left _ (a1 q hq hk)
 ·obtain⟨p,hp,rfl⟩:=List.mem_map.1 hq
  exact List.mem_append_right _ (e3.feed p hp hk)
theorem whole_feed (c:Control):∀p∈(wholeM c).parts,FedK p.kind->(supPin,(⟨p.name,[49]⟩:Pin))∈(wholeM c).joins:=fun p hp hk=>by
 have hg:GrowM (machineM c) (wholeM c):=((GrowM.fold (gateM_grow c) _ _).trans (GrowM.fold (sigM_grow c) _ _)).trans (GrowM.fold (pilM_grow c) _ _)
 obtain⟨l,js,e1,e2,e3⟩:=hg
 rw[e1]at hp
 rw[e2]
 rcases List.mem_append.1 hp with hp | hp
 ·exact List.mem_append_left _ ((machine_feed c).1 (knOf p) (List.mem_map.2 ⟨p,hp,rfl⟩) hk)
 ·exact List.mem_append_right _ (e3.feed p hp hk)
theorem expr_letter {pf:Int->Pin}{sg:Int}{x:Expr}{k:Nat}{s:List UInt8}(h:s∈nms (exprD false pf sg x k).parts) (a:Nat):s≠86::letterT a:=fun e=>by
 obtain⟨p,hp,rfl⟩:=List.mem_map.1 h
 obtain⟨t,ht,hpe⟩:=List.getElem_of_mem hp
 obtain⟨l,hl,hn⟩:=(expr_numd false pf sg x k).1 t p (by rw[List.getElem?_eq_getElem ht,hpe])
 rw[hn]at e
 simp only[List.cons.injEq]at e
 rw[e.1]at hl
 unfold opLet at hl
 revert hl
 decide
theorem gate_in {c:Control}(hc:checkC c=0) {i:Nat}(hi:i<c.signals.length) (hk:kindAt c i=0) {x:Signal}(hx:c.signals[i]?=some x) :
  InW (wholeM c).joins (wholeM c).parts (exprD false (portM c ((List.range i).foldl (gateM c) (machineM c)).gates) i x.on ((List.range i).foldl (gateM c) (machineM c)).number).parts (exprD false (portM c ((List.range i).foldl (gateM c) (machineM c)).gates) i x.on ((List.range i).foldl (gateM c) (machineM c)).number).joins ∧
   (nms (exprD false (portM c ((List.range i).foldl (gateM c) (machineM c)).gates) i x.on ((List.range i).foldl (gateM c) (machineM c)).number).parts).Nodup:=by
 have hnd:=whole_names hc
 have hg1:GrowM (machineM c) ((List.range i).foldl (gateM c) (machineM c)):=GrowM.fold (gateM_grow c) _ _
 have hg2:GrowM (gateM c ((List.range i).foldl (gateM c) (machineM c)) i) (wholeM c):=by
  have h0:∀n,i<n->GrowM (gateM c ((List.range i).foldl (gateM c) (machineM c)) i) ((List.range n).foldl (gateM c) (machineM c)):=by
   intro n
   induction n with
   | zero=>intro h;omega
   | succ n ih=>
    intro h
    rw[List.range_succ,List.foldl_append]
    rcases Nat.lt_or_ge i n with h1 | h1
    ·exact (ih h1).trans (gateM_grow c _ n)
    ·obtain rfl:i=n:=by omega
     exact .refl _
  exact ((h0 _ hi).trans (GrowM.fold (sigM_grow c) _ _)).trans (GrowM.fold (pilM_grow c) _ _)
 have hm:=machine_feed c
 generalize (List.range i).foldl (gateM c) (machineM c)=m at *
 have hgm:gateM c m i={ (m.sig i).app (exprD false (portM c m.gates) i x.on m.number) with gates:=putG m.gates (firstC c+i) (exprD false (portM c m.gates) i x.on m.number).pin }:=by
  unfold gateM
  rw[if_pos hk,hx]
  rfl
 rw[hgm]at hg2
 have hlet:=fun s (h:s∈nms (exprD false (portM c m.gates) i x.on m.number).parts) a=>expr_letter h a
 generalize exprD false (portM c m.gates) i x.on m.number=d at *
 obtain⟨l,js,e1,e2,e3⟩:=hg2
 obtain⟨l0,js0,f1,f2,f3⟩:=hg1
 simp only[Mk.app,Mk.sig]at e1 e2
 rw[e1]at hnd
 simp only[List.map_append]at hnd
 obtain⟨n1,n2,n3⟩:=List.nodup_append.1 hnd
 obtain⟨n4,n5,n6⟩:=List.nodup_append.1 n1
 refine⟨⟨fun p hp=>?_,fun z hz=>?_,fun z hz hp=>?_⟩,n5⟩
 ·rw[e1];simp[hp]
 ·rw[e2];simp[hz]
 ·rw[e2]at hz
  rcases List.mem_append.1 hz with hz | hz
  ·rcases List.mem_append.1 hz with hz | hz
   ·exfalso
    have hin:z.2.part∈nms m.parts:=by
     rw[f2]at hz
     rw[f1,nms,List.map_append]
     rcases List.mem_append.1 hz with hz | hz
     ·exact List.mem_append_left _ (hm.2 z hz)
     ·rcases f3.take z hz with h | ⟨a,h⟩
      ·exact List.mem_append_right _ h
      ·exact absurd h (hlet _ hp a)
    exact n6 _ hin _ hp rfl
   ·exact hz
  ·exfalso
   rcases e3.take z hz with h | ⟨a,h⟩
   ·exact n3 _ (List.mem_append_right _ hp) _ h rfl
   ·exact hlet _ hp a h
theorem get_put_eq (k:Int) (p:Pin):∀g:List (Int×Pin),getG (putG g k p) k=some p
 | []=>by simp[putG,getG]
 | q::g=>by
  rw[putG]
  split
  ·simp[getG]
  ·rename_i h
   rw[getG,if_neg h]
   exact get_put_eq k p g
theorem get_put_ne {k j:Int}(p:Pin) (h:k≠j):∀g:List (Int×Pin),getG (putG g k p) j=getG g j
 | []=>by simp[putG,getG,h]
 | q::g=>by
  rw[putG]
  split
  ·rename_i e
   rw[getG,if_neg h,getG,if_neg (by rw[e];exact h)]
  ·rw[getG,getG,get_put_ne p h g]
section
theorem find1_fn (a:Made) (t:List UInt8):CallFn Tryz.prog 136 [.agg (rMade a),.dat (.str t)] (aI (Go.Lib.compareBytes a.name t)):=by
 obtain⟨ak,an,ad,asg,aa,av,al⟩:=a
 refine callFz_of Tryz.func136 rfl Tryz.ntmps136 (rs:=[.tmp 4]) rfl (by kernel_rfl) (by simp) (by kernel_rfl) ?_
 cases aa
 all_goals
  simp[argA]
  intros
  refine (Compare_fnT an t).s ?_
  simp
theorem inR_u64' {n:Int}(h:0<=n) (h2:n<=18446744073709551615):inR .u64 n:=by
 unfold inR
 simp only[IntKind.wrap,IntKind.signed,IntKind.bits]
 simp
 omega
def metL (ps:List Made) (t:List UInt8):Bool:=match ps[posL ps t]? with
 | some q=>Go.Lib.compareBytes q.name t==0
 | none=>false
theorem bsf_s {ps:List Made}{hp:Value}{t:List UInt8}(hs:ps.Pairwise (fun a b=>byName b a=false)) (hl:ps.length<=1000000) :
  CallS Tryz.prog 135 [.own 171 hp,.dat (.str t),.fn 136 [] []] [(171,.seq hp 112 7 (ps.map rMade))]
   fun r H'=>r=.tuple [aI (posL ps t),aB (metL ps t)]∧H'=[(171,.seq hp 112 7 (ps.map rMade))]:=by
 have hpl:=posL_le ps t
 refine callS_of Tryz.func135 rfl Tryz.ntmps135 (rs:=[.tmp 6,.tmp 7]) rfl (by kernel_rfl) (by simp) (by kernel_rfl) ?_
 simp
 refine V.for' [0,1,2,6,7,8] (fun q:Nat×Nat=>[(9,aI q.1),(10,aI q.2)]) (fun _=>[(171,.seq hp 112 7 (ps.map rMade))])
  (fun q=>q.1<=posL ps t∧posL ps t<=q.2∧q.2<=ps.length) (fun q=>q.2-q.1) (0,ps.length) ⟨⟨Nat.zero_le _,hpl,Nat.le_refl _⟩,by simp,subP.refl _⟩ ?_
 rintro⟨lo,hi⟩ ⟨h1,h2,h3⟩
 simp only at h1 h2 h3
 by_cases hlt:lo<hi
 ·obtain⟨m,hmm⟩:∃m,(lo+hi) / 2=m:=⟨_,rfl⟩
  have hsh:shrI .u64 ((lo:Int)+hi) 1=(m:Int):=by
   rw[<- hmm]
   unfold shrI
   simp[IntKind.bits]
   rw[Int.fdiv_eq_ediv_of_nonneg _ (by omega)]
  have hin:inR .u64 ((lo:Int)+hi):=inR_u64' (by omega) (by omega)
  have hml:m<ps.length:=by omega
  obtain⟨q,hq⟩:∃q,ps[m]=q:=⟨_,rfl⟩
  have hqo:ps[m]?=some q:=by rw[List.getElem?_eq_getElem hml,hq]
  have hpi:=pos_iff (t:=t) hs hml
  rw[hq,<- cmpT_lt]at hpi
  have hf:=find1_fn q t
  obtain⟨ak,an,ad,asg,aa,av,al⟩:=q
  simp only at hpi hf
  simp[hlt,hsh,hin,hqo]
  refine⟨by omega,by omega,by omega,?_⟩
  cases aa
  all_goals
   simp[argA]
   refine hf.s ?_
   by_cases hc:Go.Lib.compareBytes an t<0
   ·have hc2:=hpi.1 hc
    simp[hc]
    refine⟨by omega,m+1,hi,⟨by omega,by omega,by omega⟩,by omega,by simp,subP.refl _⟩
   ·have hc2:=fun h=>hc (hpi.2 h)
    simp[hc]
    refine⟨lo,m,⟨by omega,by omega,by omega⟩,by omega,by simp,subP.refl _⟩
 ·obtain rfl:lo=posL ps t:=by omega
  unfold metL
  cases hq:ps[posL ps t]? with
  | none=>
   have hge:¬posL ps t<ps.length:=Nat.not_lt.2 (List.getElem?_eq_none_iff.1 hq)
   simp[hlt,hq,hge]
   refine GCall.fn (aI 0) (fun h=>h.elim) ?_
   simp
  | some q=>
   obtain⟨hlt2,hqe⟩:=List.getElem?_eq_some_iff.1 hq
   have hf:=find1_fn q t
   obtain⟨ak,an,ad,asg,aa,av,al⟩:=q
   simp only at hf
   cases aa
   all_goals
    simp[hlt,hq,hqe,hlt2,argA]
    refine GCall.fn _ (fun _=>⟨trivial,hf⟩) ?_
    simp
abbrev fkC (c:Control) (bg:Nat) (hp hj:Value) (m:Mk):List A:=
 [aI c.actuators,.dat (.sl (c.inputs.map encT)),.dat (.sl (c.signals.map encS)),.dat (.sl (c.plus.map encI)),.dat (.sl (c.minus.map encI)),.own 171 hp,.own 172 hj,aI m.number,aI m.signal,.map 173 bg,.any,.any,.any,.any,.any]
abbrev fkH (c:Control) (b bg:Nat) (hp hj:Value) (m:Mk):Heap:=
 [(170,.box b (fkC c bg hp hj m)),(171,.seq hp 112 7 (m.parts.map rMade)),(172,.seq hj 180 4 (m.joins.map rJoin)),(173,.mapS bg (.int .i64) (m.gates.map eGate))]
theorem fk_inv {c:Control}{b b4 b5 bg:Nat}{hp hj:Value}{m:Mk}{x:X}{H0:Heap}(hi:Inv x (mkrH c b b4 b5 bg hp hj m++H0)):Inv x (fkH c b bg hp hj m++H0):=by
 have h1:=Inv.swap (g:=70) (e:=.box b (mkrC c b b4 b5 bg hp hj m)) (e':=.box b (fkC c bg hp hj m)) rfl (box_sat (Ds_c D_i (Ds_c D_i (Ds_c D_i (Ds_c D_i (Ds_c D_i (Ds_c D_own (Ds_c D_own (Ds_c D_i (Ds_c D_i (Ds_c D_mtag
  (Ds_c D_any (Ds_c D_any (Ds_c D_any (Ds_c D_any (Ds_c D_any Ds_i)))))))))))))))) (fun _ h=>h) hi
 simp only[hset,if_true]at h1
 have h2:Inv x ([(70,.box b (fkC c bg hp hj m)),(71,.seq hp 112 7 (m.parts.map rMade)),(72,.seq hj 180 4 (m.joins.map rJoin)),(73,.mapS bg (.int .i64) (m.gates.map eGate))]++H0):=
  Inv.sub h1 (List.Sublist.append_right (List.Sublist.cons_cons _ (List.Sublist.cons_cons _ (List.Sublist.cons_cons _ (List.Sublist.cons_cons _ (List.nil_sublist _))))) H0)
 exact h2.ents (by simp)
theorem drawnF_s (c:Control) (hc:OkC c):CallS Tryz.prog 50 [aC c] [] fun r H'=>(checkC c≠0∧r=.tuple [.nilp,aI (checkC c)]∧H'=[]) ∨
  (checkC c=0∧∃b bg hp hj,r=.tuple [.ptr 170 b 0,aI 0]∧H'=fkH c b bg hp hj { wholeM c with parts:=partsL (wholeR c).gears }):=by
 refine (drawn_s c hc).res ?_
 rintro r H' (⟨hz,rfl⟩|⟨hz,b,b4,b5,bg,hp,hj,ps,rfl,hperm,hs,rfl⟩)
 ·exact⟨_,[],fun _ _ h=>h.sub (List.sublist_append_right _ _),fun _ _ h=>h,.inl ⟨hz,rfl,rfl⟩⟩
 ·have hr:=(whole_rel (inC_of hz)).parts
  rw[List.append_nil]at hr
  obtain rfl:=parts_same (whole_names hz) hr hperm hs
  refine⟨.tuple [.ptr 170 b 0,aI 0],_,fun x H0 hi=>fk_inv hi,fun x v hv=>?_,.inr ⟨hz,b,bg,hp,hj,rfl,rfl⟩⟩
  simp only[D]at hv ⊢
  obtain⟨vs,e,hd⟩:=hv
  exact⟨vs,e,Ds_c D_tag Ds_i _ hd⟩
section
variable {c:Control}{b bg:Nat}{hp hj:Value}{m:Mk}
theorem firstF_s (hc:Sm c):CallS Tryz.prog 61 [.ptr 170 b 0] (fkH c b bg hp hj m) fun r H'=>r=aI (firstC c)∧H'=fkH c b bg hp hj m:=by
 obtain⟨h1,h2,h3⟩:=hc
 refine callS_of Tryz.func61 rfl Tryz.ntmps61 (rs:=[.tmp 2]) rfl (by kernel_rfl) (by simp) (by kernel_rfl) ?_
 simp
 refine V.drawX (fun _=>none) (by kernel_rfl) (by kernel_rfl) (by simp) ?_
 simp
 unfold firstC
 omega
theorem findF_s (p:Pin) (hs:m.parts.Pairwise (fun a b=>byName b a=false)) (hl:m.parts.length<=1000000) :
  CallS Tryz.prog 63 [.ptr 170 b 0,.record (encPin p)] (fkH c b bg hp hj m) fun r H'=>r=.record [.int .i64 (posL m.parts p.part),.str p.port]∧H'=fkH c b bg hp hj m:=by
 obtain⟨p1,p2⟩:=p
 have hb:=bsf_s (hp:=hp) (t:=p1) hs hl
 refine CallS.dropP (callS_of Tryz.func63 rfl Tryz.ntmps63 (rs:=[.cell 4 50]) rfl (by kernel_rfl) (by simp) (by kernel_rfl) (K:=fun r H'=>r=.record [.int .i64 (posL m.parts p1),.str p2]∧subP (fkH c b bg hp hj m) H') ?_) (fun r H' ⟨e,h⟩=>⟨_,h,e,rfl⟩)
 simp
 intro b4
 refine V.drawX (fun t=>if t=14 then some (.ro (.tuple [aI (posL m.parts p1),aB (metL m.parts p1)])) else none) (by kernel_rfl) (by kernel_rfl) (by simp) ?_
 simp
 exact⟨hb,subP.c (subP.refl _) _⟩
end
end
end Go.Proofs.YtafamcbdaeppoaaGreatDoor
