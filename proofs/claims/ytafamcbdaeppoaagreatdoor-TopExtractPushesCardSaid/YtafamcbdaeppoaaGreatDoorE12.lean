/- Texts joined by a program: Fxk,Jc,Fxl,Fxm,Soa,Sra,Sn,Je. -/
import Derived.Sort.Grow
import Derived.Shelf.Sort.Plain
import Derived.Shelf.Slices.In.SortNone
import Derived.Test.YtafamcbdaeppoaaGreatDoorProg
import Derived.KernelRfl
import Derived.Test.YtafamcbdaeppoaaGreatDoorE11
import Derived.Test.YtafamcbdaeppoaaGreatDoorE10
set_option linter.unusedSimpArgs false
set_option linter.unusedVariables false
set_option maxHeartbeats 16000000
set_option maxRecDepth 100000
namespace Go.Proofs.YtafamcbdaeppoaaGreatDoor
section
variable {P:Program}
theorem V.of_vc {C:Cfg}{c:Code}{E:Env}{H:Heap}{Q:PostQ}(h:vcC C c E H Q):V C c E H Q:=fun hf=>vcC_ok c E H Q hf h
theorem V.of_vcN {C:Cfg}(k:Nat) {c:Code}{E:Env}{H:Heap}{Q:PostQ}(h:vcN C k c E H Q):V C c E H Q:=fun hf=>vcN_ok k c E H Q hf h
theorem V.condV {C:Cfg}{c:Operand}{a b:Code}{E:Env}{H:Heap}{Q:PostQ}(h:match st (ev E c) with
  | (p,.dat (.bool t))=>p∧(t=true->V C a E H Q)∧(t=false->V C b E H Q)
  | _=>False):V C (.cond c a b) E H Q:=by
 intro hf
 simp only[fitsC,Bool.and_eq_true]at hf
 cases hs:st (ev E c) with
 | mk p v=>
  rw[hs]at h
  cases v with
  | dat l=>
   cases l with
   | bool t=>exact W.cond' hs h.1 (fun ht=>h.2.1 ht (by simp_all)) (fun ht=>h.2.2 ht (by simp_all))
   | _=>exact h.elim
  | _=>exact h.elim
theorem V.cutV {C:Cfg}{c:Code}{E:Env}{H Hs:Heap}{Q:PostQ}(kv:List (Nat×A)) (hE:∀p∈kv,wk (E p.1) p.2) (hH:subN Hs H) (h:V C c (hdE kv []) Hs Q):V C c E H Q:=by
 intro hf x act H0 ms hi he
 refine h hf x act H0 ms (subN_inv hH hi) ⟨he.defers,he.size,?_⟩
 exact sets_wk he.slot [] _ (by simp) (sets_wk he.slot kv _ hE fun t=>by simp[anyE,D])
def BodyQ (id:Nat) (Q:PostQ) (nx:Env->Heap->Prop):PostQ:=fun e E H=>match e with
 | .normal=>nx E H
 | .exit k=>if k=id then nx E H else Q (.exit k) E H
 | .ret=>Q .ret E H
 | _=>False
@[simp] theorem BodyQ_n (id:Nat) (Q:PostQ) (nx:Env->Heap->Prop) (E:Env) (H:Heap):BodyQ id Q nx .normal E H=nx E H:=rfl
theorem BodyQ_x (id:Nat) (Q:PostQ) (nx:Env->Heap->Prop) (E:Env) (H:Heap):BodyQ id Q nx (.exit id) E H=nx E H:=if_pos rfl
@[simp] theorem BodyQ_r (id:Nat) (Q:PostQ) (nx:Env->Heap->Prop) (E:Env) (H:Heap):BodyQ id Q nx .ret E H=Q .ret E H:=rfl
@[congr] theorem BodyQ_congr {id:Nat}{Q:PostQ}{nx:Env->Heap->Prop}{e e':Exit}{E:Env}{H:Heap}{z:Prop}(_:(True∧True)=z) (h:e=e'):BodyQ id Q nx e E H=BodyQ id Q nx e' E H:=by rw[h]
theorem V.forB {C:Cfg}{E:Env}{H:Heap}{Q:PostQ}{id:Nat}{head inner post:Code}{σ:Type}{kv:List (Nat×A)}{kh:Heap}(n:Nat) (Lv:List Nat) (hkv:kv=Lv.map fun t=>(t,E t)) (sl sb:Nat->σ->List (Nat×A)) (Hs:Nat->σ->Heap) (I:Nat->σ->Prop) (s0:σ)
  (hI0:I 0 s0) (hE0:∀p∈sl 0 s0,wk (E p.1) p.2) (hH0:kh=kpH (Hs 0 s0) H∧subN (hcat (Hs 0 s0) kh) H)
  (hh:∀i s,i<n->I i s->vcC C head (hdE kv (sl i s)) (hcat (Hs i s) kh) (LoopQ (fun _ _ _=>False) fun E' H'=>(∀p∈sl i s,E' p.1=p.2)∧(∀p∈kv,E' p.1=p.2)∧H'=hcat (Hs i s) kh))
  (hb:∀i s,i<n->I i s->V C inner (hdE kv (sl i s)) (hcat (Hs i s) kh) (BodyQ id Q fun E' H'=>∃s',I (i+1) s'∧(∀p∈sb i s',wk (E' p.1) p.2)∧(∀p∈kv,E' p.1=p.2)∧subN (hcat (Hs (i+1) s') kh) H'))
  (hp:∀i s,i<n->I (i+1) s->vcC C post (hdE kv (sb i s)) (hcat (Hs (i+1) s) kh) (LoopQ (fun _ _ _=>False) fun E' H'=>
   ∃s',I (i+1) s'∧(∀p∈sl (i+1) s',wk (E' p.1) p.2)∧(∀p∈kv,E' p.1=p.2)∧subN (hcat (Hs (i+1) s') kh) H'))
  (he:∀s,I n s->vcC C head (hdE kv (sl n s)) (hcat (Hs n s) kh) (LoopQ Q fun _ _=>False)):V C (.loop (.seq head (.seq (.block id inner) post))) E H Q:=by
 intro hf x act H0 ms hi hen
 have hf2:=hf
 simp only[fitsC,Bool.and_eq_true]at hf2
 obtain⟨f1,f2,f3⟩:=hf2
 have hset:∀ {sl:List (Nat×A)}{E':Env}{y:X}{a:Act}{ds:List Deferred},EnvOK C.n ds y a E'->(∀p∈sl,wk (E' p.1) p.2)->(∀p∈kv,E' p.1=p.2)->EnvOK C.n ds y a (hdE kv sl):=by
  intro sl E' y a ds h h1 h2
  refine⟨h.defers,h.size,sets_wk h.slot _ _ h1 (sets_wk h.slot _ _ ?_ fun t=>by simp[anyE,D])⟩
  intro p hp
  rw[h2 p hp]
  simp
 have h00:∀p∈kv,E p.1=p.2:=by
  intro p hp
  rw[hkv]at hp
  obtain⟨t,_,rfl⟩:=List.mem_map.1 hp
  rfl
 have key:W C (.loop (.seq head (.seq (.block id inner) post))) (hdE kv (sl 0 s0)) (hcat (Hs 0 s0) kh) Q:=by
  refine W.loop (fun m E' H'=>∃i s,i<=n∧I i s∧n-i=m∧E'=hdE kv (sl i s)∧H'=hcat (Hs i s) kh) n ⟨0,s0,Nat.zero_le _,hI0,rfl,rfl,rfl⟩ ?_
  rintro m _ _ ⟨i,s,hin,hI,rfl,rfl,rfl⟩
  rcases Nat.lt_or_ge i n with hlt | hge
  ·refine W.seq ?_
   intro x act H0 ms hi hen
   refine wpIn_mono (vcC_ok head _ _ _ f1 (hh i s hlt hI) x act H0 ms hi hen) ?_
   rintro e a' w' ⟨y,E',H',ms',rfl,hle,hi',he',hq⟩
   cases e with
   | normal=>
    obtain⟨q1,q2,rfl⟩:=hq
    refine⟨y,hdE kv (sl i s),_,ms',rfl,hle,hi',hset he' (fun p hp=>.inl (q1 p hp)) q2,?_⟩
    refine W.seq (W.block ((hb i s hlt hI f2).mono ?_))
    have key2:∀E' H',(∃s',I (i+1) s'∧(∀p∈sb i s',wk (E' p.1) p.2)∧(∀p∈kv,E' p.1=p.2)∧subN (hcat (Hs (i+1) s') kh) H')->W C post E' H' fun e E' H'=>match e with
      | .normal=>∃m',m'<n-i∧∃i s,i<=n∧I i s∧n-i=m'∧E'=hdE kv (sl i s)∧H'=hcat (Hs i s) kh
      | .exit k=>Q (.exit k) E' H'
      | .ret=>Q .ret E' H'
      | _=>False:=by
     rintro E' H' ⟨s',r1,r2,r3,r4⟩ x act H0 ms hi hen
     refine wpIn_mono (vcC_ok post _ _ _ f3 (hp i s' hlt r1) x act H0 ms (subN_inv r4 hi) (hset hen r2 r3)) ?_
     rintro e a' w' ⟨y,E2,H2,ms',rfl,hle,hi',he',hq⟩
     cases e with
     | normal=>
      obtain⟨s2,h1,h3,h4,h5⟩:=hq
      exact⟨y,_,_,ms',rfl,hle,subN_inv h5 hi',hset he' h3 h4,n-(i+1),by omega,i+1,s2,by omega,h1,rfl,rfl,rfl⟩
     | exit k=>exact hq.elim
     | ret=>exact hq.elim
     | goto k=>exact hq.elim
     | panic k=>exact hq.elim
     | outgrown=>exact hq.elim
    intro e E' H' hq
    cases e with
    | normal=>exact key2 E' H' hq
    | exit k=>
     simp only[BodyQ]at hq
     simp only[blockQ]
     split at hq
     ·rename_i hk
      rw[if_pos hk]
      exact key2 E' H' hq
     ·rename_i hk
      rw[if_neg hk]
      exact hq
    | ret=>exact hq
    | goto k=>exact hq.elim
    | panic k=>exact hq.elim
    | outgrown=>exact hq.elim
   | exit k=>exact hq.elim
   | ret=>exact hq.elim
   | goto k=>exact hq.elim
   | panic k=>exact hq.elim
   | outgrown=>exact hq.elim
  ·obtain rfl:i=n:=by omega
   refine W.seq ?_
   intro x act H0 ms hi hen
   refine wpIn_mono (vcC_ok head _ _ _ f1 (he s hI) x act H0 ms hi hen) ?_
   rintro e a' w' ⟨y,E',H',ms',rfl,hle,hi',he',hq⟩
   cases e with
   | normal=>exact hq.elim
   | exit k=>exact⟨y,E',H',ms',rfl,hle,hi',he',hq⟩
   | ret=>exact⟨y,E',H',ms',rfl,hle,hi',he',hq⟩
   | goto k=>exact hq.elim
   | panic k=>exact hq.elim
   | outgrown=>exact hq.elim
 exact key x act H0 ms (subN_inv hH0.2 hi) (hset hen hE0 h00)
end
theorem gate_fn0 (n:Int):CallFn Tryz.prog 316 [aI n] (.fn 364 [] [.rptr [.int .i64 n]]):=by
 refine callFz_of Tryz.func316 rfl Tryz.ntmps316 (rs:=[.tmp 2]) rfl (by kernel_rfl) (by simp) (by kernel_rfl) ?_
 simp
theorem gateV_fn0 (n:Int):CallFn Tryz.prog 317 [aI n] (.fn 365 [] [.rptr [.int .i64 n]]):=by
 refine callFz_of Tryz.func317 rfl Tryz.ntmps317 (rs:=[.tmp 2]) rfl (by kernel_rfl) (by simp) (by kernel_rfl) ?_
 simp
theorem merge_fn0 (b:Bool):CallFn Tryz.prog 318 [aB b] (.fn 366 [] [.rptr [.bool b]]):=by
 refine callFz_of Tryz.func318 rfl Tryz.ntmps318 (rs:=[.tmp 2]) rfl (by kernel_rfl) (by simp) (by kernel_rfl) ?_
 simp
def catR:List (List A):=[
 [.dat (.str [115,117,112,112,108,121]),.dat (.str [90]),.dat (.sl []),.dat (.sl [[.str [49]]]),.dat (.sl []),.dat (.sl []),.dat (.sl []),.dat (.str []),.dat (.str []),aI 1,.fn 312 [] [],.fn 313 [] []],
 [.dat (.str [99,121,108,105,110,100,101,114]),.dat (.str [65]),.dat (.sl []),.dat (.sl []),.dat (.sl []),.dat (.sl []),.dat (.sl [[.str [50]],[.str [52]]]),.dat (.str []),.dat (.str []),aI 1,.fn 312 [] [],.fn 313 [] []],
 [.dat (.str [118,97,108,118,101,53,50]),.dat (.str [86]),.dat (.sl [[.str [49]]]),.dat (.sl [[.str [50]],[.str [52]]]),.dat (.sl [[.str [51]],[.str [53]]]),.dat (.sl [[.str [49,50]],[.str [49,52]]]),.dat (.sl []),.dat (.str [49,52]),.dat (.str [49,50]),aI 2,.fn 314 [] [],.fn 315 [] []],
 [.dat (.str [118,97,108,118,101,53,50,115]),.dat (.str [86]),.dat (.sl [[.str [49]]]),.dat (.sl [[.str [50]],[.str [52]]]),.dat (.sl [[.str [51]],[.str [53]]]),.dat (.sl [[.str [49,52]]]),.dat (.sl []),.dat (.str [49,52]),.dat (.str []),aI 2,.fn 314 [] [],.fn 315 [] []],
 [.dat (.str [118,97,108,118,101,51,50]),.dat (.str [86]),.dat (.sl [[.str [49]]]),.dat (.sl [[.str [50]]]),.dat (.sl [[.str [51]]]),.dat (.sl [[.str [49,50]]]),.dat (.sl []),.dat (.str [49,50]),.dat (.str []),aI 2,.fn 364 [] [.rptr [.int .i64 1]],.fn 365 [] [.rptr [.int .i64 1]]],
 [.dat (.str [118,97,108,118,101,51,50,111]),.dat (.str [86]),.dat (.sl [[.str [49]]]),.dat (.sl [[.str [50]]]),.dat (.sl [[.str [51]]]),.dat (.sl [[.str [49,48]]]),.dat (.sl []),.dat (.str [49,48]),.dat (.str []),aI 2,.fn 364 [] [.rptr [.int .i64 0]],.fn 365 [] [.rptr [.int .i64 0]]],
 [.dat (.str [108,105,109,105,116]),.dat (.str [83]),.dat (.sl [[.str [49]]]),.dat (.sl [[.str [50]]]),.dat (.sl [[.str [51]]]),.dat (.sl []),.dat (.sl []),.dat (.str []),.dat (.str []),aI 2,.fn 364 [] [.rptr [.int .i64 1]],.fn 365 [] [.rptr [.int .i64 1]]],
 [.dat (.str [98,117,116,116,111,110]),.dat (.str [83]),.dat (.sl [[.str [49]]]),.dat (.sl [[.str [50]]]),.dat (.sl [[.str [51]]]),.dat (.sl []),.dat (.sl []),.dat (.str []),.dat (.str []),aI 2,.fn 364 [] [.rptr [.int .i64 1]],.fn 365 [] [.rptr [.int .i64 1]]],
 [.dat (.str [115,104,117,116,116,108,101]),.dat (.str [86]),.dat (.sl [[.str [49]],[.str [49,49]]]),.dat (.sl [[.str [50]]]),.dat (.sl []),.dat (.sl []),.dat (.sl []),.dat (.str []),.dat (.str []),aI 1,.fn 366 [] [.rptr [.bool false]],.fn 313 [] []],
 [.dat (.str [116,119,105,110]),.dat (.str [86]),.dat (.sl [[.str [49]],[.str [49,49]]]),.dat (.sl [[.str [50]]]),.dat (.sl []),.dat (.sl []),.dat (.sl []),.dat (.str []),.dat (.str []),aI 1,.fn 366 [] [.rptr [.bool true]],.fn 313 [] []],
 [.dat (.str [113,117,105,99,107]),.dat (.str [86]),.dat (.sl [[.str [49]]]),.dat (.sl [[.str [50]]]),.dat (.sl [[.str [51]]]),.dat (.sl []),.dat (.sl []),.dat (.str []),.dat (.str []),aI 1,.fn 319 [] [],.fn 313 [] []],
 [.dat (.str [116,104,114,111,116,116,108,101]),.dat (.str [86]),.dat (.sl [[.str [49]]]),.dat (.sl [[.str [50]]]),.dat (.sl []),.dat (.sl []),.dat (.sl []),.dat (.str []),.dat (.str []),aI 1,.fn 319 [] [],.fn 313 [] []],
 [.dat (.str [100,101,108,97,121]),.dat (.str [86]),.dat (.sl [[.str [49]]]),.dat (.sl [[.str [50]]]),.dat (.sl [[.str [51]]]),.dat (.sl [[.str [49,50]]]),.dat (.sl []),.dat (.str [49,50]),.dat (.str []),aI 2,.fn 364 [] [.rptr [.int .i64 1]],.fn 365 [] [.rptr [.int .i64 1]]],
 [.dat (.str [99,111,117,110,116,101,114]),.dat (.str [86]),.dat (.sl [[.str [49]]]),.dat (.sl [[.str [50]]]),.dat (.sl [[.str [51]]]),.dat (.sl [[.str [49,50]]]),.dat (.sl []),.dat (.str [49,50]),.dat (.str []),aI 2,.fn 364 [] [.rptr [.int .i64 1]],.fn 365 [] [.rptr [.int .i64 1]]]]
theorem catalogue_fn:CallFn Tryz.prog 233 [] (.agg catR.flatten):=by
 have g0:=gate_fn0 0
 have g1:=gate_fn0 1
 have v0:=gateV_fn0 0
 have v1:=gateV_fn0 1
 have m0:=merge_fn0 false
 have m1:=merge_fn0 true
 refine callFz_cut 3 Tryz.func233 rfl Tryz.ntmps233 (rs:=[.cell 0 311]) rfl (by kernel_rfl) (by simp) (by kernel_rfl) ?_
 simp
 intro b
 refine V.cutV [(0,.ptr 0 b 0),(1,.dat (.sl [[.str [49]]])),(2,.dat (.sl [[.str [50]]])),(3,.dat (.sl [[.str [51]]])),(4,.dat (.sl [[.str [49]],[.str [49,49]]]))] (Hs:=[(0,.box b _)]) (by simp) (by simp;rfl) ?_
 refine V.seq (V.regF (fun t=>if t=32∨t=47∨t=54∨t=81∨t=89 then some (.fn (.fn 364 [] [.rptr [.int .i64 1]])) else if t=33∨t=48∨t=55∨t=82∨t=90 then some (.fn (.fn 365 [] [.rptr [.int .i64 1]]))
  else if t=40 then some (.fn (.fn 364 [] [.rptr [.int .i64 0]])) else if t=41 then some (.fn (.fn 365 [] [.rptr [.int .i64 0]])) else if t=60 then some (.fn (.fn 366 [] [.rptr [.bool false]])) else if t=65 then some (.fn (.fn 366 [] [.rptr [.bool true]])) else none) [] ?_)
 dsimp only[List.append,List.toList_toArray]
 simp
 exact⟨g1,v1,g0,v0,g1,v1,g1,v1,m0,m1,g1,v1,g1,v1,rfl⟩
theorem cat_nil:hasNil catR.flatten=false:=rfl
theorem cat_len:catR.flatten.length=168:=rfl
theorem cat_cases {Q:Nat->Prop}(h:Q 0∧Q 1∧Q 2∧Q 3∧Q 4∧Q 5∧Q 6∧Q 7∧Q 8∧Q 9∧Q 10∧Q 11∧Q 12∧Q 13):∀k,k<14->Q k:=by
 obtain⟨h0,h1,h2,h3,h4,h5,h6,h7,h8,h9,h10,h11,h12,h13⟩:=h
 intro k hk
 have:k=0∨k=1∨k=2∨k=3∨k=4∨k=5∨k=6∨k=7∨k=8∨k=9∨k=10∨k=11∨k=12∨k=13:=by omega
 rcases this with rfl | rfl | rfl | rfl | rfl | rfl | rfl | rfl | rfl | rfl | rfl | rfl | rfl | rfl<;>assumption
abbrev rowOf (k:Nat):List A:=catR.getD k []
theorem cat_row:∀k,k<14->List.take 12 (List.drop (k*12) catR.flatten)=rowOf k:=cat_cases ⟨rfl,rfl,rfl,rfl,rfl,rfl,rfl,rfl,rfl,rfl,rfl,rfl,rfl,rfl⟩
def cellB:A->Bool
 | .any=>false
 | .undef=>false
 | .record _=>false
 | .agg _=>false
 | .tuple _=>false
 | .cond _ _=>false
 | .nn _=>false
 | .clip _=>false
 | _=>true
theorem row_len:∀k,k<14->(rowOf k).length=12:=cat_cases ⟨rfl,rfl,rfl,rfl,rfl,rfl,rfl,rfl,rfl,rfl,rfl,rfl,rfl,rfl⟩
theorem row_ls:∀k,k<14->toLs (rowOf k)=none:=cat_cases ⟨rfl,rfl,rfl,rfl,rfl,rfl,rfl,rfl,rfl,rfl,rfl,rfl,rfl,rfl⟩
theorem row_nil:∀k,k<14->hasNil (rowOf k)=false:=cat_cases ⟨rfl,rfl,rfl,rfl,rfl,rfl,rfl,rfl,rfl,rfl,rfl,rfl,rfl,rfl⟩
theorem row_cell:∀k,k<14->(rowOf k).all cellB=true:=cat_cases ⟨rfl,rfl,rfl,rfl,rfl,rfl,rfl,rfl,rfl,rfl,rfl,rfl,rfl,rfl⟩
theorem row_frz:∀k,k<14->∀H,(frz H (.agg (rowOf k))).1∧(frz H (.agg (rowOf k))).2=.agg (rowOf k):=by
 refine cat_cases ⟨?_,?_,?_,?_,?_,?_,?_,?_,?_,?_,?_,?_,?_,?_⟩
 all_goals
  intro H
  exact⟨by simp[rowOf,catR],by simp[rowOf,catR]⟩
theorem cat_sum:(List.map List.length catR).sum=168:=rfl
theorem find_fn (k:Nat) (hk:k<14):CallFn Tryz.prog 163 [aI k] (.tuple [.agg (rowOf k),aI 0]):=by
 have hc:=catalogue_fn
 have h1:=cat_row k hk
 have h2:=row_len k hk
 have h3:=row_ls k hk
 have h4:=row_nil k hk
 refine callFz_of Tryz.func163 rfl Tryz.ntmps163 (rs:=[.cell 2 235,.tmp 3]) rfl (by kernel_rfl) (by simp) (by kernel_rfl) ?_
 simp
 intro b2
 refine⟨by omega,fun h=>?_⟩
 refine hc.s ?_
 have h5:=row_cell k hk
 have h6:=row_frz k hk
 simp only[cat_nil]
 generalize hR:rowOf k=R at *
 simp[cat_nil,cat_len,h1,h2,h3,h4,cat_sum]
 refine⟨⟨by omega,by omega⟩,fun x hx=>?_,?_⟩
 ·have hx2:=List.all_eq_true.1 h5 x hx
  cases x<;>exact hx2
 ·have h7:List.take 12 R=R:=List.take_of_length_le (by omega)
  rw[h7,h3]
  exact h6 _
def cellL:A->L
 | .dat l=>l
 | _=>.int .i64 0
section
variable {P:Program}
theorem ds_take {x:X}:∀(ls:List L) {rest:List A}{vs:List Value},Ds x (ls.map A.dat++rest) vs->RdLs x ls (vs.take ls.length)
 | [],_,_,_=>by simp[RdLs]
 | l::ls,rest,v::vs,h=>by
  simp only[List.map_cons,List.cons_append,Ds,D]at h
  simp only[List.length_cons,List.take_succ_cons,RdLs]
  exact⟨h.1,ds_take ls h.2⟩
 | l::ls,rest,[],h=>by simp[Ds]at h
theorem Gh.frzPre {Q:Env->Heap->Prop}{E:Env}{H:Heap}(t:Nat) {τ b:Nat}{ls:List L}{rest:List A}(hE:E t=.ptr τ b 0) (hH:hget τ H=some (.box b (ls.map A.dat++rest)))
  (hq:Gh Q (upd E t (.rptr ls)) (hdel τ H)):Gh Q E H:=by
 intro n ds x act H0 hi he
 have hp:=hdel_perm hH
 have hi1:Inv x ([(τ,.box b (ls.map A.dat++rest))]++(hdel τ H++H0)):=by
  have:=hi.perm (hp.symm.append_right H0)
  simpa using this
 obtain⟨y,hw,hle,hi2,hok,_⟩:=hi1.freeze
 have he2:EnvOK n ds y act (upd E t (.rptr ls)):=by
  have hm:=he.mono hle
  refine⟨hm.defers,hm.size,fun s=>?_⟩
  simp only[upd]
  split
  ·rename_i hs
   subst hs
   have hv:=he.slot s
   rw[hE]at hv
   obtain⟨c,ty,k1,k2⟩:=hi1.sat (τ,.box b (ls.map A.dat++rest)) (by simp)
   simp only[D]at hv ⊢
   rw[hv]
   refine⟨b,0,rfl,rdCells_vals (hok b ⟨_,List.mem_singleton.2 rfl,rfl⟩) ls _ 0 (RdLs.mono hle _ _ (ds_take ls k2)) ?_⟩
   intro j u hj
   rw[hw]
   simp only[World.cell?,k1,Nat.zero_add]
   have hj2:c.toList[j]?=some u:=by
    rw[List.getElem?_take]at hj
    split at hj
    ·exact hj
    ·cases hj
   simpa using hj2
  ·exact hm.slot s
 obtain⟨z,E2,H2,w2,l2,i2,e2,h2⟩:=hq n ds y act H0 hi2 he2
 exact⟨z,E2,H2,w2.trans hw,hle.trans l2,i2,e2,h2⟩
theorem rows1 {x:X}:∀(ls:List L) (b off:Nat),RdCells x ls b off->RdRows x (ls.map fun l=>[l]) b off
 | [],_,_,_=>by simp[RdRows]
 | l::ls,b,off,h=>by
  simp only[RdCells]at h
  simp only[List.map_cons,RdRows,RdCells,List.length_singleton]
  exact⟨⟨h.1,trivial⟩,rows1 ls b (off+1) h.2⟩
theorem sliceArr_ok {o:Oper}{t e:TypeId}{n:Nat}{x:Operand}{E:Env}{ls:List L}(ho:o.op=.slice t x none none none) (hu:arT P t=some (n,e)) (hs:tk P e≠0) (hE:ev E x=.rptr ls) (hn:n<=ls.length) :
  PureOK P o E (.dat (.sl ((ls.take n).map fun l=>[l]))):=by
 intro m ds y act he hb
 obtain⟨dst,op,type,pos,after,guard⟩:=o
 simp only at ho
 subst ho
 have hv:=ev_ok he x
 rw[hE]at hv
 simp only[D]at hv
 obtain⟨b,off,hv,hc⟩:=hv
 refine⟨.slice (some ⟨b,off,none⟩) n n,y,?_,Grow.refl y,?_⟩
 ·simp[execOp,Instr.sliceAt,run_underlying (arT_und hu),hv,Instr.sureAddr,Instr.sliceBounds,run_sizeOf' hs,add_none]
 ·simp only[D,RdL]
  refine .inr (.inl ⟨b,off,n,?_,?_,rows1 _ _ _ (RdCells.take n ls b off hc)⟩)
  ·simp;omega
  ·simp;omega
def vcT (P:Program) (ρ:Nat->Option CR) (T:List Nat) (hd:Nat->Option A) (ops:List Oper):List Oper->Env->Heap->(Env->Heap->Prop)->Prop
 | [],E,H,K=>K E H
 | o::rest,E,H,K=>match hd (o.dst.getD 0),o.guard with
  | some a,none=>PureOK P o E a∧vcT P ρ T hd ops rest (put E o.dst a) H K
  | _,_=>∀u b,match T.contains (o.dst.getD 0)&&o.guard.isNone with
   | true=>match heapF P u b (o.dst.getD 0) E (fun t=>hget t H) o.op with
    | some (p,a,ch)=>p∧vcT P ρ T hd ops rest (put E o.dst a) (happ ch H) K
    | none=>False
   | false=>match fStep P ρ u b ops o E (fun t=>hget t H) with
    | some (p,a,ch)=>p∧vcT P ρ T hd ops rest (put E o.dst a) (happ ch H) K
    | none=>False
@[congr] theorem vcT_congr {P:Program}{ρ:Nat->Option CR}{T:List Nat}{hd:Nat->Option A}{ops:List Oper}{l:List Oper}{E:Env}{H H':Heap}{K:Env->Heap->Prop}{z:Prop}(_:(True∧True)=z)
  (h:H=H'):vcT P ρ T hd ops l E H K=vcT P ρ T hd ops l E H' K:=by rw[h]
theorem vcT_ok {ρ:Nat->Option CR}{T:List Nat}{hd:Nat->Option A}{ops:List Oper}{n:Nat}{ds:List Deferred}{H0:Heap}{x0:X}{Q:Exit->Act->World->Prop}:∀(l:List Oper) (k:Nat) (E:Env) (H:Heap) (K:Env->Heap->Prop),ops.drop k=l->(∀o∈l,fits n o.dst)->vcT P ρ T hd ops l E H K ->
  (∀E H x act,K E H->x0.le x->Inv x (H++H0)->EnvOK n ds x act E->Q .normal act x.w)->∀x act,x0.le x->Inv x (H++H0)->EnvOK n ds x act E->wpOps P ops.toArray Q ((List.range' k l.length)) act x.w
 | [],k,E,H,K,_,_,h,hq,x,act,hle,hi,he=>by
  simp only[List.length_nil,List.range'_zero,wpOps]
  exact hq _ _ x act h hle hi he
 | o::rest,k,E,H,K,hk,hf,h,hq,x,act,hle,hi,he=>by
  have ho:ops[k]?=some o:=by
   have:=congrArg (·[0]?) hk
   simpa [List.getElem?_drop]using this
  have hk':ops.drop (k+1)=rest:=by
   rw[<- List.drop_drop,hk]
   rfl
  simp only[List.length_cons,List.range'_succ]
  rw[wpOps_cons]
  simp only[vcT]at h
  split at h
  ·rename_i a hh hg
   obtain⟨u,y,h1,h2,h3⟩:=h.1 _ _ x act he hi.bd
   have hw:Region.wanted o (yielded ops.toArray act.tmps)=true:=by simp[Region.wanted,hg]
   unfold wpOp
   rw[show ops.toArray[k]?=some o by simpa using ho]
   simp only
   rw[if_pos hw]
   left
   show o.upon P act _ Q _
   rw[h1]
   exact vcT_ok rest (k+1) _ _ K hk' (fun o ho=>hf o (by simp[ho])) h.2 hq y _ (hle.trans h2.le) (hi.grow h2) ((he.mono h2.le).put (hf o (by simp)) h3)
  ·cases hT:(T.contains (o.dst.getD 0)&&o.guard.isNone) with
   | true=>
    rw[hT]at h
    dsimp only at h
    have hg:o.guard=none:=by
     have:=(Bool.and_eq_true_iff.1 hT).2
     cases hgd:o.guard with
     | none=>rfl
     | some _=>rw[hgd]at this;simp at this
    have hw:Region.wanted o (yielded ops.toArray act.tmps)=true:=by simp[Region.wanted,hg]
    obtain⟨u,b,v,y,p,a,ch,h1,h2,h3,h4,h5,h6⟩:=heapF_ok (P:=P) (o:=o) (E:=E) (τ:=o.dst.getD 0) (fun u b=>by
     have:=h u b
     split at this
     ·rename_i p a ch hh;exact⟨p,a,ch,hh,this.1⟩
     ·exact this.elim) (fun t=>rfl) hi he
    have hk2:=h u b
    rw[h1]at hk2
    have fin:∀v,D y a v->wpOps P ops.toArray Q (List.range' (k+1) rest.length) (act.put o.dst v) y.w:=fun v hd=>
     vcT_ok rest (k+1) _ _ K hk' (fun o ho=>hf o (by simp[ho])) hk2.2 hq y _ (hle.trans h4) h5 ((he.mono h4).put (hf o (by simp)) hd)
    unfold wpOp
    rw[show ops.toArray[k]?=some o by simpa using ho]
    simp only
    rw[if_pos hw]
    left
    show o.upon P act _ Q _
    rcases h3 with h3 | ⟨h3,rfl⟩
    ·rw[h3];exact fin v h6
    ·rw[h3];exact fin Go.undef h6
   | false=>
    rw[hT]at h
    dsimp only at h
    refine fStep_ok (ρ:=ρ) (fun u b=>?_) (fun t=>rfl) hi he (by simpa using ho) ?_
    ·have:=h u b
     split at this
     ·rename_i p a ch hh;exact⟨p,a,ch,hh,this.1⟩
     ·exact this.elim
    ·intro u b p a ch v y hh hle2 hi2 hd
     have:=h u b
     rw[hh]at this
     exact vcT_ok rest (k+1) _ _ K hk' (fun o ho=>hf o (by simp[ho])) this.2 hq y _ (hle.trans hle2) hi2 ((he.mono hle2).put (hf o (by simp)) hd)
theorem V.regD {n:Nat}{id:Nat}{ops:Array Oper}{E:Env}{H:Heap}{Q:PostQ}(ρ:Nat->Option CR) (T:List Nat) (hd:Nat->Option A) (h:vcT P ρ T hd ops.toList ops.toList E H fun E' H'=>Q .normal E' H'):V ⟨P,none,n⟩ (.region id ops false) E H Q:=by
 intro hf x act H0 ms hi he
 refine wpIn_wide.2 (wp_region ?_)
 have:=vcT_ok (P:=P) (ρ:=ρ) (T:=T) (hd:=hd) (n:=n) (ds:=ms.map mk) (x0:=x) (Q:=Post n H0 Q x) ops.toList 0 E H _ rfl (fitsOps_ok hf) h (fun E H y act hK hle hi he=>⟨y,E,H,ms,rfl,hle,hi,he,hK⟩) x act (.refl x) hi he
 rw[List.range_eq_range']
 simpa using this
attribute [simp] vcT
end
section
variable {P:Program}
theorem CallS.res {g:FuncId}{az:List A}{H:Heap}{K K':A->Heap->Prop}(h:CallS P g az H K)
  (hk:∀r H',K r H'->∃r' H'',(∀x H0,Inv x (H'++H0)->Inv x (H''++H0))∧(∀x v,D x r v->D x r' v)∧K' r' H''):CallS P g az H K':=by
 refine⟨h.1,fun x args H0 hi hd=>(h.2 x args H0 hi hd).mono ?_⟩
 rintro _ _ ⟨y,v,r,H',rfl,rfl,hle,hiy,hv,hkr⟩
 obtain⟨r',H'',a1,a2,a3⟩:=hk r H' hkr
 exact⟨y,v,r',H'',rfl,rfl,hle,a1 y H0 hiy,a2 y v hv,a3⟩
theorem rowsD_T (xs:List (List UInt8)):rowsD (xs.map rT)=xs.map encT:=by unfold rowsD;rw[List.map_map];rfl
theorem allD_T (xs:List (List UInt8)):allD (xs.map rT)=true:=by simp[allD,isD]
attribute [simp] rowsD_T allD_T
end
section
open Go.Sort
variable {P:Program}
theorem rI_vals {x:X}:∀ {zs:List Int}{vs:List Value},Ds x (zs.map rI).flatten vs->vs=zs.map (Value.int .i64)
 | [],[],_=>rfl
 | z::zs,v::vs,h=>by
  simp only[List.map_cons,List.flatten_cons,List.cons_append,List.nil_append,rI,Ds,D,RdL]at h
  rw[h.1,rI_vals h.2,List.map_cons]
 | [],_::_,h=>by simp[Ds]at h
 | _::_,[],h=>by simp[Ds,rI]at h
theorem rI_Ds {x:X}:∀(zs:List Int),Ds x (zs.map rI).flatten (zs.map (Value.int .i64))
 | []=>by simp[Ds]
 | z::zs=>by
  simp only[List.map_cons,List.flatten_cons,List.cons_append,List.nil_append,rI,Ds,D,RdL]
  exact⟨trivial,rI_Ds zs⟩
theorem rI_len {zs:List Int}:∀r∈zs.map rI,r.length=1:=by
 intro r hr
 obtain⟨z,_,rfl⟩:=List.mem_map.1 hr
 rfl
theorem ints_own {x:X}{h:Value}{e:TypeId}{zs:List Int}(hs:Ent.sat x (.seq h e 1 (zs.map rI))) :
  (h=.slice none 0 0∧zs=[])∨∃g cap cur,h=.slice (some ⟨g,0,none⟩) zs.length cap∧x.w.heap[g]?=some (.cells cur e (0,0))∧zs.length<=cap∧cap<=maxLen∧cur.size=cap∧cur.toList.take zs.length=zs.map (Value.int .i64):=by
 obtain⟨xs,⟨h1,h2⟩,h3,h4⟩:=hs
 have hx:=rI_vals h4
 subst hx
 rcases h2 with⟨rfl,h0⟩|⟨g,cap,cur,rfl,_,h5,h6,h7,h8,h9⟩
 ·exact .inl ⟨rfl,by simpa using h0⟩
 ·refine .inr ⟨g,cap,cur,by simp,h5,by simpa using h6,h7,by simpa using h8,by simpa using h9⟩
theorem ints_holds {x:X}{g:Nat}{cur:Array Value}{e:TypeId}{zs:List Int}(h5:x.w.heap[g]?=some (.cells cur e (0,0))) (h9:cur.toList.take zs.length=zs.map (Value.int .i64)) :
  Holds (Value.int .i64) x.w g 0 zs.toArray:=by
 intro j hj
 have hj':j<zs.length:=by simpa using hj
 have hc:cur[j]?=some (.int .i64 zs[j]):=by
  have:(cur.toList.take zs.length)[j]?=some (.int .i64 zs[j]):=by rw[h9];simp[hj']
  rw[List.getElem?_take]at this
  simpa [hj']using this
 constructor
 ·have hz:zs.toArray[j]! = zs[j]:=by simp[hj']
  rw[hz]
  simp[World.cell?,h5,hc]
 ·simp[World.frozen?,h5]
theorem putRow_block {w:World}{g n:Nat}{cur:Array Value}{e:TypeId}(h5:w.heap[g]?=some (.cells cur e (0,0))) (d:Array Int) (os:Array Obj) :
  (grow (putRow (Value.int .i64) (Sort.ahead w n) g 0 d) os).heap[g]?=some (.cells (putCells (Value.int .i64) 0 d cur) e (0,0))∧∀k,k<w.heap.size->k≠g->(grow (putRow (Value.int .i64) (Sort.ahead w n) g 0 d) os).heap[k]?=w.heap[k]?:=by
 have hlt:=(Array.getElem?_eq_some_iff.1 h5).1
 have hsz:(putRow (Value.int .i64) (Sort.ahead w n) g 0 d).heap.size=w.heap.size:=by simp[putRow,mapBlock,Sort.ahead]
 have hgr:∀k,k<w.heap.size->(grow (putRow (Value.int .i64) (Sort.ahead w n) g 0 d) os).heap[k]?=(putRow (Value.int .i64) (Sort.ahead w n) g 0 d).heap[k]?:=by
  intro k hk
  simp only[grow]
  rw[Array.getElem?_append_left (by rw[hsz];exact hk)]
 constructor
 ·rw[hgr g hlt]
  simp[putRow,mapBlock,Sort.ahead,Array.getElem?_modify,h5,onCells]
 ·intro k hk hne
  rw[hgr k hk]
  simp[putRow,mapBlock,Sort.ahead,Array.getElem?_modify,Ne.symm hne]
theorem putCells_take (d:Array Int) (cur:Array Value) (m:Nat) (hm:m<=d.size) (hd:d.size<=cur.size):(putCells (Value.int .i64) 0 d cur).toList.take m=(d.toList.take m).map (Value.int .i64):=by
 apply List.ext_getElem?
 intro k
 rw[List.getElem?_take,List.getElem?_map,List.getElem?_take]
 split
 ·rename_i hk
  have h1:k<cur.size:=by omega
  have h2:k<d.size:=by omega
  simp[putCells,h1,h2]
 ·simp
theorem seq_putRow {x:X}{H:Heap}{t g cap q:Nat}{e:TypeId}{zs:List Int}(hi:Inv x ((t,.seq (.slice (some ⟨g,0,none⟩) zs.length cap) e 1 (zs.map rI))::H)) (d:List Int) (hd:d.length=zs.length) (m:Nat) (hm:m<=d.length) (os:Array Obj) :
  ∃y:X,y.w=grow (putRow (Value.int .i64) (Sort.ahead x.w q) g 0 d.toArray) os∧x.le y∧Inv y ((t,.seq (.slice (some ⟨g,0,none⟩) m cap) e 1 ((d.take m).map rI))::H):=by
 have hs:=hi.sat _ (List.mem_cons_self)
 rcases ints_own hs with⟨h,_⟩|⟨g',cap',cur,h,h5,h6,h7,h8,h9⟩
 ·cases h
 ·cases h
  obtain⟨b1,b2⟩:=putRow_block (n:=q) h5 d.toArray os
  have hlt:=(Array.getElem?_eq_some_iff.1 h5).1
  have hsz:x.w.heap.size<=(grow (putRow (Value.int .i64) (Sort.ahead x.w q) g 0 d.toArray) os).heap.size:=by simp[grow,putRow,mapBlock,Sort.ahead]
  let y:X:=⟨grow (putRow (Value.int .i64) (Sort.ahead x.w q) g 0 d.toArray) os,x.ok⟩
  have hfin:x.le y∧Inv y ((t,.seq (.slice (some ⟨g,0,none⟩) m cap) e 1 ((d.take m).map rI))::H):=by
   refine hi.ofOwn (y:=y) (g':=t) (h':=.slice (some ⟨g,0,none⟩) m cap) (rows':=(d.take m).map rI) rfl ?_ ?_ ?_ ?_
   ·have hrl:((d.take m).map rI).length=m:=by rw[List.length_map,List.length_take];omega
    have hrv:((d.take m).map (Value.int .i64)).length=m*1:=by rw[List.length_map,List.length_take];omega
    have hpt:=putCells_take d.toArray cur m (by simpa using hm) (by rw[List.size_toArray];omega)
    have hps:(putCells (Value.int .i64) 0 d.toArray cur).size=cap*1:=by simp[putCells,h8]
    refine⟨(d.take m).map (Value.int .i64),⟨by rw[hrl];exact hrv,.inr ⟨g,cap,_,by rw[hrl],Nat.zero_le _,b1,by rw[hrl];omega,h7,hps,?_⟩⟩,rI_len,rI_Ds _⟩
    rw[hrl,Nat.mul_one]
    exact hpt
   ·refine⟨rfl,rfl,rfl,hsz,?_⟩
    intro k hk hne
    exact b2 k hk fun e=>hne (by simp[Value.ownBlock,e])
   ·show x.w.drawn<=(grow (putRow (Value.int .i64) (Sort.ahead x.w q) g 0 d.toArray) os).drawn
    simp[grow,putRow,mapBlock,Sort.ahead]
   ·intro k hk
    simp only[Value.ownBlock,Option.some.injEq]at hk
    subst hk
    exact⟨.inl rfl,Nat.lt_of_lt_of_le hlt hsz⟩
  exact⟨y,rfl,hfin⟩
theorem Ds_one {x:X}{t:Nat}{h:Value}{args:Array Value}(hd:Ds x [.own t h] args.toList):args=#[h]:=by
 rcases args with⟨l⟩
 rcases l with _ | ⟨a,_ | ⟨b,l⟩⟩<;>simp[Ds,D]at hd
 rw[hd.1]
theorem unit_D (y:X):D y (.tuple []) (.tuple #[]):=by simp[D,Ds]
end
section
open Go.Sort
variable {P:Program}{ρ:Go.Shelf.Ren}
theorem rT_vals {x:X}:∀ {zs:List (List UInt8)}{vs:List Value},Ds x (zs.map rT).flatten vs->vs=zs.map (encStr)
 | [],[],_=>rfl
 | z::zs,v::vs,h=>by
  simp only[List.map_cons,List.flatten_cons,List.cons_append,List.nil_append,rT,Ds,D,RdL]at h
  rw[h.1,rT_vals h.2,List.map_cons]
 | [],_::_,h=>by simp[Ds]at h
 | _::_,[],h=>by simp[Ds,rT]at h
theorem rT_Ds {x:X}:∀(zs:List (List UInt8)),Ds x (zs.map rT).flatten (zs.map (encStr))
 | []=>by simp[Ds]
 | z::zs=>by
  simp only[List.map_cons,List.flatten_cons,List.cons_append,List.nil_append,rT,Ds,D,RdL]
  exact⟨trivial,rT_Ds zs⟩
theorem rT_len {zs:List (List UInt8)}:∀r∈zs.map rT,r.length=1:=by
 intro r hr
 obtain⟨z,_,rfl⟩:=List.mem_map.1 hr
 rfl
theorem strs_own {x:X}{h:Value}{e:TypeId}{zs:List (List UInt8)}(hs:Ent.sat x (.seq h e 1 (zs.map rT))) :
  (h=.slice none 0 0∧zs=[])∨∃g cap cur,h=.slice (some ⟨g,0,none⟩) zs.length cap∧x.w.heap[g]?=some (.cells cur e (0,0))∧zs.length<=cap∧cap<=maxLen∧cur.size=cap∧cur.toList.take zs.length=zs.map (encStr):=by
 obtain⟨xs,⟨h1,h2⟩,h3,h4⟩:=hs
 have hx:=rT_vals h4
 subst hx
 rcases h2 with⟨rfl,h0⟩|⟨g,cap,cur,rfl,_,h5,h6,h7,h8,h9⟩
 ·exact .inl ⟨rfl,by simpa using h0⟩
 ·refine .inr ⟨g,cap,cur,by simp,h5,by simpa using h6,h7,by simpa using h8,by simpa using h9⟩
theorem strs_holds {x:X}{g:Nat}{cur:Array Value}{e:TypeId}{zs:List (List UInt8)}(h5:x.w.heap[g]?=some (.cells cur e (0,0))) (h9:cur.toList.take zs.length=zs.map (encStr)) :
  Holds (encStr) x.w g 0 zs.toArray:=by
 intro j hj
 have hj':j<zs.length:=by simpa using hj
 have hc:cur[j]?=some (encStr zs[j]):=by
  have:(cur.toList.take zs.length)[j]?=some (encStr zs[j]):=by rw[h9];simp[hj']
  rw[List.getElem?_take]at this
  simpa [hj']using this
 constructor
 ·have hz:zs.toArray[j]! = zs[j]:=by simp[hj']
  rw[hz]
  simp[World.cell?,h5,hc]
 ·simp[World.frozen?,h5]
theorem putRowT_block {w:World}{g n:Nat}{cur:Array Value}{e:TypeId}(h5:w.heap[g]?=some (.cells cur e (0,0))) (d:Array (List UInt8)) (os:Array Obj) :
  (grow (putRow (encStr) (Sort.ahead w n) g 0 d) os).heap[g]?=some (.cells (putCells (encStr) 0 d cur) e (0,0))∧∀k,k<w.heap.size->k≠g->(grow (putRow (encStr) (Sort.ahead w n) g 0 d) os).heap[k]?=w.heap[k]?:=by
 have hlt:=(Array.getElem?_eq_some_iff.1 h5).1
 have hsz:(putRow (encStr) (Sort.ahead w n) g 0 d).heap.size=w.heap.size:=by simp[putRow,mapBlock,Sort.ahead]
 have hgr:∀k,k<w.heap.size->(grow (putRow (encStr) (Sort.ahead w n) g 0 d) os).heap[k]?=(putRow (encStr) (Sort.ahead w n) g 0 d).heap[k]?:=by
  intro k hk
  simp only[grow]
  rw[Array.getElem?_append_left (by rw[hsz];exact hk)]
 constructor
 ·rw[hgr g hlt]
  simp[putRow,mapBlock,Sort.ahead,Array.getElem?_modify,h5,onCells]
 ·intro k hk hne
  rw[hgr k hk]
  simp[putRow,mapBlock,Sort.ahead,Array.getElem?_modify,Ne.symm hne]
theorem putCellsT_take (d:Array (List UInt8)) (cur:Array Value) (m:Nat) (hm:m<=d.size) (hd:d.size<=cur.size):(putCells (encStr) 0 d cur).toList.take m=(d.toList.take m).map (encStr):=by
 apply List.ext_getElem?
 intro k
 rw[List.getElem?_take,List.getElem?_map,List.getElem?_take]
 split
 ·rename_i hk
  have h1:k<cur.size:=by omega
  have h2:k<d.size:=by omega
  simp[putCells,h1,h2]
 ·simp
theorem seq_putRowT {x:X}{H:Heap}{t g cap q:Nat}{e:TypeId}{zs:List (List UInt8)}(hi:Inv x ((t,.seq (.slice (some ⟨g,0,none⟩) zs.length cap) e 1 (zs.map rT))::H)) (d:List (List UInt8)) (hd:d.length=zs.length) (m:Nat) (hm:m<=d.length) (os:Array Obj) :
  ∃y:X,y.w=grow (putRow (encStr) (Sort.ahead x.w q) g 0 d.toArray) os∧x.le y∧Inv y ((t,.seq (.slice (some ⟨g,0,none⟩) m cap) e 1 ((d.take m).map rT))::H):=by
 have hs:=hi.sat _ (List.mem_cons_self)
 rcases strs_own hs with⟨h,_⟩|⟨g',cap',cur,h,h5,h6,h7,h8,h9⟩
 ·cases h
 ·cases h
  obtain⟨b1,b2⟩:=putRowT_block (n:=q) h5 d.toArray os
  have hlt:=(Array.getElem?_eq_some_iff.1 h5).1
  have hsz:x.w.heap.size<=(grow (putRow (encStr) (Sort.ahead x.w q) g 0 d.toArray) os).heap.size:=by simp[grow,putRow,mapBlock,Sort.ahead]
  let y:X:=⟨grow (putRow (encStr) (Sort.ahead x.w q) g 0 d.toArray) os,x.ok⟩
  have hfin:x.le y∧Inv y ((t,.seq (.slice (some ⟨g,0,none⟩) m cap) e 1 ((d.take m).map rT))::H):=by
   refine hi.ofOwn (y:=y) (g':=t) (h':=.slice (some ⟨g,0,none⟩) m cap) (rows':=(d.take m).map rT) rfl ?_ ?_ ?_ ?_
   ·have hrl:((d.take m).map rT).length=m:=by rw[List.length_map,List.length_take];omega
    have hrv:((d.take m).map (encStr)).length=m*1:=by rw[List.length_map,List.length_take];omega
    have hpt:=putCellsT_take d.toArray cur m (by simpa using hm) (by rw[List.size_toArray];omega)
    have hps:(putCells (encStr) 0 d.toArray cur).size=cap*1:=by simp[putCells,h8]
    refine⟨(d.take m).map (encStr),⟨by rw[hrl];exact hrv,.inr ⟨g,cap,_,by rw[hrl],Nat.zero_le _,b1,by rw[hrl];omega,h7,hps,?_⟩⟩,rT_len,rT_Ds _⟩
    rw[hrl,Nat.mul_one]
    exact hpt
   ·refine⟨rfl,rfl,rfl,hsz,?_⟩
    intro k hk hne
    exact b2 k hk fun e=>hne (by simp[Value.ownBlock,e])
   ·show x.w.drawn<=(grow (putRow (encStr) (Sort.ahead x.w q) g 0 d.toArray) os).drawn
    simp[grow,putRow,mapBlock,Sort.ahead]
   ·intro k hk
    simp only[Value.ownBlock,Option.some.injEq]at hk
    subst hk
    exact⟨.inl rfl,Nat.lt_of_lt_of_le hlt hsz⟩
  exact⟨y,rfl,hfin⟩
def sortT (zs:List (List UInt8)):List (List UInt8):=zs.mergeSort fun x y=>decide (x<=y)
theorem sortT_len (zs:List (List UInt8)):(sortT zs).length=zs.length:=by simp[sortT]
theorem sortT_s (Ly:Go.Proofs.Lays.n190 P ρ) (hc:Callable P (ρ.f 190)) {e t:Nat}{h:Value}{zs:List (List UInt8)}(hz:zs.length<4611686018427387904) :
  CallS P (ρ.f 190) [.own t h] [(t,.seq h e 1 (zs.map rT))] fun r H'=>r=.tuple []∧H'=[(t,.seq h e 1 ((sortT zs).map rT))]:=by
 refine⟨hc,fun x args H0 hi hd=>?_⟩
 obtain rfl:=Ds_one hd
 have hs:=hi.sat _ (List.mem_cons_self)
 rcases strs_own hs with⟨rfl,rfl⟩|⟨g,cap,cur,rfl,h5,h6,h7,h8,h9⟩
 ·refine (Any.slices_Sort_string_none Ly none 0 x.w).mono ?_
  rintro _ _ ⟨rfl,rfl⟩
  exact⟨x,_,.tuple [],_,rfl,rfl,.refl x,by simpa [sortT]using hi,unit_D x,rfl,rfl⟩
 ·refine (Any.slices_Sort_string Ly g 0 cap zs x.w (strs_holds h5 h9) (Array.getElem?_eq_some_iff.1 h5).1 hz).mono ?_
  rintro _ _ ⟨rfl,n,os,rfl⟩
  obtain⟨y,k1,k2,k3⟩:=seq_putRowT hi (q:=n) (sortT zs) (sortT_len zs) (sortT zs).length (Nat.le_refl _) os
  rw[List.take_length,sortT_len]at k3
  exact⟨y,_,.tuple [],_,rfl,k1,k2,k3,unit_D y,rfl,rfl⟩
end
def sortTRen:Go.Shelf.Ren:=⟨fun | 125=>152 | 128=>223 | 129=>224 | 190=>269 | 258=>339 | 302=>372 | 303=>373 | 304=>374 | 305=>375 | 306=>376 | 307=>377 | 308=>378 | 309=>379 | 310=>380 | 329=>298 | 330=>299 | 333=>398 | 334=>399 | 335=>400 | 336=>401 | 344=>407 | n=>n,fun | 0=>0 | 3=>3 | 4=>4 | 5=>5 | 9=>9 | 31=>22 | 46=>220 | 51=>295 | 53=>297 | 131=>142 | 182=>287 | 183=>288 | 218=>367 | 222=>371 | 228=>414 | 229=>415 | n=>n,fun n=>n⟩
theorem sortTLays:Go.Proofs.Lays.n190 Tryz.prog sortTRen:={ 
 mixed:=by kernel_rfl,
 f125:=by kernel_rfl,
 f128:=by kernel_rfl,
 f129:=by kernel_rfl,
 f190:=by kernel_rfl,
 f258:=by kernel_rfl,
 f302:=by kernel_rfl,
 f303:=by kernel_rfl,
 f304:=by kernel_rfl,
 f305:=by kernel_rfl,
 f306:=by kernel_rfl,
 f307:=by kernel_rfl,
 f308:=by kernel_rfl,
 f309:=by kernel_rfl,
 f310:=by kernel_rfl,
 f329:=by kernel_rfl,
 f330:=by kernel_rfl,
 f333:=by kernel_rfl,
 f334:=by kernel_rfl,
 f335:=by kernel_rfl,
 f336:=by kernel_rfl,
 f344:=by kernel_rfl,
 t0:=Tryz.underlying0,
 a0:=Tryz.isAgg0,
 z0:=Tryz.sizeOf0,
 v0:=Tryz.zeroValue0,
 t3:=Tryz.underlying3,
 a3:=Tryz.isAgg3,
 z3:=Tryz.sizeOf3,
 v3:=Tryz.zeroValue3,
 t4:=Tryz.underlying4,
 a4:=Tryz.isAgg4,
 z4:=Tryz.sizeOf4,
 v4:=Tryz.zeroValue4,
 t5:=Tryz.underlying5,
 a5:=Tryz.isAgg5,
 z5:=Tryz.sizeOf5,
 v5:=Tryz.zeroValue5,
 t9:=Tryz.underlying9,
 a9:=Tryz.isAgg9,
 z9:=Tryz.sizeOf9,
 v9:=Tryz.zeroValue9,
 t31:=Tryz.underlying22,
 a31:=Tryz.isAgg22,
 z31:=Tryz.sizeOf22,
 v31:=Tryz.zeroValue22,
 t46:=Tryz.underlying220,
 a46:=Tryz.isAgg220,
 z46:=Tryz.sizeOf220,
 v46:=Tryz.zeroValue220,
 t51:=Tryz.underlying295,
 a51:=Tryz.isAgg295,
 z51:=Tryz.sizeOf295,
 v51:=Tryz.zeroValue295,
 t53:=Tryz.underlying297,
 a53:=Tryz.isAgg297,
 z53:=Tryz.sizeOf297,
 v53:=Tryz.zeroValue297,
 t131:=Tryz.underlying142,
 a131:=Tryz.isAgg142,
 z131:=Tryz.sizeOf142,
 v131:=Tryz.zeroValue142,
 t182:=Tryz.underlying287,
 a182:=Tryz.isAgg287,
 z182:=Tryz.sizeOf287,
 v182:=Tryz.zeroValue287,
 t183:=Tryz.underlying288,
 a183:=Tryz.isAgg288,
 z183:=Tryz.sizeOf288,
 v183:=Tryz.zeroValue288,
 t218:=Tryz.underlying367,
 a218:=Tryz.isAgg367,
 z218:=Tryz.sizeOf367,
 v218:=Tryz.zeroValue367,
 t222:=Tryz.underlying371,
 a222:=Tryz.isAgg371,
 z222:=Tryz.sizeOf371,
 v222:=Tryz.zeroValue371,
 t228:=Tryz.underlying414,
 a228:=Tryz.isAgg414,
 z228:=Tryz.sizeOf414,
 v228:=Tryz.zeroValue414,
 t229:=Tryz.underlying415,
 a229:=Tryz.isAgg415,
 z229:=Tryz.sizeOf415,
 v229:=Tryz.zeroValue415 }
theorem growT_o (n:Int) (h0:0<=n) (h1:n<=4294967296):CallOwn Tryz.prog 338 [.nils,aI n] 9 1 []:=by
 refine callO_of Tryz.func338 rfl Tryz.ntmps338 (rs:=[.tmp 4]) rfl (by kernel_rfl) (by simp) (by kernel_rfl) ?_
 by_cases hn:0<n
 ·simp[hn,Int.not_lt.2 h0]
  omega
 ·have e:n=0:=by omega
  subst e
  simp
def sumT (xss:List (List (List UInt8))):Nat:=(xss.map List.length).sum
theorem concatT_o (xss:List (List (List UInt8))) (h:sumT xss<=4294967296) (h1:xss.length<=4294967296):CallOwn Tryz.prog 268 [.dat (.sl (xss.map fun xs=>[.sl (xs.map encT)]))] 9 1 (xss.flatten.map rT):=by
 refine callO_of Tryz.func268 rfl Tryz.ntmps268 (rs:=[.tmp 2]) rfl (by kernel_rfl) (by simp) (by kernel_rfl) ?_
 have hle:∀i,(xss.take i).flatten.length<=sumT xss:=by
  intro i
  have e:xss=xss.take i++xss.drop i:=(List.take_append_drop i xss).symm
  have:sumT xss=sumT (xss.take i)+sumT (xss.drop i):=by
   unfold sumT
   conv=>lhs;rw[e]
   rw[List.map_append,List.sum_append]
  rw[List.length_flatten]
  unfold sumT at this ⊢
  omega
 have hst:∀i y,xss[i]?=some y->(xss.take (i+1)).flatten=(xss.take i).flatten++y:=by
  intro i y hy
  rw[List.take_add_one,hy]
  simp
 obtain⟨L,hL⟩:∃L:Nat->Nat,∀i,L i=(xss.take i).flatten.length:=⟨_,fun _=>rfl⟩
 have hL0:L 0=0:=by simp[hL]
 have hLs:∀i y,xss[i]?=some y->L (i+1)=L i+y.length:=by
  intro i y hy
  rw[hL,hL,hst i y hy,List.length_append]
 have hLm:∀i,L i<=sumT xss:=fun i=>by rw[hL];exact hle i
 simp
 refine V.forI (σ:=Unit) xss.length [0,2,9,10] (by simp;exact rfl) (fun i _=>[(11,aI i),(3,aI (L i))]) (fun _ _=>[]) (fun _ _=>True) () (by simp) (by simp[hL0]) ⟨by simp;exact rfl,by simp⟩ ?_ ?_
 ·rintro i-hi -
  have hy:=List.getElem?_eq_getElem hi
  have hs:=hLs i _ hy
  have hl:=hLm (i+1)
  simp[hi,hs]
  omega
 ·rintro - -
  have hl:=hLm xss.length
  simp
  refine (growT_o _ (by omega) (by omega)).s 50 ?_
  intro hd
  simp
  refine V.forL (γ:=Value) xss [2,25,26] (by simp;exact rfl) (fun i _ g=>[(27,aI i),(6,.own 50 g)]) (fun i _ g=>[(50,.seq g 9 1 ((xss.take i).flatten.map rT))]) (fun (_:Unit) (_:List (List UInt8))=>(Except.ok ():Except Unit Unit)) (fun _ _=>True) () hd trivial (by simp) ⟨by simp;exact rfl,by simp⟩ ?_ ?_
  ·rintro i-g y hi hy - -
   have hy':xss[i]?=some y:=by rw[List.getElem?_eq_getElem hi,hy]
   have hs:=hst i _ hy'
   have hl2:=hle (i+1)
   rw[hs,List.length_append]at hl2
   rw[hs]
   generalize (xss.take i).flatten=zs at hl2
   simp[hi,hy]
   omega
  ·rintro-g - -
   simp
theorem Values_fn (xs:List (List UInt8)):CallFn Tryz.prog 232 [aTs xs] (.fn 311 [] [.rptr [.sl (xs.map encT)]]):=by
 refine callFz_of Tryz.func232 rfl Tryz.ntmps232 (rs:=[.tmp 2]) rfl (by kernel_rfl) (by simp) (by kernel_rfl) ?_
 simp
theorem values_iter {I:Nat->Heap->Prop}{l:Nat}(xs:List (List UInt8)) (hx:xs.length<=1000) (hy:∀i v H,xs[i]?=some v->I i H->CallY Tryz.prog l [aT v] H fun r H'=>r=.dat (.bool true)∧I (i+1) H') (H:Heap) (h0:I 0 H) :
  CallS Tryz.prog 311 [.yld l,.rptr [.sl (xs.map encT)]] H fun _ H'=>I xs.length H':=by
 have h:CallS Tryz.prog 311 [.yld l,.rptr [.sl (xs.map encT)]] (rt 1000 H) fun _ H'=>∃H1,I xs.length H1∧subP (rt 1000 H1) H':=by
  refine callS_of Tryz.func311 rfl Tryz.ntmps311 (rs:=[]) rfl (by kernel_rfl) (by simp) (by kernel_rfl) ?_
  simp
  refine V.for' [0,5,6] (fun p=>[(7,.dat (.int .i64 (p.1:Nat)))]) (fun p=>rt 1000 p.2)
   (fun p:Nat×Heap=>p.1<=xs.length∧I p.1 p.2) (fun p=>xs.length-p.1) (0,H) ⟨by simp[h0],by simp,subP.refl _⟩ ?_
  rintro⟨i,H2⟩ ⟨hi,hinv⟩
  simp only at hi hinv
  by_cases hlt:i<xs.length
  ·obtain⟨y,hy1⟩:∃y,xs[i]'hlt=y:=⟨_,rfl⟩
   have hy0:xs[i]?=some y:=by rw[List.getElem?_eq_getElem hlt,hy1]
   simp[hlt,hy1]
   refine (hy i y H2 hy0 hinv).rt.mono ?_
   rintro r H' ⟨H1,rfl,rfl,hk⟩
   simp
   exact⟨by omega,i+1,H1,⟨hlt,hk⟩,by omega,by simp,subP.refl _⟩
  ·have hie:i=xs.length:=by omega
   subst hie
   simp
   exact⟨H2,hinv,subP.refl _⟩
 exact CallS.rt (k:=1000) (CallS.dropP h fun r H' ⟨H1,h1,h2⟩=>⟨_,h2,_,rfl,h1⟩)
theorem values_apd (xs:List (List UInt8)) (hx:xs≠[]) (hl:xs.length<=1000) {l b2:Nat}{e0:Ent}{K:A->Heap->Prop}
  (h1:∀v,CallY Tryz.prog l [aT v] [(99,e0),(2,.box b2 [.nils])] fun r H'=>r=.dat (.bool true)∧∃g,H'=[(99,e0),(11,.seq g 9 1 [rT v]),(2,.box b2 [.own 11 g])])
  (h2:∀(zs:List (List UInt8)) (g:Value) (v:List UInt8),zs.length<1000->CallY Tryz.prog l [aT v] [(99,e0),(11,.seq g 9 1 (zs.map rT)),(2,.box b2 [.own 11 g])] fun r H'=>r=.dat (.bool true)∧∃g,H'=[(99,e0),(11,.seq g 9 1 ((zs++[v]).map rT)),(2,.box b2 [.own 11 g])])
  (hk:∀r g,K r [(99,e0),(11,.seq g 9 1 (xs.map rT)),(2,.box b2 [.own 11 g])]) :
  CallS Tryz.prog 311 [.yld l,.rptr [.sl (xs.map encT)]] [(99,e0),(2,.box b2 [.nils])] K:=by
 refine (values_iter (I:=fun i H=>(i=0∧H=[(99,e0),(2,.box b2 [.nils])])∨(0<i∧∃g,H=[(99,e0),(11,.seq g 9 1 ((xs.take i).map rT)),(2,.box b2 [.own 11 g])])) xs hl ?_ _ (.inl ⟨rfl,rfl⟩)).mono ?_
 ·rintro i v H hv (⟨rfl,rfl⟩|⟨hi,g,rfl⟩)
  ·have htk:xs.take (0+1)=[v]:=by rw[List.take_add_one,hv];rfl
   rw[htk]
   exact (h1 v).mono fun r H' ⟨a,g,b⟩=>⟨a,.inr ⟨by omega,g,b⟩⟩
  ·have hil:i<xs.length:=(List.getElem?_eq_some_iff.1 hv).1
   have htk:xs.take (i+1)=xs.take i++[v]:=by rw[List.take_add_one,hv];rfl
   have htl:(xs.take i).length=i:=by rw[List.length_take];omega
   rw[htk]
   exact (h2 (xs.take i) g v (by omega)).mono fun r H' ⟨a,g,b⟩=>⟨a,.inr ⟨by omega,g,b⟩⟩
 ·rintro r H' (⟨h0,_⟩|⟨_,g,rfl⟩)
  ·exact absurd (List.length_eq_zero_iff.1 h0) hx
  ·rw[List.take_length]
   exact hk r g
theorem appseq_s (xs:List (List UInt8)) (hx:xs≠[]) (hl:xs.length<=1000):CallOwn Tryz.prog 362 [.nils,.fn 311 [] [.rptr [.sl (xs.map encT)]]] 9 1 (xs.map rT):=by
 refine callO_of Tryz.func362 rfl Tryz.ntmps362 (rs:=[.tmp 4]) rfl (by kernel_rfl) (by simp) (by kernel_rfl) ?_
 simp
 intro b2
 refine V.rangeFunc 99 (p:=True) (first:=[]) (caps:=[.rptr [.sl (xs.map encT)]]) (f:=311) (by simp) trivial fun l=>?_
 refine values_apd xs hx hl (fun v=>callY_of rfl (by kernel_rfl) ?_) (fun zs g v hz=>callY_of rfl (by kernel_rfl) ?_) (fun r g=>.inl ⟨_,rfl,?_⟩)
 ·simp
 ·simp
  omega
 ·simp
theorem collect_o (xs:List (List UInt8)) (hx:xs≠[]) (hl:xs.length<=1000):CallOwn Tryz.prog 310 [.fn 311 [] [.rptr [.sl (xs.map encT)]]] 9 1 (xs.map rT):=by
 refine callO_of Tryz.func310 rfl Tryz.ntmps310 (rs:=[.tmp 2]) rfl (by kernel_rfl) (by simp) (by kernel_rfl) ?_
 simp
 refine (appseq_s xs hx hl).s 50 ?_
 intro hd
 simp
theorem sortT_call:Callable Tryz.prog 269:=⟨_,Tryz.func269,by kernel_rfl,by kernel_rfl⟩
theorem sortT_c {t:Nat}{h:Value}{zs:List (List UInt8)}(hz:zs.length<4611686018427387904):CallS Tryz.prog 269 [.own t h] [(t,.seq h 9 1 (zs.map rT))] fun r H'=>r=.tuple []∧H'=[(t,.seq h 9 1 ((sortT zs).map rT))]:=
 sortT_s sortTLays sortT_call hz
theorem sorted_o (xs:List (List UInt8)) (hx:xs≠[]) (hl:xs.length<=1000):CallOwn Tryz.prog 231 [.fn 311 [] [.rptr [.sl (xs.map encT)]]] 9 1 ((sortT xs).map rT):=by
 refine callO_of Tryz.func231 rfl Tryz.ntmps231 (rs:=[.tmp 2]) rfl (by kernel_rfl) (by simp) (by kernel_rfl) ?_
 simp
 refine (collect_o xs hx hl).s 50 ?_
 intro hd
 simp
 refine (sortT_c (by omega)).mono ?_
 rintro _ _ ⟨rfl,rfl⟩
 simp
def rowLs (k:Nat):List L:=((rowOf k).take 10).map cellL
theorem rowLs_split:∀k,k<14->∃rest,rowOf k=(rowLs k).map A.dat++rest:=cat_cases ⟨⟨_,rfl⟩,⟨_,rfl⟩,⟨_,rfl⟩,⟨_,rfl⟩,⟨_,rfl⟩,⟨_,rfl⟩,⟨_,rfl⟩,⟨_,rfl⟩,⟨_,rfl⟩,⟨_,rfl⟩,⟨_,rfl⟩,⟨_,rfl⟩,⟨_,rfl⟩,⟨_,rfl⟩⟩
theorem rowLs_len:∀k,k<14->(rowLs k).length=10:=cat_cases ⟨rfl,rfl,rfl,rfl,rfl,rfl,rfl,rfl,rfl,rfl,rfl,rfl,rfl,rfl⟩
def cellT:L->List UInt8
 | .str s=>s
 | _=>[]
def cellTs:L->List (List UInt8)
 | .sl r=>r.map fun x=>cellT (x.headD (.int .i64 0))
 | _=>[]
def rowTs (k:Nat):List (List (List UInt8)):=(((rowLs k).drop 2).take 5).map cellTs
theorem rowTs_eq:∀k,k<14->(((rowLs k).drop 2).take 5).map (fun l=>[l])=(rowTs k).map fun xs=>[.sl (xs.map encT)]:=cat_cases ⟨rfl,rfl,rfl,rfl,rfl,rfl,rfl,rfl,rfl,rfl,rfl,rfl,rfl,rfl⟩
theorem rowTs_sum:∀k,k<14->sumT (rowTs k)<=7∧(rowTs k).length=5∧1<=(rowTs k).flatten.length∧(rowTs k).flatten.length<=7:=by
 refine cat_cases ⟨?_,?_,?_,?_,?_,?_,?_,?_,?_,?_,?_,?_,?_,?_⟩
 all_goals decide
def portT (k:Nat):List (List UInt8):=sortT (rowTs k).flatten
theorem Ports_fn (k:Nat) (hk:k<14):CallFn Tryz.prog 185 [aI k] (.tuple [aTs (portT k),aI 0]):=by
 have hf:=find_fn k hk
 have hl:=row_len k hk
 have hcell:=row_cell k hk
 obtain⟨rest,hsp⟩:=rowLs_split k hk
 have hll:=rowLs_len k hk
 have hts:=rowTs_eq k hk
 obtain⟨hs1,hs2,hs3,hs4⟩:=rowTs_sum k hk
 have hcon:=concatT_o (rowTs k) (by omega) (by omega)
 unfold portT
 generalize rowTs k=T at *
 obtain⟨F,hF⟩:∃F,T.flatten=F:=⟨_,rfl⟩
 rw[hF]at hcon hs3 hs4 ⊢
 generalize rowLs k=ls at *
 refine callFz_cut 3 Tryz.func185 rfl Tryz.ntmps185 (rs:=[.tmp 2,.tmp 3]) rfl (by kernel_rfl) (by simp) (by kernel_rfl) ?_
 simp
 refine hf.s ?_
 generalize rowOf k=R at *
 simp
 intro b4
 refine⟨⟨hl,by omega,fun x hx=>?_⟩,?_⟩
 ·have hx2:=List.all_eq_true.1 hcell x hx
  cases x<;>exact hx2
 ·rw[hl]
  simp only[List.drop_succ_cons,List.drop_zero,List.append_nil]
  rw[hsp]
  refine V.cutV [(4,.ptr 4 b4 0),(3,aI 0)] (Hs:=[(4,.box b4 (ls.map A.dat++rest))]) (by simp) (by simp) ?_
  refine V.ofG (Gh.frzPre 4 (τ:=4) (b:=b4) (ls:=ls) (rest:=rest) rfl rfl (Gh.here ?_))
  refine V.seq (V.regD (fun t=>if t=17 then some (.own 9 1 (F.map rT)) else none) [] (fun t=>if t=16 then some (.dat (.sl (((ls.drop 2).take 5).map fun l=>[l]))) else none) ?_)
  dsimp only[List.append,List.toList_toArray]
  have hts2:List.take 5 (List.drop 2 (List.map (fun l=>[l]) ls))=T.map fun xs=>[.sl (xs.map encT)]:=by rw[<- hts,List.map_take,List.map_drop]
  have har:arT Tryz.prog 231=some (5,22):=by kernel_rfl
  have htk0:tk Tryz.prog 22=1:=by kernel_rfl
  have htk:tk Tryz.prog 22≠0:=by rw[htk0];decide
  simp
  refine⟨?_,?_⟩
  ·have e:List.take 5 (List.drop 2 (List.map (fun l=>[l]) ls))=((ls.drop 2).take 5).map fun l=>[l]:=by simp
   rw[e]
   exact sliceArr_ok (t:=231) (x:=.tmp 15) (ls:=ls.drop 2) (n:=5) rfl har htk rfl (by simp;omega)
  rw[hts2]
  refine fun h=>⟨hcon,(sortT_c (by omega)).mono ?_⟩
  rintro _ _ ⟨rfl,rfl⟩
  simp
theorem ports_fn (k:Nat) (hk:k<14) (name:List UInt8) (d:Int):CallFn Tryz.prog 158 [.record [.int .i64 k,.str name,.int .i64 d]] (aTs (sortT (portT k))):=by
 have hp:=Ports_fn k hk
 obtain⟨hs1,hs2,hs3,hs4⟩:=rowTs_sum k hk
 have hl:(portT k).length=(rowTs k).flatten.length:=sortT_len _
 generalize rowTs k=T at *
 refine callFz_of Tryz.func158 rfl Tryz.ntmps158 (rs:=[.tmp 2]) rfl (by kernel_rfl) (by simp) (by kernel_rfl) ?_
 generalize portT k=F at *
 simp
 refine hp.s ?_
 simp
 refine (Values_fn F).s ?_
 simp
 refine (sorted_o F (by rintro rfl;rw[<- hl]at hs3;simp at hs3) (by omega)).s 50 ?_
 intro hd
 simp
end Go.Proofs.YtafamcbdaeppoaaGreatDoor
