/- Texts joined by a program: Fxo,Ks,Kt,Db,Ky,Fxp. -/
import Derived.OrdersIn
import Derived.Test.YtafamcbdaeppoaaGreatDoorE15
import Derived.Test.YtafamcbdaeppoaaGreatDoorE11
import Derived.Test.YtafamcbdaeppoaaGreatDoorE13
set_option linter.unusedSimpArgs false
set_option linter.unusedVariables false
set_option maxHeartbeats 8000000
set_option maxRecDepth 10000
namespace Go.Proofs.YtafamcbdaeppoaaGreatDoor
section
variable {P:Program}
theorem V.forV {C:Cfg}{E:Env}{H:Heap}{Q:PostQ}{c:Code}{σ:Type}{kv:List (Nat×A)}{kh:Heap}(n:Nat) (Lv:List Nat) (hkv:kv=Lv.map fun t=>(t,E t)) (sl:Nat->σ->List (Nat×A)) (Hs:Nat->σ->Heap) (I:Nat->σ->Prop) (s0:σ)
  (hI0:I 0 s0) (hE0:∀p∈sl 0 s0,wk (E p.1) p.2) (hH0:kh=kpH (Hs 0 s0) H∧subN (hcat (Hs 0 s0) kh) H)
  (hb:∀i s,i<n->I i s->V C c (hdE kv (sl i s)) (hcat (Hs i s) kh) (LoopQ Q (Gh fun E' H'=>
   ∃s',I (i+1) s'∧(∀p∈sl (i+1) s',wk (E' p.1) p.2)∧(∀p∈kv,E' p.1=p.2)∧subN (hcat (Hs (i+1) s') kh) H')))
  (he:∀s,I n s->vcC C c (hdE kv (sl n s)) (hcat (Hs n s) kh) (LoopQ Q fun _ _=>False)):V C (.loop c) E H Q:=by
 intro hf x act H0 ms hi hen
 have hhead:∀ {i:Nat}{s:σ}{E':Env}{y:X}{a:Act}{ds:List Deferred},EnvOK C.n ds y a E'->(∀p∈sl i s,wk (E' p.1) p.2)->(∀p∈kv,E' p.1=p.2)->EnvOK C.n ds y a (hdE kv (sl i s)):=by
  intro i s E' y a ds h h1 h2
  refine⟨h.defers,h.size,sets_wk h.slot _ _ h1 (sets_wk h.slot _ _ ?_ fun t=>by simp[anyE,D])⟩
  intro p hp
  rw[h2 p hp]
  simp
 have h00:∀p∈kv,E p.1=p.2:=by
  intro p hp
  rw[hkv]at hp
  obtain⟨t,_,rfl⟩:=List.mem_map.1 hp
  rfl
 have key:W C (.loop c) (hdE kv (sl 0 s0)) (hcat (Hs 0 s0) kh) Q:=by
  refine W.loop (fun m E' H'=>∃i s,i<=n∧I i s∧n-i=m∧E'=hdE kv (sl i s)∧H'=hcat (Hs i s) kh) n ⟨0,s0,Nat.zero_le _,hI0,rfl,rfl,rfl⟩ ?_
  rintro m _ _ ⟨i,s,hin,hI,rfl,rfl,rfl⟩
  rcases Nat.lt_or_ge i n with hlt | hge
  ·have hw:=hb i s hlt hI hf
   intro x act H0 ms hi hen
   refine wpIn_mono (hw x act H0 ms hi hen) ?_
   rintro e a' w' ⟨y,E',H',ms',rfl,hle,hi',he',hq⟩
   cases e with
   | normal=>
    obtain⟨z,E2,H2,w2,l2,i2,e2,s',h1,h3,h4,h5⟩:=hq C.n (ms'.map mk) y a' _ hi' he'
    exact⟨z,_,_,ms',w2,hle.trans l2,subN_inv h5 i2,hhead e2 h3 h4,n-(i+1),by omega,i+1,s',by omega,h1,rfl,rfl,rfl⟩
   | exit k=>exact⟨y,E',H',ms',rfl,hle,hi',he',hq⟩
   | ret=>exact⟨y,E',H',ms',rfl,hle,hi',he',hq⟩
   | goto k=>exact hq.elim
   | panic k=>exact hq.elim
   | outgrown=>exact hq.elim
  ·obtain rfl:i=n:=by omega
   have hw:=vcC_ok c _ _ _ hf (he s hI)
   intro x act H0 ms hi hen
   refine wpIn_mono (hw x act H0 ms hi hen) ?_
   rintro e a' w' ⟨y,E',H',ms',rfl,hle,hi',he',hq⟩
   cases e with
   | normal=>exact hq.elim
   | exit k=>exact⟨y,E',H',ms',rfl,hle,hi',he',hq⟩
   | ret=>exact⟨y,E',H',ms',rfl,hle,hi',he',hq⟩
   | goto k=>exact hq.elim
   | panic k=>exact hq.elim
   | outgrown=>exact hq.elim
 refine key x act H0 ms (subN_inv hH0.2 hi) (hhead hen hE0 h00)
theorem V.blockV {C:Cfg}{id:Nat}{c:Code}{E:Env}{H:Heap}{Q:PostQ}(h:V C c E H (blockQ id Q)):V C (.block id c) E H Q:=by
 intro hf
 simp only[fitsC]at hf
 exact W.block (h hf)
theorem V.part {f:Func}{k:Nat}{c:Code}{C:Cfg}{E:Env}{H:Heap}{Q:PostQ}(h:loopO f k=some c) (hv:V C c E H Q):V C (loopC f k) E H Q:=by
 unfold loopC
 rw[h]
 exact hv
theorem V.of_part {f:Func}{k:Nat}{c:Code}{C:Cfg}{E:Env}{H:Heap}{Q:PostQ}(h:loopO f k=some c) (hv:V C (loopC f k) E H Q):V C c E H Q:=by
 unfold loopC at hv
 rw[h]at hv
 exact hv
end
section
variable {ps:List Prt}{l:List PipeZ}
abbrev nyK (ps:List Prt) (b3 r2:Nat):List (Nat×A):=[(2,.nils),(4,.fn 120 [] [.ptr 170 b3 0]),(10,.map 46 r2),(48,.dat (.sl ((allP ps).map encPo))),(49,aI (allP ps).length)]
abbrev nyH (ps:List Prt) (l:List PipeZ) (b3 r r2:Nat) (us:List (PortZ×PortZ)) (n:Nat) (q:Sq) (lq:List Sq) (g:Value) (hs:List Value):Heap:=
 [(90,sq q),(91,.seqs lq),(50,.seq g 54 1 (hs.map ownR)),(46,.mapK r2 false (atN (rootF l) (allP ps) n))]++upH b3 r us
theorem Inv.famE {x:X}{H:Heap}{t:Nat}(h:Inv x H):Inv x ((t,.seqs [])::H):=by
 refine⟨h.bd,?_,?_,List.pairwise_cons.2 ⟨?_,h.apart⟩⟩
 ·intro p hp
  rcases List.mem_cons.1 hp with rfl | hp
  ·exact⟨by simp,.nil⟩
  ·exact h.sat p hp
 ·intro p hp b hb
  rcases List.mem_cons.1 hp with rfl | hp
  ·obtain⟨q,hq,_⟩:=hb
   cases hq
  ·exact h.own p hp b hb
 ·rintro p hp b ⟨q,hq,_⟩
  cases hq
theorem perm_pick {α:Type}:∀ {L:List α}{k:Nat}{a:α},L[k]?=some a->L.Perm (a::L.eraseIdx k)
 | [],_,_,h=>by simp at h
 | b::L,0,a,h=>by
  simp at h
  subst h
  simp
 | b::L,k+1,a,h=>by
  simp at h
  simp only[List.eraseIdx_cons_succ]
  exact ((perm_pick h).cons b).trans (List.Perm.swap a b _)
theorem perm_set {α:Type}{L:List α}{k:Nat}(hk:k<L.length) (b:α):(b::L.eraseIdx k).Perm (L.set k b):=by
 have h1:=perm_pick (L:=L.set k b) (k:=k) (a:=b) (by simp[hk])
 rw[List.eraseIdx_set_eq]at h1
 exact h1.symm
theorem zip_set {α β γ:Type}(f:α->β->γ):∀(xs:List α) (ys:List β) (k:Nat) (a:α) (b:β),List.zipWith f (xs.set k a) (ys.set k b)=(List.zipWith f xs ys).set k (f a b)
 | [],ys,k,a,b=>by simp
 | a0::xs,[],k,a,b=>by cases k<;>simp
 | a0::xs,b0::ys,0,a,b=>by simp
 | a0::xs,b0::ys,k+1,a,b=>by simp[zip_set f xs ys k a b]
theorem fam_short (f:PortZ->PortZ) (all:List PortZ) (n:Nat) (m:List PortZ) (h:m∈famN f all n):m.length<=all.length:=by
 obtain⟨r,_,rfl⟩:=List.mem_map.1 h
 unfold famR
 refine Nat.le_trans (List.length_filter_le _ _) ?_
 rw[List.length_take]
 omega
abbrev nilV:Value:=.slice none 0 0
theorem inv_newF {x:X}{q:Sq}{lq:List Sq}{g:Value}{e sz:Nat}{hs:List Value}(H0:Heap) (h:Inv x ([(90,sq q),(91,.seqs lq),(50,.seq g e sz (hs.map ownR++[[.nils]]))]++H0)) :
  Inv x ([(90,sq (famQ nilV [])),(91,.seqs (q::lq)),(50,.seq g e sz ((hs++[nilV]).map ownR))]++H0):=by
 have h1:Inv x ([(91,.seqs (q::lq)),(50,.seq g e sz (hs.map ownR++[[.nils]]))]++H0):=inv_shut h
 have h2:=rowNil_inv (τ:=90) (g:=50) (i:=hs.length) (j:=0) (r:=[.nils]) 50 2 rfl (by simp) rfl h1
 simpa [sq]using h2
theorem nz_port {Q:PostQ}{b3 r r2 n:Nat}{us:List (PortZ×PortZ)}{q:Sq}{lq sp:List Sq}{g:Value}{hs:List Value}(hn:n<(allP ps).length) (hfew:ps.length<=64)
  (hcl:∀p,p∈allP ps->rootF l p∈allP ps) (hI:UpR us (rootF l)) (hU:∀u∈us,u.2∈allP ps) (hl:hs.length=(rootsN (rootF l) (allP ps) n).length)
  (hp:(q::lq).Perm (List.zipWith famQ hs (famN (rootF l) (allP ps) n)++sp))
  (hQ:∀q' lq' sp' g' hs',hs'.length=(rootsN (rootF l) (allP ps) (n+1)).length->(q'::lq').Perm (List.zipWith famQ hs' (famN (rootF l) (allP ps) (n+1))++sp') ->
   ∀E' H',(∀z∈[(9,.own 50 g'),(50,aI (n+1:Nat))],wk (E' z.1) z.2)->(∀z∈nyK ps b3 r2,E' z.1=z.2)->subN (nyH ps l b3 r r2 us (n+1) q' lq' g' hs') H'->Q .normal E' H') :
  V ⟨Tryz.prog,none,88⟩ (loopC Tryz.f56 1) (hdE (nyK ps b3 r2) [(9,.own 50 g),(50,aI n)]) (nyH ps l b3 r r2 us n q lq g hs) Q:=by
 obtain⟨x,hx⟩:∃x,(allP ps)[n]=x:=⟨_,rfl⟩
 have hxo:(allP ps)[n]?=some x:=by rw[List.getElem?_eq_getElem hn,hx]
 have hxm:=List.mem_of_getElem? hxo
 have hu:∀u∈us,okK u.2:=fun u hu=>okK_port (by omega) (hU u hu)
 have c1:=root_s hI hu x (okK_port (by omega) hxm) b3 r
 have hsort:(allP ps).Pairwise fun a b=>beforeZ a b=true:=allN_sorted ps _
 have hro:=rootF_ok l
 have hf:=hcl x hxm
 have okf:=okK_port (ps:=ps) (by omega) hf
 have hlen:=allN_len ps ps.length
 have hall:(allP ps).length<=448:=by
  unfold allP
  omega
 have hrl:(rootsN (rootF l) (allP ps) n).length<=448:=by
  refine Nat.le_trans (List.length_filter_le _ _) ?_
  rw[List.length_take]
  omega
 have hnew:=@fam_new (rootF l) (allP ps) n x hsort hxo
 have hold:=@fam_old (rootF l) (allP ps) n x hsort hxo
 have hrn:=@roots_new (rootF l) (allP ps) n x hxo
 have hrd:=@roots_old (rootF l) (allP ps) n x hxo
 have han:=@at_new (rootF l) (allP ps) n x hxo
 have had:=@at_old (rootF l) (allP ps) n x hxo
 have hfl:=famN_len (rootF l) (allP ps) n
 have hle:=hro.le
 have hid:=hro.idem x
 refine V.part rfl (V.seqV (V.of_vc ?_))
 simp[hn]
 refine V.seqV (V.condV ?_)
 simp
 refine V.of_vc ?_
 simp
 refine V.seqV (V.blockV (V.of_vcN 2 ?_))
 simp[hn,hx,hxo]
 intro b12
 refine (c1.frameL (H1:=[_,_,_,_,_])).mono ?_
 rintro _ _ ⟨_,⟨rfl,rfl⟩,rfl⟩
 simp
 intro b13
 refine V.seqV (V.seqV (V.of_vc ?_))
 simp
 refine⟨okf,?_⟩
 refine V.seqV (V.of_vc ?_)
 simp
 by_cases hfx:rootF l x=x
 ·obtain⟨h1,h2⟩:=hnew hfx hle
  rw[hfx]at okf ⊢
  refine V.condV ?_
  simp[h2]
  refine V.seqV (V.of_vc ?_)
  simp
  refine⟨okf,?_⟩
  refine V.cutV ((9,.own 50 g)::(50,aI n)::(12,.ptr 12 b12 0)::(13,.ptr 13 b13 0)::nyK ps b3 r2)
   (Hs:=(13,.box b13 [.dat (.int .i64 x.1),.dat (.str x.2)])::(12,.box b12 [.dat (.int .i64 x.1),.dat (.str x.2)])::[(90,sq q),(91,.seqs lq),(50,.seq g 54 1 (hs.map ownR)),(46,.mapK r2 false (kput (atN (rootF l) (allP ps) n) (x.fst,x.snd) [.int .i64 hs.length]))]++upH b3 r us) (by simp[h2]) (by simp) ?_
  refine V.regF (fun t=>if t=70 then some .bld else none) [] ?_
  simp
  intro u0 g'
  refine⟨by omega,?_⟩
  have hat:=han hfx h2
  rw[<- hl]at hat
  refine V.cutV ((9,.own 50 g')::(50,aI n)::(12,.ptr 12 b12 0)::(13,.ptr 13 b13 0)::nyK ps b3 r2)
   (Hs:=[(13,.box b13 [.dat (.int .i64 x.1),.dat (.str x.2)]),(12,.box b12 [.dat (.int .i64 x.1),.dat (.str x.2)])]++[(90,sq q),(91,.seqs lq),(50,.seq g' 54 1 (hs.map ownR++[[.nils]]))]++((46,.mapK r2 false (atN (rootF l) (allP ps) (n+1)))::upH b3 r us)) (by simp) (by simp[hat]) ?_
  refine V.inv (Inv.mid (C:=[_,_]) (D:=(46,_)::upH b3 r us) fun y H0=>inv_newF H0) ?_
  have hkg:kget (atN (rootF l) (allP ps) (n+1)) x=some [.int .i64 (hs.length:Nat)]:=by
   rw[<- hat,kget_put,if_pos rfl]
  refine V.drawX (fun _=>none) (by kernel_rfl) (by kernel_rfl) (by simp) ?_
  simp[hkg,sq]
  refine⟨okf,by omega,fun u=>⟨by omega,by kernel_rfl,V.of_vc ?_⟩⟩
  simp
  refine⟨by omega,hQ (famQ u [x]) (q::lq) sp g' (hs++[u]) (by rw[hrn hfx,List.length_append,List.length_append,hl];rfl) ?_ _ _ (by simp) (by simp) (by simp[sq])⟩
  rw[h1,List.zipWith_append (by rw[hfl,hl])]
  simp only[List.zipWith_cons_cons,List.zipWith_nil_left,List.append_assoc]
  exact (hp.cons _).trans List.perm_middle.symm
 ·obtain⟨k,m,h1,h2,h3,h4⟩:=hold hfx (hle x) hid hf
  refine V.condV ?_
  simp[h4]
  refine V.of_vc ?_
  simp
  have hkh:k<hs.length:=by omega
  have hz:(List.zipWith famQ hs (famN (rootF l) (allP ps) n))[k]?=some (famQ hs[k] m):=by
   rw[List.getElem?_zipWith,List.getElem?_eq_getElem hkh,h2]
  refine V.cutV ((9,.own 50 g)::(50,aI n)::(12,.ptr 12 b12 0)::(13,.ptr 13 b13 0)::nyK ps b3 r2)
   (Hs:=[(13,.box b13 [.dat (.int .i64 (rootF l x).1),.dat (.str (rootF l x).2)]),(12,.box b12 [.dat (.int .i64 x.1),.dat (.str x.2)])]++[(90,sq q),(91,.seqs lq)]++((50,.seq g 54 1 (hs.map ownR))::(46,.mapK r2 false (atN (rootF l) (allP ps) n))::upH b3 r us)) (by simp) (by simp) ?_
  refine V.inv (Inv.mid (C:=[_,_]) (D:=(50,_)::(46,_)::upH b3 r us) (B:=[(90,sq (famQ hs[k] m)),(91,.seqs ((List.zipWith famQ hs (famN (rootF l) (allP ps) n)).eraseIdx k++sp))]) fun y H0 h=>inv_other (hp.trans ((perm_pick hz).append_right sp)) h) ?_
  have hko:hs[k]?=some hs[k]:=List.getElem?_eq_getElem hkh
  obtain⟨hk,hhk⟩:∃v,hs[k]=v:=⟨_,rfl⟩
  rw[hhk]at hko ⊢
  have hmm:=fam_short _ _ _ _ (List.mem_of_getElem? h2)
  refine V.drawX (fun _=>none) (by kernel_rfl) (by kernel_rfl) (by simp) ?_
  simp[h4,sq,hkh,hko,hhk]
  refine⟨okf,fun u=>⟨?_,by kernel_rfl,V.of_vc ?_⟩⟩
  ·omega
  ·simp
   have hkz:k<(List.zipWith famQ hs (famN (rootF l) (allP ps) n)).length:=by
    rw[List.length_zipWith,hfl]
    omega
   refine⟨by omega,hQ (famQ u (m++[x])) ((List.zipWith famQ hs (famN (rootF l) (allP ps) n)).eraseIdx k++sp) sp g (hs.set k u) (by rw[hrd hfx,List.length_set,hl]) ?_ _ _ (by simp) (by simp) (by simp[sq,had hfx])⟩
   rw[h3,zip_set]
   exact (perm_set hkz (famQ u (m++[x]))).append_right sp
end
abbrev aNets (ns:List (List PortZ)):A:=.dat (.sl (ns.map fun l=>[.sl (l.map encPo)]))
theorem Gh.fam {Q:Env->Heap->Prop}{E:Env}{g:Value}{e sz:Nat}{q:Sq}{l sp:List Sq}{hs:List Value}{fs:List (List PortZ)}{H:Heap}(hl:hs.length=fs.length)
  (hp:(q::l).Perm (List.zipWith famQ hs fs++sp)) (hq:Q E ([(50,.seq g e sz (fs.map fun l=>[.dat (.sl (l.map encPo))]))]++H)):Gh Q E ([(90,sq q),(91,.seqs l),(50,.seq g e sz (hs.map ownR))]++H):=by
 intro n ds x act H0 hi he
 rw[List.append_assoc]at hi
 obtain⟨y,hw,hle,hi2⟩:=freeze_fam hl hp hi
 exact⟨y,E,_,hw,hle,by rw[List.append_assoc];exact hi2,he.mono hle,hq⟩
theorem rowsD_N (ns:List (List PortZ)):rowsD (ns.map fun l=>([.dat (.sl (l.map encPo))]:List A))=ns.map fun l=>[.sl (l.map encPo)]:=by unfold rowsD;rw[List.map_map];rfl
theorem allD_N (ns:List (List PortZ)):allD (ns.map fun l=>([.dat (.sl (l.map encPo))]:List A))=true:=by simp[allD,isD]
attribute [simp] rowsD_N allD_N
theorem nets_fn (c:Cir) (hc:CirR c):CallFn Tryz.prog 56 [aCi c] (aNets (netsZ c)):=by
 have hkinds:∀p∈c.parts,0<=p.kind∧p.kind<14:=fun p hp=>partE_kindZ (hc.part p hp)
 have hallf:=all_fn c hkinds hc.few
 have hra:=fun p=>@root_all c hc p
 obtain⟨ps,l⟩:=c
 have hfew:=hc.few
 have hmany:=hc.many
 have hroot:=rootF_ok l
 have hinall:∀x∈l,x.1∈allP ps∧x.2∈allP ps:=fun x hx=>⟨mem_allP.2 ⟨(hc.inp x hx).1,(hc.has x hx).1⟩,mem_allP.2 ⟨(hc.inp x hx).2,(hc.has x hx).2⟩⟩
 have hcl:∀i p,p∈allP ps->rootF (l.take i) p∈allP ps:=by
  intro i p hp
  refine ((rootF_ok (l.take i)).closed (fun q=>q∈allP ps) (fun x hx=>?_) p).1 hp
  obtain⟨a,b⟩:=hinall x (List.mem_of_mem_take hx)
  exact⟨fun _=>b,fun _=>a⟩
 have hnets:netsZ ⟨ps,l⟩=famN (rootF l) (allP ps) (allP ps).length:=(famN_all _ _).symm
 have hall448:(allP ps).length<=448:=by
  have:=allN_len ps ps.length
  simp only at hfew
  unfold allP
  omega
 simp only at hfew hmany hallf
 refine callFz_cut 3 Tryz.func56 rfl Tryz.ntmps56 (rs:=[.tmp 2]) rfl (by kernel_rfl) (by simp) (by kernel_rfl) ?_
 simp
 intro b3 r
 refine V.cutIN 1 (Hs:=upH r b3 []) [(1,.rptr (encCi ⟨ps,l⟩)),(2,.nils),(3,.ptr 170 r 0),(4,.fn 120 [] [.ptr 170 r 0])] ?_ ?_ ?_
 ·intro p hp x v hv
  simp only[List.mem_cons,List.not_mem_nil,or_false]at hp
  rcases hp with rfl | rfl | rfl | rfl
  ·simpa using hv
  ·simpa using hv
  ·simpa [D]using hv
  ·simp at hv ⊢
   exact D_fn Ds_i (Ds_c D_tag Ds_i) v hv
 ·intro x H0 hi
  have h1:Inv x ([(170,.box r [.map 16 b3]),(171,.mapK b3 true [])]++H0):=hi.ents (by simp)
  have h2:=Inv.swap (g:=170) (e:=.box r [.map 16 b3]) (e':=.box r [.map 171 b3]) rfl (box_sat (Ds_c D_mtag Ds_i)) (fun _ h=>h) h1
  simpa [encUp]using h2
 ·simp
  refine V.forI (σ:=List (PortZ×PortZ)) l.length [1,2,3,4,19,20] (by simp;exact rfl) (fun i _=>[(21,aI i)]) (fun i us=>upH r b3 us)
   (fun i us=>UpR us (rootF (l.take i))∧∀u∈us,u.2∈allP ps) [] ⟨upR_nil,by simp⟩ (by simp) ⟨by simp;exact rfl,by simp[encUp]⟩ ?_ ?_
  ·rintro i us hi ⟨hI,hU⟩
   exact vc_of_part rfl (nz_pipe hi hmany (by omega) hinall (hcl i) hI hU fun us' h1 h2 E' H' q1 q2 q3=>⟨us',⟨h1,h2⟩,by simpa using q1,q2,by simpa using q3⟩)
  ·rintro us ⟨hI,hU⟩
   rw[List.take_length]at hI
   simp
   refine V.of_vc ?_
   simp
   intro r2
   refine hallf.s ?_
   simp
   refine V.inv (H':=nyH ps l r b3 r2 us 0 (famQ nilV []) [] nilV []) ?_ ?_
   ·intro x H0 hi
    have h1:=Inv.nil (t:=90) (e:=.seq nilV 50 2 []) (Inv.famE (t:=91) (Inv.nil (t:=50) (e:=.seq nilV 54 1 []) hi ⟨rfl,rfl⟩)) ⟨rfl,rfl⟩
    simpa [sq,atN,rootsN]using h1
   refine V.gh ?_
   refine V.forV (σ:=Sq×List Sq×List Sq×Value×List Value) (allP ps).length [2,4,10,48,49] (by simp;exact rfl) (fun n s=>[(9,.own 50 s.2.2.2.1),(50,aI n)]) (fun n s=>nyH ps l r b3 r2 us n s.1 s.2.1 s.2.2.2.1 s.2.2.2.2)
    (fun n s=>s.2.2.2.2.length=(rootsN (rootF l) (allP ps) n).length∧(s.1::s.2.1).Perm (List.zipWith famQ s.2.2.2.2 (famN (rootF l) (allP ps) n)++s.2.2.1)) (famQ nilV [],[],[famQ nilV []],nilV,[]) ⟨by simp[rootsN],by simp⟩ (by simp) ⟨by simp;exact rfl,by simp⟩ ?_ ?_
   ·rintro n ⟨q,lq,sp,g,hs⟩ hn ⟨h1,h2⟩
    refine V.of_part rfl (nz_port (sp:=sp) hn hfew (fun p hp=>?_) hI hU h1 h2 fun q' lq' sp' g' hs' k1 k2 E' H' q1 q2 q3=>Gh.here ⟨(q',lq',sp',g',hs'),⟨k1,k2⟩,q1,?_,?_⟩)
    ·have:=hcl l.length p hp
     rwa [List.take_length]at this
    ·simpa using q2
    ·simpa using q3
   ·rintro⟨q,lq,sp,g,hs⟩ ⟨h1,h2⟩
    simp only at h1 h2
    simp
    refine Gh.fam (H:=[_,_,_]) (by rw[h1,famN_len]) h2 ?_
    simp[hnets]
theorem Nets_fn (c:Cir) (hs:c.parts.length<=64->∀p∈c.parts,p.name.length<=1000) (hl:Sh c.parts) (hl2:Sh c.pipes):CallFn Tryz.prog 13 [aCi c] (.tuple [aNets (if cirE c=0 then netsZ c else []),aI (cirE c)]):=by
 have hch:=CheckZ_fn c hs hl hl2
 have hn:=fun h=>nets_fn c (cirR_of h)
 obtain⟨ps,l⟩:=c
 refine callFz_of Tryz.func13 rfl Tryz.ntmps13 (rs:=[.tmp 2,.tmp 3]) rfl (by kernel_rfl) (by simp) (by kernel_rfl) ?_
 simp
 refine hch.s ?_
 by_cases h:cirE ⟨ps,l⟩=0
 ·simp[h]
  refine (hn h).s ?_
  simp[h]
 ·simp[h]
theorem CallS.rt' {P:Program}{k:Nat}{g:FuncId}{az:List A}{H:Heap}{K:A->Heap->Prop}(h:CallS P g az H K):CallS P g az (Go.Proofs.YtafamcbdaeppoaaGreatDoor.rt k H) fun r H'=>∃H2,H'=Go.Proofs.YtafamcbdaeppoaaGreatDoor.rt k H2∧K r H2:=by
 refine⟨h.1,fun x args H0 hi hd=>(h.2 x args H0 (hi.ents (by simp[rt_snd])) hd).mono ?_⟩
 rintro _ _ ⟨y,v,r,H',a,b,c,d,e,g⟩
 exact⟨y,v,r,Go.Proofs.YtafamcbdaeppoaaGreatDoor.rt k H',a,b,c,d.ents (by simp[rt_snd]),e,H',rfl,g⟩
theorem get!_list (s:List UInt8) (i:Nat) (h:i<s.length):(ByteArray.mk s.toArray).get! i=s[i]:=by
 simp[ByteArray.get!,h]
theorem decode_ascii {s:List UInt8}{i:Nat}(h:i<s.length) (hb:s[i].toNat<128):Utf8.decode ⟨s.toArray⟩ i=(s[i].toNat,1):=by
 simp[Utf8.decode,get!_list s i h,hb]
theorem decode_high {s:List UInt8}{i:Nat}(h:i<s.length) (hb:128<=s[i].toNat):128<=(Utf8.decode ⟨s.toArray⟩ i).1∧(Utf8.decode ⟨s.toArray⟩ i).1<=1114111:=by
 have hv:∀c:Nat,Utf8.valid c=true->c<=1114111:=by
  intro c hc
  simp[Utf8.valid]at hc
  omega
 have hlt:s[i].toNat<256:=s[i].toNat_lt
 simp only[Utf8.decode,Nat.add_zero,get!_list s i h,Utf8.runeError]
 rw[if_neg (by omega)]
 split
 ·split<;>simp<;>omega
 ·split
  ·split
   ·rename_i h1
    simp only[Bool.and_eq_true,decide_eq_true_eq]at h1
    exact⟨by simp only[];omega,hv _ h1.2⟩
   ·simp
  ·split
   ·split
    ·rename_i h1
     simp only[Bool.and_eq_true,decide_eq_true_eq]at h1
     exact⟨by simp only[];omega,hv _ h1.2⟩
    ·simp
   ·simp
theorem indexFuncS_fn (s:List UInt8) (hs:Sh s) (p:Int->Bool) (hp:∀r,128<=r->p r=true) (f:FuncId) (first caps:List A)
  (hf:∀r,0<=r->r<=1114111->CallFn Tryz.prog f (first++[.dat (.int .i32 r)]++caps) (aB (p r))) :
  CallFn Tryz.prog 397 [aT s,.fn f first caps,aB true] (aI (idxI (s.findIdx? fun b=>p b.toNat))):=by
 refine callFz_of Tryz.func397 rfl Tryz.ntmps397 (rs:=[.tmp 6]) rfl (by kernel_rfl) (by simp) (by kernel_rfl) ?_
 simp
 intro b
 refine V.forI (σ:=Unit) s.length [1,2,10] (by simp;exact rfl) (fun _ _=>[]) (fun i _=>[(10,.raw b (.stringIter ⟨s.toArray⟩ i))]) (fun i _=>NoF (fun b:UInt8=>p b.toNat) (s.take i)) () (by simp) (by simp) ⟨by simp;exact rfl,by simp⟩ ?_ ?_
 ·rintro i-hi hI
  have h1:=List.getElem?_eq_getElem hi
  have hs1:=findIdx_step (p:=fun b:UInt8=>p b.toNat) hI h1
  have hsz:i<(ByteArray.mk s.toArray).size:=by simpa [ByteArray.size]using hi
  rcases Nat.lt_or_ge s[i].toNat 128 with hb | hb
  ·have hd:=decode_ascii hi hb
   have hc:=hf s[i].toNat (by omega) (by omega)
   simp at hc
   simp[hsz,hd]
   refine hc.s ?_
   cases e:p s[i].toNat
   ·simp
    exact hs1.1 e
   ·rw[hs1.2 e]
    simp
  ·have hd:=decode_high hi hb
   have hc:=hf (Utf8.decode ⟨s.toArray⟩ i).1 (by omega) (by omega)
   have e1:=hp (Utf8.decode ⟨s.toArray⟩ i).1 (by omega)
   have e2:=hp s[i].toNat (by omega)
   simp at hc
   simp[hsz]
   refine hc.s ?_
   rw[e1,hs1.2 e2]
   simp
 ·rintro-hI
  rw[findIdx_none hI]
  have hsz:¬s.length<(ByteArray.mk s.toArray).size:=by simp[ByteArray.size]
  simp[hsz]
theorem IndexFuncS_fn (s:List UInt8) (hs:Sh s) (p:Int->Bool) (hp:∀r,128<=r->p r=true) (f:FuncId) (first caps:List A)
  (hf:∀r,0<=r->r<=1114111->CallFn Tryz.prog f (first++[.dat (.int .i32 r)]++caps) (aB (p r))) :
  CallFn Tryz.prog 368 [aT s,.fn f first caps] (aI (idxI (s.findIdx? fun b=>p b.toNat))):=by
 refine callFz_of Tryz.func368 rfl Tryz.ntmps368 (rs:=[.tmp 4]) rfl (by kernel_rfl) (by simp) (by kernel_rfl) ?_
 simp
 refine (indexFuncS_fn s hs p hp f first caps hf).s ?_
 simp
theorem ContainsFuncS_fn (s:List UInt8) (hs:Sh s) (p:Int->Bool) (hp:∀r,128<=r->p r=true) (f:FuncId) (first caps:List A)
  (hf:∀r,0<=r->r<=1114111->CallFn Tryz.prog f (first++[.dat (.int .i32 r)]++caps) (aB (p r))) :
  CallFn Tryz.prog 324 [aT s,.fn f first caps] (aB (s.any fun b=>p b.toNat)):=by
 refine callFz_of Tryz.func324 rfl Tryz.ntmps324 (rs:=[.tmp 4]) rfl (by kernel_rfl) (by simp) (by kernel_rfl) ?_
 simp
 refine (IndexFuncS_fn s hs p hp f first caps hf).s ?_
 simp
 rw[idxI_ge,List.findIdx?_isSome]
def badR (r:Int):Bool:=decide (122<r) || !partI r
theorem badR_fn (r:Int) (h0:0<=r) (h1:r<=1114111):CallFn Tryz.prog 325 [.dat (.int .i32 r)] (aB (badR r)):=by
 refine callFz_of Tryz.func325 rfl Tryz.ntmps325 (rs:=[.tmp 2]) rfl (by kernel_rfl) (by simp) (by kernel_rfl) ?_
 simp[reads]
 refine⟨by omega,GCall.fn (aB (partI r)) (fun h=>⟨by omega,part_fn r h0 (by omega)⟩) ?_⟩
 simp[reads,badR]
def wordS (s:List UInt8):Bool:=match s with
 | []=>false
 | b::_=>decide (97<=b.toNat)&&decide (b.toNat<=122)&&s.all partB
def nameE (s:List UInt8) (seen:List (List UInt8)):Int:=if wordS s=false then 3 else if s.length>24 then 17 else if s∈seen then 7 else 0
theorem badR_part (b:UInt8):badR b.toNat = !partB b:=by
 simp only[badR,partI,partB]
 have:=b.toNat_lt
 rw[Bool.eq_iff_iff]
 simp
 omega
theorem all_bad (s:List UInt8):(s.any fun b=>badR b.toNat) = !s.all partB:=by
 simp only[badR_part]
 induction s with
 | nil=>rfl
 | cons b s ih=>simp[ih]
def mapOf (names:List (List UInt8)):List (L×L):=names.zipIdx.map fun p=>(.str p.1,.int .i64 p.2)
theorem mget_of_aux (s:List UInt8):∀(names:List (List UInt8)) (k:Nat),mget ((names.zipIdx k).map fun p=>(L.str p.1,L.int .i64 p.2)) (.str s)=(names.findIdx? (·==s)).map fun i=>.int .i64 (i+k:Nat)
 | [],_=>rfl
 | n::ns,k=>by
  simp only[List.zipIdx_cons,List.map_cons,mget,leq,List.findIdx?_cons]
  by_cases h:n=s
  ·simp[h]
  ·simp only[beq_iff_eq,h,if_false,mget_of_aux s ns (k+1)]
   cases ns.findIdx? (·==s)<;>simp
   omega
theorem mget_of (names:List (List UInt8)) (s:List UInt8):mget (mapOf names) (.str s)=(names.findIdx? (·==s)).map fun i=>.int .i64 i:=by
 have:=mget_of_aux s names 0
 simpa [mapOf]using this
theorem mput_of_aux (s:List UInt8) (v:L):∀(names:List (List UInt8)) (k:Nat),s∉names->mput ((names.zipIdx k).map fun p=>(L.str p.1,L.int .i64 p.2)) (.str s) v=(names.zipIdx k).map (fun p=>(L.str p.1,L.int .i64 p.2))++[(.str s,v)]
 | [],_,_=>rfl
 | n::ns,k,h=>by
  simp only[List.mem_cons,not_or]at h
  simp only[List.zipIdx_cons,List.map_cons,mput,leq,beq_iff_eq,Ne.symm h.1,if_false,mput_of_aux s v ns (k+1) h.2,List.cons_append]
theorem mput_of {names:List (List UInt8)}{s:List UInt8}(h:s∉names):mput (mapOf names) (.str s) (.int .i64 names.length)=mapOf (names++[s]):=by
 have:=mput_of_aux s (.int .i64 names.length) names 0 h
 simp only[mapOf,this,List.zipIdx_append,List.map_append]
 simp
@[simp] theorem mapOf_length (names:List (List UInt8)):(mapOf names).length=names.length:=by simp[mapOf]
abbrev encDr (d:Drv):List L:=[.int .i64 (d.1:Nat),.int .i64 (d.2:Nat)]
abbrev aNs (xs:List Nat):A:=.dat (.sl (xs.map fun n:Nat=>[.int .i64 (n:Int)]))
structure PlS where
 ps:List Prt
 l:List PipeZ
 ns:List (List PortZ)
 m1:Nat
 m2:Nat
 b:Nat
 dr:A
 od:A
 bu:A
 va:A
 oE:List (KeyK×List L)
 lE:List (L×L)
abbrev PlS.cells (s:PlS):List A:=[.dat (.sl (s.ps.map encPa)),.dat (.sl (s.l.map encPi)),aNets s.ns,.map 171 s.m1,s.dr,s.od,s.bu,s.va,.map 172 s.m2]
abbrev PlS.hp (s:PlS):Heap:=[(170,.box s.b s.cells),(171,.mapK s.m1 false s.oE),(172,.map s.m2 (.int .i64) s.lE)]
structure PlS.OK (s:PlS):Prop where
 few:s.ps.length<=64
 kinds:∀p∈s.ps,0<=p.kind∧p.kind<14
 nets:s.ns.length<=448
 net:∀l∈s.ns,l.length<=448∧l≠[]∧∀p∈l,p∈allP s.ps
 of:∀p∈allP s.ps,kget s.oE p=some [.int .i64 (netW s.ns p:Nat)]∧netW s.ns p<s.ns.length
theorem idxM_s (xs:List Int) (p:Int->Bool) (f:FuncId) (first caps:List A) (H:Heap) (hx:Sh xs) (hp:∀n∈xs,CallS Tryz.prog f (first++[aI n]++caps) H fun r H'=>r=aB (p n)∧H'=H) :
  CallS Tryz.prog 156 [aIs xs,.fn f first caps] H fun r H'=>r=aI (idxI (xs.findIdx? p))∧H'=H:=by
 refine CallS.rt (k:=1000) (CallS.dropP (callS_of Tryz.func156 rfl Tryz.ntmps156 (rs:=[.tmp 4]) rfl (by kernel_rfl) (by simp) (by kernel_rfl) (K:=fun r H'=>r=aI (idxI (xs.findIdx? p))∧subP (rt 1000 H) H') ?_) ?_)
 ·simp
  refine V.for' [0,1,7] (fun i:Nat=>[(8,aI i)]) (fun _=>rt 1000 H) (fun i=>i<=xs.length∧NoF p (xs.take i)) (fun i=>xs.length-i) 0 ⟨by simp,by simp,subP.refl _⟩ ?_
  rintro i ⟨hi,hI⟩
  by_cases hlt:i<xs.length
  ·have h1:=List.getElem?_eq_getElem hlt
   have hs:=findIdx_step (p:=p) hI h1
   have hc:=(hp xs[i] (List.getElem_mem hlt)).rt' (k:=1000)
   simp at hc
   simp[hlt,h1]
   refine hc.mono ?_
   rintro r H' ⟨H2,rfl,rfl,rfl⟩
   cases e:p xs[i]
   ·simp
    exact⟨by omega,i+1,⟨hlt,hs.1 e⟩,by omega,by simp,subP.refl _⟩
   ·rw[hs.2 e]
    simp
    exact subP.refl _
  ·obtain rfl:i=xs.length:=by omega
   rw[findIdx_none hI]
   simp
   exact subP.refl _
 ·rintro r H' ⟨rfl,h⟩
  exact⟨_,h,_,rfl,rfl,rfl⟩
theorem idxDr_s (xs:List Drv) (p:Drv->Bool) (f:FuncId) (first caps:List A) (H:Heap) (hx:Sh xs) (hp:∀n∈xs,CallS Tryz.prog f (first++[.record (encDr n)]++caps) H fun r H'=>r=aB (p n)∧H'=H) :
  CallS Tryz.prog 147 [.dat (.sl (xs.map encDr)),.fn f first caps] H fun r H'=>r=aI (idxI (xs.findIdx? p))∧H'=H:=by
 refine CallS.rt (k:=1000) (CallS.dropP (callS_of Tryz.func147 rfl Tryz.ntmps147 (rs:=[.tmp 4]) rfl (by kernel_rfl) (by simp) (by kernel_rfl) (K:=fun r H'=>r=aI (idxI (xs.findIdx? p))∧subP (rt 1000 H) H') ?_) ?_)
 ·simp
  refine V.for' [0,1,7] (fun i:Nat=>[(8,aI i)]) (fun _=>rt 1000 H) (fun i=>i<=xs.length∧NoF p (xs.take i)) (fun i=>xs.length-i) 0 ⟨by simp,by simp,subP.refl _⟩ ?_
  rintro i ⟨hi,hI⟩
  by_cases hlt:i<xs.length
  ·have h1:=List.getElem?_eq_getElem hlt
   have hs:=findIdx_step (p:=p) hI h1
   have hc:=(hp xs[i] (List.getElem_mem hlt)).rt' (k:=1000)
   simp at hc
   simp[hlt,h1]
   refine hc.mono ?_
   rintro r H' ⟨H2,rfl,rfl,rfl⟩
   cases e:p xs[i]
   ·simp
    exact⟨by omega,i+1,⟨hlt,hs.1 e⟩,by omega,by simp,subP.refl _⟩
   ·rw[hs.2 e]
    simp
    exact subP.refl _
  ·obtain rfl:i=xs.length:=by omega
   rw[findIdx_none hI]
   simp
   exact subP.refl _
 ·rintro r H' ⟨rfl,h⟩
  exact⟨_,h,_,rfl,rfl,rfl⟩
theorem driven1_fn (d:Drv) (i:Nat):CallFn Tryz.prog 148 [.record (encDr d),.rptr [.int .i64 (i:Int)]] (aB (d.2==i)):=by
 refine callFz_of Tryz.func148 rfl Tryz.ntmps148 (rs:=[.tmp 3]) rfl (by kernel_rfl) (by simp) (by kernel_rfl) ?_
 simp
 rw[Bool.eq_iff_iff]
 simp only[beq_iff_eq]
 omega
theorem kind_s {s:PlS}(h:s.OK) {i:Nat}(hi:i<s.ps.length):CallS Tryz.prog 90 [.ptr 170 s.b 0,aI i] s.hp fun r H'=>r=aI (kindOf s.ps i)∧H'=s.hp:=by
 obtain⟨p,hp⟩:∃p,s.ps[i]=p:=⟨_,rfl⟩
 have hpo:s.ps[i]?=some p:=by rw[List.getElem?_eq_getElem hi,hp]
 have hk:=h.kinds p (List.mem_of_getElem? hpo)
 have hko:((kindOf s.ps i:Nat):Int)=p.kind:=by
  unfold kindOf
  rw[hpo]
  simp only
  omega
 refine callS_of Tryz.func90 rfl Tryz.ntmps90 (rs:=[.tmp 4]) rfl (by kernel_rfl) (by simp) (by kernel_rfl) ?_
 simp[hi,hp,hpo,hko]
theorem driven_s {s:PlS}(h:s.OK) {d:List Drv}(hd:s.dr=.dat (.sl (d.map encDr))) (hdl:d.length<=1000) (i:Nat):CallS Tryz.prog 73 [.ptr 170 s.b 0,aI i] s.hp fun r H'=>r=aI (idxI (drivenZ d i))∧H'=s.hp:=by
 have hix:=idxDr_s d (fun q=>q.2==i) 148 [] [.rptr [.int .i64 (i:Int)]] s.hp (by unfold Sh;omega) fun q hq=>by
  have:=driven1_fn q i
  exact this.s ⟨rfl,rfl⟩
 refine callS_of Tryz.func73 rfl Tryz.ntmps73 (rs:=[.tmp 4]) rfl (by kernel_rfl) (by simp) (by kernel_rfl) ?_
 simp[hd]
 refine hix.mono ?_
 rintro _ _ ⟨rfl,rfl⟩
 simp[drivenZ]
theorem idxPo_fn (xs:List PortZ) (p:PortZ) (hx:Sh xs):CallFn Tryz.prog 64 [.dat (.sl (xs.map encPo)),.record (encPo p)] (aI (idxI (xs.findIdx? (p==·)))):=by
 obtain⟨p1,p2⟩:=p
 refine callFz_of Tryz.func64 rfl Tryz.ntmps64 (rs:=[.tmp 4]) rfl (by kernel_rfl) (by simp) (by kernel_rfl) ?_
 simp
 refine V.forI (σ:=Unit) xs.length [0,3,7] (by simp;exact rfl) (fun i _=>[(8,aI i)]) (fun _ _=>[]) (fun i _=>NoF ((p1,p2)==·) (xs.take i)) () (by simp) (by simp) ⟨by simp;exact rfl,by simp⟩ ?_ ?_
 ·rintro i-hi hI
  obtain⟨x,hxe⟩:∃x,xs[i]=x:=⟨_,rfl⟩
  have hxo:xs[i]?=some x:=by rw[List.getElem?_eq_getElem hi,hxe]
  have hs:=findIdx_step (p:=((p1,p2)==·)) hI hxo
  obtain⟨x1,x2⟩:=x
  simp[hi,hxe,hxo]
  refine V.drawX (fun _=>none) (by kernel_rfl) (by kernel_rfl) (by simp) ?_
  simp[hi,hxe,hxo]
  by_cases e:p1=x1∧p2=x2
  ·obtain⟨rfl,rfl⟩:=e
   rw[hs.2 (by simp)]
   simp[idxI]
  ·have e2:((p1,p2)==(x1,x2))=false:=by
    simp only[beq_eq_false_iff_ne,ne_eq,Prod.mk.injEq]
    exact e
   refine⟨fun a b=>absurd ⟨a,b⟩ e,fun _=>⟨by omega,hs.1 e2⟩⟩
 ·rintro-hI
  rw[findIdx_none hI]
  simp[idxI]
theorem contPo_fn (xs:List PortZ) (p:PortZ) (hx:Sh xs):CallFn Tryz.prog 20 [.dat (.sl (xs.map encPo)),.record (encPo p)] (aB (xs.any (p==·))):=by
 have h:=idxPo_fn xs p hx
 obtain⟨p1,p2⟩:=p
 refine callFz_of Tryz.func20 rfl Tryz.ntmps20 (rs:=[.tmp 4]) rfl (by kernel_rfl) (by simp) (by kernel_rfl) ?_
 simp
 refine h.s ?_
 simp
 rw[idxI_ge,List.findIdx?_isSome]
theorem PlS.OK.at {s:PlS}(h:s.OK) {p:PortZ}(hp:p∈allP s.ps):∃l,s.ns[netW s.ns p]?=some l∧l.length<=448∧l≠[]∧netW s.ns p<s.ns.length∧kget s.oE p=some [.int .i64 (netW s.ns p:Nat)]:=by
 obtain⟨h1,h2⟩:=h.of p hp
 refine⟨s.ns[netW s.ns p],List.getElem?_eq_getElem h2,?_,?_,h2,h1⟩
 ·exact (h.net _ (List.getElem_mem h2)).1
 ·exact (h.net _ (List.getElem_mem h2)).2.1
theorem pair_s {s:PlS}(h:s.OK) {a b:Nat}{t:List UInt8}(hp:((a:Int),t)∈allP s.ps) (hb:b<=1000):CallS Tryz.prog 212 [.ptr 170 s.b 0,aI a,aI b,aT t] s.hp fun r H'=>r=aB (pairZ s.ns a b t)∧H'=s.hp:=by
 obtain⟨l,h1,h2,h3,h4,h5⟩:=h.at hp
 have hok:=okK_port (ps:=s.ps) (by have:=h.few;omega) hp
 have hpz:pairZ s.ns a b t=(decide (l.length=2)&&l.any (((b:Int),t)==·)):=by
  unfold pairZ
  rw[List.getD_eq_getElem?_getD,h1]
  rfl
 rw[hpz]
 have hc:=contPo_fn l ((b:Int),t) (by unfold Sh;omega)
 obtain⟨hl,hl1⟩:=List.getElem?_eq_some_iff.1 h1
 generalize netW s.ns ((a:Int),t)=k at *
 refine callS_of Tryz.func212 rfl Tryz.ntmps212 (rs:=[.tmp 8]) rfl (by kernel_rfl) (by simp) (by kernel_rfl) ?_
 simp
 refine V.drawX (fun _=>none) (by kernel_rfl) (by kernel_rfl) (by simp) ?_
 simp[h5,hl,hl1,h1]
 refine⟨hok,?_⟩
 by_cases e:l.length=2
 ·simp only[e,decide_true,Bool.true_and]
  refine GCall.fn (aB (l.any (((b:Int),t)==·))) (fun h=>⟨h,hc⟩) ?_
  simp
 ·simp only[e,decide_false,Bool.false_and]
  refine GCall.fn (aB (l.any (((b:Int),t)==·))) (fun h=>absurd h (by first | omega | simp[e])) ?_
  simp
  intro h
  omega
section
variable {P:Program}
def FoldR {ι σ δ:Type}(R:σ->ι->Except δ σ->Prop):List ι->σ->Except δ σ->Prop
 | [],s,o=>o=.ok s
 | p::ps,s,o=>∃o1,R s p o1∧match o1 with
  | .ok s1=>FoldR R ps s1 o
  | .error d=>o=.error d
def IterB (P:Program) (B:Heap) (f:FuncId) (first caps:List A) {ι:Type}(items:List ι) (enc:ι->List A):Prop:=
 ∀ {σ δ:Type}(l:Nat) (Hc:σ->Heap) (Hd:δ->Heap) (I:List ι->σ->Prop) (R:σ->ι->Except δ σ->Prop) (s:σ),I items s ->
  (∀s p rest,I (p::rest) s->p∈items->CallY P l (enc p) (B++Hc s) fun r H'=>∃o,R s p o∧(∀s',o=.ok s'->I rest s')∧yK (fun s=>B++Hc s) (fun d=>B++Hd d) o r H') ->
  CallS P f (first++[.yld l]++caps) (B++Hc s) fun _ H'=>∃o,FoldR R items s o∧match o with
   | .ok s'=>H'=B++Hc s'
   | .error e=>H'=B++Hd e
theorem V.rangeFoldB {n:Nat}{E:Env}{H:Heap}{Q:PostQ}{g:Operand}{ps:Array Tmp}{asg body:Code}{p:Prop}{f:FuncId}{first caps:List A}{ι σ δ:Type}{items:List ι}{enc:ι->List A}{B:Heap}
  (τ:Nat) (hg:st (ev E g)=(p,.fn f first caps)) (hp:p) (hit:IterB P B f first caps items enc) (Hb:σ->Heap) (Hx:δ->Heap) (jump:δ->Option Nat) (I:List ι->σ->Prop) (R:σ->ι->Except δ σ->Prop) (s0:σ) (hI0:I items s0)
  (hH:subP (B++Hb s0) H) (hlen:∀p∈items,(enc p).length=ps.size)
  (hbody:∀l s p rest,I (p::rest) s->p∈items->vcC ⟨P,some l,n⟩ asg (bindP ps.toList (enc p) E) (B++Hb s) fun e E' H'=>match e with
   | .normal=>vcC ⟨P,some l,n⟩ body E' H' fun e _ H''=>∃o,R s p o∧(∀s',o=.ok s'->I rest s')∧match o with
    | .ok s'=>e=.normal∧subP (B++Hb s') H''
    | .error d=>e=jX (jump d)∧subP (B++Hx d) H''
   | _=>False)
  (hend:∀o,FoldR R items s0 o->match (generalizing:=false) o with
   | .ok s=>Q .normal E (B++Hb s)
   | .error d=>Q (jX (jump d)) E (B++Hx d)):V ⟨P,none,n⟩ (.rangeFunc g ps asg body) E H Q:=by
 intro hf
 have key:V ⟨P,none,n⟩ (.rangeFunc g ps asg body) E (B++Hb s0) Q:=by
  refine V.rangeFunc τ hg hp fun l=>?_
  have hc:=hit l (fun s=>(τ,.loop l n .ready none ps asg body E)::Hb s) (fun d=>(τ,.loop l n .done (some (jC (jump d))) ps asg body E)::Hx d) I R s0 hI0 ?_
  ·refine (CallS.dropP (hc.perm List.perm_middle) (K':=fun r H'=>∃o,FoldR R items s0 o∧match o with
    | .ok s'=>H'=(τ,.loop l n .ready none ps asg body E)::(B++Hb s')
    | .error d=>H'=(τ,.loop l n .done (some (jC (jump d))) ps asg body E)::(B++Hx d)) ?_).mono ?_
   ·rintro r H' ⟨o,ho,hk⟩
    cases o with
    | ok s=>
     subst hk
     exact⟨_,⟨_,List.Sublist.refl _,List.perm_middle⟩,_,ho,rfl⟩
    | error d=>
     subst hk
     exact⟨_,⟨_,List.Sublist.refl _,List.perm_middle⟩,_,ho,rfl⟩
   ·rintro _ H' ⟨o,ho,hk⟩
    have h2:=hend _ ho
    cases o with
    | ok s=>
     subst hk
     exact .inl ⟨_,rfl,h2⟩
    | error d=>
     subst hk
     simp only at h2
     cases hj:jump d with
     | none=>rw[hj]at h2;exact .inr (.inl ⟨_,rfl,h2⟩)
     | some i=>rw[hj]at h2;exact .inr (.inr ⟨_,i,rfl,h2⟩)
  ·intro s q rest hs hq
   have hb:=hbody l s q rest hs hq
   refine CallY.dropP (K:=fun r H''=>∃o,R s q o∧(∀s',o=.ok s'->I rest s')∧match o with
    | .ok s'=>r=.dat (.bool true)∧∃H3,H''=(τ,.loop l n .ready none ps asg body E)::H3∧subP (B++Hb s') H3
    | .error d=>r=.dat (.bool false)∧∃H3,H''=(τ,.loop l n .done (some (jC (jump d))) ps asg body E)::H3∧subP (B++Hx d) H3) ((callY_of (hlen q hq) hf ?_).perm List.perm_middle.symm) ?_
   ·have hf':=hf
    simp only[fitsC,Bool.and_eq_true]at hf'
    refine vcC_mono asg ?_ hb
    intro e E' H' h
    cases e with
    | normal=>
     refine vcC_mono body ?_ h
     rintro e E'' H'' ⟨o,ho,hoI,h⟩
     cases o with
     | ok s'=>
      obtain⟨rfl,h⟩:=h
      exact⟨_,ho,hoI,rfl,_,rfl,h⟩
     | error d=>
      obtain⟨rfl,h⟩:=h
      cases hj:jump d with
      | none=>exact⟨_,ho,hoI,rfl,_,by rw[hj];rfl,h⟩
      | some i=>exact⟨_,ho,hoI,rfl,_,by rw[hj];rfl,h⟩
    | ret=>exact h
    | exit i=>exact h
    | goto t=>exact h
    | panic c=>exact h
    | outgrown=>exact h
   ·rintro r H'' ⟨o,ho,hoI,hk⟩
    have hmid:∀(e:Nat×Ent) (H1 H3:Heap),subP (B++H1) H3->subP (B++e::H1) (e::H3):=fun e H1 H3 h3=>by
     obtain⟨L,k1,k2⟩:=h3.cc e
     exact⟨L,k1,k2.trans List.perm_middle.symm⟩
    cases o with
    | ok s'=>
     obtain⟨rfl,H3,rfl,h3⟩:=hk
     exact⟨_,hmid _ _ _ h3,_,ho,hoI,rfl,rfl⟩
    | error d=>
     obtain⟨rfl,H3,rfl,h3⟩:=hk
     exact⟨_,hmid _ _ _ h3,_,ho,hoI,rfl,rfl⟩
 intro x act H0 ms hi he
 exact key hf x act H0 ms (subP_inv hH hi) he
theorem CallS.frzKeep {P:Program}{g:FuncId}{az:List A}{H:Heap}{K K':A->Heap->Prop}(h:CallS P g az H K) (hk:∀r H',K r H'->∃Hf Hk:Heap,(Hf++Hk).Perm H'∧(Go.Proofs.YtafamcbdaeppoaaGreatDoor.frz Hf r).1∧K' (Go.Proofs.YtafamcbdaeppoaaGreatDoor.frz Hf r).2 Hk):CallS P g az H K':=by
 refine⟨h.1,fun x args H0 hi hd=>(h.2 x args H0 hi hd).mono ?_⟩
 rintro _ _ ⟨y,v,r,H',rfl,rfl,hle,hi',hv,hkk⟩
 obtain⟨Hf,Hk,hp,h1,h2⟩:=hk r H' hkk
 have hi2:Inv y (Hf++(Hk++H0)):=by
  rw[<- List.append_assoc]
  exact hi'.perm (hp.append_right H0)
 obtain⟨z,hw,hle2,hi3,hok,_⟩:=hi2.freeze
 exact⟨z,v,_,Hk,rfl,hw,hle.trans hle2,hi3,frz_ok hi2 hle2 hw hok r v hv h1,h2⟩
theorem CallS.frzTop {P:Program}{g:FuncId}{az:List A}{H Hk:Heap}{τ:Nat}{e:TypeId}{sz:Nat}{rows:List (List A)}{xs:List (List L)}(hd:allD rows=true) (hx:rowsD rows=xs)
  (h:CallS P g az H fun r H'=>∃hd,r=.own τ hd∧subP ((τ,.seq hd e sz rows)::Hk) H'):CallS P g az H fun r H'=>r=.dat (.sl xs)∧H'=Hk:=by
 have h2:=h.dropP (K':=fun r H'=>∃hd,r=.own τ hd∧H'=(τ,.seq hd e sz rows)::Hk) (fun r H' ⟨a,b,c⟩=>⟨_,c,a,b,rfl⟩)
 refine h2.frzKeep ?_
 rintro r H' ⟨a,rfl,rfl⟩
 refine⟨[(τ,.seq a e sz rows)],Hk,List.Perm.refl _,?_,?_,rfl⟩
 ·simp[Go.Proofs.YtafamcbdaeppoaaGreatDoor.frz,hget,hd]
 ·simp[Go.Proofs.YtafamcbdaeppoaaGreatDoor.frz,hget,hx]
theorem CallY.rtB {P:Program}{k l:Nat}{az:List A}{B:Heap}{σ δ:Type}{Hc:σ->Heap}{Hd:δ->Heap}{s:σ}{W:Except δ σ->Prop}(h:CallY P l az (B++Hc s) fun r H'=>∃o,W o∧yK (fun s=>B++Hc s) (fun d=>B++Hd d) o r H') :
  CallY P l az (B++Go.Proofs.YtafamcbdaeppoaaGreatDoor.rt k (Hc s)) fun r H'=>∃o,W o∧yK (fun s=>B++Go.Proofs.YtafamcbdaeppoaaGreatDoor.rt k (Hc s)) (fun d=>B++Go.Proofs.YtafamcbdaeppoaaGreatDoor.rt k (Hd d)) o r H':=by
 intro x args H0 hi hd
 obtain⟨f,t,a,b,h1,h2⟩:=h x args H0 (hi.ents (by simp[rt_snd])) hd
 refine⟨f,t,a,b,h1,h2.mono ?_⟩
 rintro _ _ ⟨y,v,r,H',a,b,c,d,e,o,w,g⟩
 cases o with
 | ok s'=>
  obtain⟨g1,g2⟩:=g
  exact⟨y,v,r,B++Go.Proofs.YtafamcbdaeppoaaGreatDoor.rt k (Hc s'),a,b,c,d.ents (by rw[g2];simp[rt_snd]),e,_,w,g1,rfl⟩
 | error e'=>
  obtain⟨g1,g2⟩:=g
  exact⟨y,v,r,B++Go.Proofs.YtafamcbdaeppoaaGreatDoor.rt k (Hd e'),a,b,c,d.ents (by rw[g2];simp[rt_snd]),e,_,w,g1,rfl⟩
theorem IterB.rt {P:Program}{B:Heap}{f:FuncId}{first caps:List A}{ι:Type}{items:List ι}{enc:ι->List A}(k:Nat)
  (h:∀ {σ δ:Type}(l:Nat) (Hc:σ->Heap) (Hd:δ->Heap) (I:List ι->σ->Prop) (R:σ->ι->Except δ σ->Prop) (s:σ),I items s ->
   (∀s p rest,I (p::rest) s->p∈items->CallY P l (enc p) (B++Go.Proofs.YtafamcbdaeppoaaGreatDoor.rt k (Hc s)) fun r H'=>∃o,(R s p o∧∀s',o=.ok s'->I rest s')∧yK (fun s=>B++Go.Proofs.YtafamcbdaeppoaaGreatDoor.rt k (Hc s)) (fun d=>B++Go.Proofs.YtafamcbdaeppoaaGreatDoor.rt k (Hd d)) o r H') ->
   CallS P f (first++[.yld l]++caps) (B++Go.Proofs.YtafamcbdaeppoaaGreatDoor.rt k (Hc s)) fun _ H'=>∃o,FoldR R items s o∧match o with
    | .ok s'=>subP (B++Go.Proofs.YtafamcbdaeppoaaGreatDoor.rt k (Hc s')) H'
    | .error e=>subP (B++Go.Proofs.YtafamcbdaeppoaaGreatDoor.rt k (Hd e)) H'):IterB P B f first caps items enc:=by
 intro σ δ l Hc Hd I R s hI hy
 have h1:=h l Hc Hd I R s hI fun s p rest hs hp=>by
  have h2:=hy s p rest hs hp
  refine CallY.rtB (W:=fun o=>R s p o∧∀s',o=.ok s'->I rest s') (h2.mono ?_)
  rintro r H' ⟨o,a,b,c⟩
  exact⟨o,⟨a,b⟩,c⟩
 refine⟨h1.1,fun x args H0 hi hd=>(h1.2 x args H0 (hi.ents (by simp[rt_snd])) hd).mono ?_⟩
 rintro _ _ ⟨y,v,r,H',a,b,c,d,e,o,ho,g⟩
 cases o with
 | ok s'=>exact⟨y,v,r,B++Hc s',a,b,c,(subP_inv g d).ents (by simp[rt_snd]),e,_,ho,rfl⟩
 | error e'=>exact⟨y,v,r,B++Hd e',a,b,c,(subP_inv g d).ents (by simp[rt_snd]),e,_,ho,rfl⟩
theorem FoldR.fn {ι σ δ:Type}(step:σ->ι->Except δ σ):∀(l:List ι) (s:σ) (o:Except δ σ),FoldR (fun s p o=>o=step s p) l s o->o=l.foldlM step s
 | [],s,o,h=>h
 | p::l,s,o,h=>by
  obtain⟨o1,rfl,h2⟩:=h
  rw[List.foldlM_cons]
  cases hs:step s p with
  | ok s1=>
   rw[hs]at h2
   exact FoldR.fn step l s1 o h2
  | error d=>
   rw[hs]at h2
   exact h2
theorem CallS.mid {P:Program}{g:FuncId}{az:List A}{H:Heap}{ρ:A}(h:CallS P g az H fun r H'=>r=ρ∧H'=H) (B D:Heap):CallS P g az (B++(H++D)) fun r H'=>r=ρ∧H'=B++(H++D):=by
 refine (h.frame (H1:=D)).frameL.mono ?_
 rintro r H' ⟨_,⟨_,⟨rfl,rfl⟩,rfl⟩,rfl⟩
 exact⟨rfl,rfl⟩
theorem D_nild {x:X}:∀v,D x .nils v->D x (.dat (.sl [])) v:=fun v hv=>by
 simp only[D]at hv
 subst hv
 simp[D,RdL]
theorem wpAny_fw {P:Program}{r:Option Nat}{ops:Array Oper}{Q:Exit->Act->World->Prop}(hnd:(ops.toList.all fun o=>!isDefer o.op)=true) (hp:∀c a w,¬Q (.panic c) a w) (ho:∀a w,¬Q .outgrown a w) :
  ∀(fuel:Nat) (listed:Array Bool) (a:Act) (w:World),wpAny P .any ops Q fuel listed a w->wpAnyIn (fw r) 0 P .any ops Q fuel listed a w:=by
 intro fuel
 induction fuel with
 | zero=>intro listed a w h;exact h
 | succ fuel ih=>
  intro listed a w h
  refine⟨h.1,fun i hi=>?_⟩
  have h2:=h.2 i hi
  unfold wpOp at h2
  unfold wpOpIn
  cases hoi:ops[i]? with
  | none=>
   rw[hoi]at h2
   exact ih _ _ _ h2
  | some o=>
   rw[hoi]at h2
   simp only at h2 ⊢
   by_cases hw:Region.wanted o (yielded ops a.tmps)=true
   ·rw[if_pos hw]at h2 ⊢
    have hmem:o∈ops.toList:=by
     obtain⟨hl,he⟩:=Array.getElem?_eq_some_iff.1 hoi
     rw[<- he]
     simp
    have hdf:isDefer o.op=false:=by simpa using List.all_eq_true.1 hnd o hmem
    have hwp:o.wp P a w (wpAny P .any ops Q fuel (listed.setIfInBounds i true)) Q:=by
     rcases h2 with h2 | ⟨_,a',w',h2⟩
     ·exact h2
     ·exact absurd h2 (ho _ _)
    unfold Oper.wp at hwp
    refine⟨fun _ _=>trivial,?_⟩
    rw[semAt_exec _ _ hdf]
    generalize (execOp a.eval o).run P w=res at hwp ⊢
    cases res with
    | ok nx w'=>
     cases nx<;>simp only[Oper.upon,Oper.uponIn]at hwp ⊢
     ·exact ih _ _ _ hwp
     ·exact ih _ _ _ hwp
     ·refine⟨fun hh=>by simp[fw]at hh,?_⟩
      refine CallsIn.mono (calls_fw hwp ?_) ?_
      ·intro e w' he
       cases e with
       | returned v=>exact⟨v,rfl⟩
       | panicked c=>exact absurd he (hp _ _ _)
       | outgrown=>obtain⟨a',w'',h3⟩:=he;exact absurd h3 (ho _ _)
      ·intro e w' he
       cases e with
       | returned v=>exact ih _ _ _ he
       | panicked c=>exact he
       | outgrown=>exact he
     ·exact ih _ _ _ hwp
     ·refine⟨fun hh=>by simp[fw]at hh,?_⟩
      intro c cs _
      obtain⟨v,w',h3,h4⟩:=hwp c cs
      exact⟨v,w',ih _ _ _ h3,(StepsIn.of_steps h4).mono fun m _=>fenced_wide P m⟩
    | halt x w'=>cases x<;>simp only[Oper.upon,Oper.uponIn]at hwp ⊢<;>exact hwp
   ·rw[if_neg hw]at h2 ⊢
    exact⟨fun _ _=>trivial,ih _ _ _ h2⟩
theorem V.drawR {r:Option Nat}{n:Nat}{id:Nat}{ops:Array Oper}{E:Env}{H:Heap}{Q:PostQ}(ρ:Nat->Option CR) (hnd:(ops.toList.all fun o=>!isDefer o.op)=true) (hm:P.follows .mixedOrders=true) (hd:depB ops.toList=true) (hn:(H.map (·.1)).Nodup)
  (h:vcD P ρ ops.toList 0 [] ops.toList E H fun E' H'=>Q .normal E' H'):V ⟨P,r,n⟩ (.region id ops true) E H Q:=by
 intro hf x act H00 ms hi he
 generalize hH0:marks ms++H00=H0 at hi
 generalize hds:ms.map mk=ds at he
 have hlex:=fun ν=>vcD_lex (P:=P) (E0:=E) (G0:=fun t=>hget t H) (ν:=ν) ops.toList 0 [] E H (by simp) h rfl hn (fun k o hk=>by omega)
 have L:LexOK P ρ ops.toList E (fun t=>hget t H):=⟨hd,fun ν i o ho=>(hlex ν).1 i o (Nat.zero_le _) ho,
  fun ν i j oi oj t hij hoi hoj hc=>(hlex ν).2.1 i j oi oj t (Nat.zero_le _) hij hoi hoj hc⟩
 refine wpIn_mono (Q:=Post n H00 (fun e E H=>match e with
  | .normal=>Q .normal E H
  | _=>False) x) (wpIn_region_any hm (wpAny_fw hnd (by rintro c a w ⟨_,_,_,_,_,_,_,_,hq⟩;exact hq) (by rintro a w ⟨_,_,_,_,_,_,_,_,hq⟩;exact hq) _ _ _ _ ?_)) (by
  rintro e a w ⟨x',E',H',ms',h1,h2,h3,h4,hq⟩
  cases e with
  | normal=>exact⟨x',E',H',ms',h1,h2,h3,h4,hq⟩
  | _=>exact hq.elim)
 have hi':Inv x.drew (H++H0):=hi.grow (X.drew_grow x)
 have he':EnvOK n ds x.drew act E:=he.mono (X.drew_grow x).le
 have hsz:∀k,(Array.replicate ops.size false).getD k false=false:=by
  intro k
  rw[Array.getD_eq_getD_getElem?]
  by_cases hk:k<ops.size
  ·simp[Array.getElem?_replicate,hk]
  ·simp[Array.getElem?_replicate,hk]
 have hfun:(fun k=>(Array.replicate ops.size false).getD k false)=fun _=>false:=funext hsz
 have hee:∀(r:Nat->Option (Prop×A×Option (Nat×Ent))) m,eeS ops.toList E r (fun _=>false) m=E:=by
  intro r m
  induction m with
  | zero=>rfl
  | succ m ih=>simp[eeS,ih]
 have hgg:∀(r:Nat->Option (Prop×A×Option (Nat×Ent))) m,ggS ops.toList (fun t=>hget t H) r (fun _=>false) m=fun t=>hget t H:=by
  intro r m
  induction m with
  | zero=>rfl
  | succ m ih=>simp[ggS,ih]
 have key:=region_any (H0:=H0) (x0:=x) (n:=n) (ds:=ds) (Q:=Post n H00 (fun e E H=>match e with
  | .normal=>Q .normal E H
  | _=>False) x) L (fitsOps_ok hf) (by
   intro ν y a Hc hle hy hey hg
   obtain⟨Hn,q1,q2,q3⟩:=(hlex ν).2.2
   have hsub:∀t e,hget t Hn=some e->hget t Hc=some e:=fun t e ht=>by rw[hg t,q2];exact ht
   exact⟨y,_,Hn,ms,rfl,hle,by rw[hH0];exact subH_inv (subH_of q3 hsub) hy,by rw[hds];exact hey,q1⟩)
  ops.size (Array.replicate ops.size false) (fun _=>(.nilIface,0)) x.drew act H (List.range ops.size) (by simp) List.nodup_range (by intro k;rw[hsz k];simp) (by simp) (by
   rw[hfun];intro j i hj;cases hj) (X.drew_grow x).le hi' (by rw[hfun,hee];exact he') (by intro t;rw[hfun,hgg])
 have key2:wpAny P .any ops (Post n H00 (fun e E H=>match e with
  | .normal=>Q .normal E H
  | _=>False) x) ops.size (Array.replicate ops.size false) act x.drew.w:=by simpa using key
 exact key2
theorem V.drawXR {r:Option Nat}{n:Nat}{id:Nat}{ops:Array Oper}{E:Env}{H:Heap}{Q:PostQ}(ρ:Nat->Option CR) (hnd:(ops.toList.all fun o=>!isDefer o.op)=true) (hm:P.follows .mixedOrders=true) (hd:depB ops.toList=true) (hn:(H.map (·.1)).Nodup)
  (h:vcX P ρ ops.toList 0 [] [] ops.toList E H fun E' H'=>Q .normal E' H'):V ⟨P,r,n⟩ (.region id ops true) E H Q:=
 V.drawR ρ hnd hm hd hn ((vcX_D _ _ _ _ _ _ h).2 [] (by simp))
theorem CallS.frzCell {P:Program}{g:FuncId}{az:List A}{H:Heap}{K K':A->Heap->Prop}(h:CallS P g az H K)
  (hk:∀r H',K r H'->∃(q τ b j t:Nat) (hd:Value) (e sz:Nat) (rows:List (List A)) (cs:List A),hget q (hdel τ H')=some (.box b cs)∧hget τ H'=some (.seq hd e sz rows)∧allD rows=true∧cs[j]?=some (.own t hd) ∧
   K' r (hset q (.box b (cs.set j (.dat (.sl (rowsD rows))))) (hdel τ H'))):CallS P g az H K':=by
 refine⟨h.1,fun x args H0 hi hd=>(h.2 x args H0 hi hd).mono ?_⟩
 rintro _ _ ⟨y,v,r,H',rfl,rfl,hle,hi',hv,hkk⟩
 obtain⟨q,τ,b,j,t,hd,e,sz,rows,cs,h1,h2,h3,h4,h5⟩:=hk r H' hkk
 obtain⟨z,hw,hle2,hi2,hrd⟩:=freeze1 h2 h3 hi'
 have hi3:=hi2.swap (e':=.box b (cs.set j (.dat (.sl (rowsD rows))))) h1 (fun ⟨c,ty,k1,k2⟩=>⟨c,ty,k1,Ds_set (fun v hv=>by simp only[D]at hv ⊢;rw[hv.1];exact hrd) h4 k2⟩) (fun b hb=>hb)
 exact⟨z,v,r,_,rfl,hw,hle.trans hle2,hi3,hv.mono hle2,h5⟩
theorem V.rest {f:Func}{k:Nat}{c:Code}{C:Cfg}{E:Env}{H:Heap}{Q:PostQ}(h:restF f k=some c) (hv:V C c E H Q):V C (restC f k) E H Q:=by
 unfold restC
 rw[h]
 exact hv
theorem V.of_rest {f:Func}{k:Nat}{c:Code}{C:Cfg}{E:Env}{H:Heap}{Q:PostQ}(h:restF f k=some c) (hv:V C (restC f k) E H Q):V C c E H Q:=by
 unfold restC at hv
 rw[h]at hv
 exact hv
end
end Go.Proofs.YtafamcbdaeppoaaGreatDoor
