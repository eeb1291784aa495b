/- Texts joined by a program: Ks,Kt,Ky,Fxp,Kz,Lo,Qa,Oaa,Oc,Ob,Ot,Hla. -/
import Derived.OrdersIn
import Derived.Test.YtafamcbdaeppoaaGreatDoorF25
import Derived.Test.YtafamcbdaeppoaaGreatDoorF11
import Derived.Test.YtafamcbdaeppoaaGreatDoorF23
import Derived.Test.YtafamcbdaeppoaaGreatDoorF21
import Derived.Test.YtafamcbdaeppoaaGreatDoorF19
set_option linter.unusedSimpArgs false
set_option linter.unusedVariables false
set_option maxHeartbeats 8000000
set_option maxRecDepth 100000
namespace Go.Proofs.YtafamcbdaeppoaaGreatDoor
section
variable {ps:List Prt}{l:List PipeZ}
abbrev nyK (ps:List Prt) (b3 r2:Nat):List (Nat×A):=[(2,.nils),(4,.fn 120 [] [.ptr 170 b3 0]),(10,.map 46 r2),(48,.dat (.sl ((allP ps).map encPo))),(49,aI (allP ps).length)]
abbrev nyH (ps:List Prt) (l:List PipeZ) (b3 r r2:Nat) (us:List (PortZ×PortZ)) (n:Nat) (q:Sq) (lq:List Sq) (g:Value) (hs:List Value):Heap:=
 [(90,sq q),(91,.seqs lq),(50,.seq g 54 1 (hs.map ownR)),(46,.mapK r2 false (atN (rootF l) (allP ps) n))]++upH b3 r us
theorem Inv.famE {x:X}{H:Heap}{t:Nat}(h:Inv x H):Inv x ((t,.seqs [])::H):=by
 refine⟨h.bd,?_,?_,List.pairwise_cons.2 ⟨?_,h.apart⟩⟩
 ·intro p hp
  rcases List.mem_cons.1 hp with rfl | hp
  ·exact⟨by simp,.nil⟩
  ·exact h.sat p hp
 ·intro p hp b hb
  rcases List.mem_cons.1 hp with rfl | hp
  ·obtain⟨q,hq,_⟩:=hb
   cases hq
  ·exact h.own p hp b hb
 ·rintro p hp b ⟨q,hq,_⟩
  cases hq
theorem perm_pick {α:Type}:∀ {L:List α}{k:Nat}{a:α},L[k]?=some a->L.Perm (a::L.eraseIdx k)
 | [],_,_,h=>by simp at h
 | b::L,0,a,h=>by
  simp at h
  subst h
  simp
 | b::L,k+1,a,h=>by
  simp at h
  simp only[List.eraseIdx_cons_succ]
  exact ((perm_pick h).cons b).trans (List.Perm.swap a b _)
theorem perm_set {α:Type}{L:List α}{k:Nat}(hk:k<L.length) (b:α):(b::L.eraseIdx k).Perm (L.set k b):=by
 have h1:=perm_pick (L:=L.set k b) (k:=k) (a:=b) (by simp[hk])
 rw[List.eraseIdx_set_eq]at h1
 exact h1.symm
theorem zip_set {α β γ:Type}(f:α->β->γ):∀(xs:List α) (ys:List β) (k:Nat) (a:α) (b:β),List.zipWith f (xs.set k a) (ys.set k b)=(List.zipWith f xs ys).set k (f a b)
 | [],ys,k,a,b=>by simp
 | a0::xs,[],k,a,b=>by cases k<;>simp
 | a0::xs,b0::ys,0,a,b=>by simp
 | a0::xs,b0::ys,k+1,a,b=>by simp[zip_set f xs ys k a b]
theorem fam_short (f:PortZ->PortZ) (all:List PortZ) (n:Nat) (m:List PortZ) (h:m∈famN f all n):m.length<=all.length:=by
 obtain⟨r,_,rfl⟩:=List.mem_map.1 h
 unfold famR
 refine Nat.le_trans (List.length_filter_le _ _) ?_
 rw[List.length_take]
 omega
abbrev nilV:Value:=.slice none 0 0
theorem inv_newF {x:X}{q:Sq}{lq:List Sq}{g:Value}{e sz:Nat}{hs:List Value}(H0:Heap) (h:Inv x ([(90,sq q),(91,.seqs lq),(50,.seq g e sz (hs.map ownR++[[.nils]]))]++H0)) :
  Inv x ([(90,sq (famQ nilV [])),(91,.seqs (q::lq)),(50,.seq g e sz ((hs++[nilV]).map ownR))]++H0):=by
 have h1:Inv x ([(91,.seqs (q::lq)),(50,.seq g e sz (hs.map ownR++[[.nils]]))]++H0):=inv_shut h
 have h2:=rowNil_inv (τ:=90) (g:=50) (i:=hs.length) (j:=0) (r:=[.nils]) 50 2 rfl (by simp) rfl h1
 simpa [sq]using h2
theorem nz_port {Q:PostQ}{b3 r r2 n:Nat}{us:List (PortZ×PortZ)}{q:Sq}{lq sp:List Sq}{g:Value}{hs:List Value}(hn:n<(allP ps).length) (hfew:ps.length<=64)
  (hcl:∀p,p∈allP ps->rootF l p∈allP ps) (hI:UpR us (rootF l)) (hU:∀u∈us,u.2∈allP ps) (hl:hs.length=(rootsN (rootF l) (allP ps) n).length)
  (hp:(q::lq).Perm (List.zipWith famQ hs (famN (rootF l) (allP ps) n)++sp))
  (hQ:∀q' lq' sp' g' hs',hs'.length=(rootsN (rootF l) (allP ps) (n+1)).length->(q'::lq').Perm (List.zipWith famQ hs' (famN (rootF l) (allP ps) (n+1))++sp') ->
   ∀E' H',(∀z∈[(9,.own 50 g'),(50,aI (n+1:Nat))],wk (E' z.1) z.2)->(∀z∈nyK ps b3 r2,E' z.1=z.2)->subN (nyH ps l b3 r r2 us (n+1) q' lq' g' hs') H'->Q .normal E' H') :
  V ⟨Tryz.prog,none,88⟩ (loopC Tryz.f56 1) (hdE (nyK ps b3 r2) [(9,.own 50 g),(50,aI n)]) (nyH ps l b3 r r2 us n q lq g hs) Q:=by
 obtain⟨x,hx⟩:∃x,(allP ps)[n]=x:=⟨_,rfl⟩
 have hxo:(allP ps)[n]?=some x:=by rw[List.getElem?_eq_getElem hn,hx]
 have hxm:=List.mem_of_getElem? hxo
 have hu:∀u∈us,okK u.2:=fun u hu=>okK_port (by omega) (hU u hu)
 have c1:=root_s hI hu x (okK_port (by omega) hxm) b3 r
 have hsort:(allP ps).Pairwise fun a b=>beforeZ a b=true:=allN_sorted ps _
 have hro:=rootF_ok l
 have hf:=hcl x hxm
 have okf:=okK_port (ps:=ps) (by omega) hf
 have hlen:=allN_len ps ps.length
 have hall:(allP ps).length<=448:=by
  unfold allP
  omega
 have hrl:(rootsN (rootF l) (allP ps) n).length<=448:=by
  refine Nat.le_trans (List.length_filter_le _ _) ?_
  rw[List.length_take]
  omega
 have hnew:=@fam_new (rootF l) (allP ps) n x hsort hxo
 have hold:=@fam_old (rootF l) (allP ps) n x hsort hxo
 have hrn:=@roots_new (rootF l) (allP ps) n x hxo
 have hrd:=@roots_old (rootF l) (allP ps) n x hxo
 have han:=@at_new (rootF l) (allP ps) n x hxo
 have had:=@at_old (rootF l) (allP ps) n x hxo
 have hfl:=famN_len (rootF l) (allP ps) n
 have hle:=hro.le
 have hid:=hro.idem x
 refine V.part rfl (V.seqV (V.of_vc ?_))
 simp[hn]
 refine V.seqV (V.condV ?_)
 simp
 refine V.of_vc ?_
 simp
 refine V.seqV (V.blockV (V.of_vcN 2 ?_))
 simp[hn,hx,hxo]
 intro b12
 refine (c1.frameL (H1:=[_,_,_,_,_])).mono ?_
 rintro _ _ ⟨_,⟨rfl,rfl⟩,rfl⟩
 simp
 intro b13
 refine V.seqV (V.seqV (V.of_vc ?_))
 simp
 refine⟨okf,?_⟩
 refine V.seqV (V.of_vc ?_)
 simp
 by_cases hfx:rootF l x=x
 ·obtain⟨h1,h2⟩:=hnew hfx hle
  rw[hfx]at okf ⊢
  refine V.condV ?_
  simp[h2]
  refine V.seqV (V.of_vc ?_)
  simp
  refine⟨okf,?_⟩
  refine V.cutV ((9,.own 50 g)::(50,aI n)::(12,.ptr 12 b12 0)::(13,.ptr 13 b13 0)::nyK ps b3 r2)
   (Hs:=(13,.box b13 [.dat (.int .i64 x.1),.dat (.str x.2)])::(12,.box b12 [.dat (.int .i64 x.1),.dat (.str x.2)])::[(90,sq q),(91,.seqs lq),(50,.seq g 54 1 (hs.map ownR)),(46,.mapK r2 false (kput (atN (rootF l) (allP ps) n) (x.fst,x.snd) [.int .i64 hs.length]))]++upH b3 r us) (by simp[h2]) (by simp) ?_
  refine V.regF (fun t=>if t=70 then some .bld else none) [] ?_
  simp
  intro u0 g'
  refine⟨by omega,?_⟩
  have hat:=han hfx h2
  rw[<- hl]at hat
  refine V.cutV ((9,.own 50 g')::(50,aI n)::(12,.ptr 12 b12 0)::(13,.ptr 13 b13 0)::nyK ps b3 r2)
   (Hs:=[(13,.box b13 [.dat (.int .i64 x.1),.dat (.str x.2)]),(12,.box b12 [.dat (.int .i64 x.1),.dat (.str x.2)])]++[(90,sq q),(91,.seqs lq),(50,.seq g' 54 1 (hs.map ownR++[[.nils]]))]++((46,.mapK r2 false (atN (rootF l) (allP ps) (n+1)))::upH b3 r us)) (by simp) (by simp[hat]) ?_
  refine V.inv (Inv.mid (C:=[_,_]) (D:=(46,_)::upH b3 r us) fun y H0=>inv_newF H0) ?_
  have hkg:kget (atN (rootF l) (allP ps) (n+1)) x=some [.int .i64 (hs.length:Nat)]:=by
   rw[<- hat,kget_put,if_pos rfl]
  refine V.drawX (fun _=>none) (by kernel_rfl) (by kernel_rfl) (by simp) ?_
  simp[hkg,sq]
  refine⟨okf,by omega,fun u=>⟨by omega,by kernel_rfl,V.of_vc ?_⟩⟩
  simp
  refine⟨by omega,hQ (famQ u [x]) (q::lq) sp g' (hs++[u]) (by rw[hrn hfx,List.length_append,List.length_append,hl];rfl) ?_ _ _ (by simp) (by simp) (by simp[sq])⟩
  rw[h1,List.zipWith_append (by rw[hfl,hl])]
  simp only[List.zipWith_cons_cons,List.zipWith_nil_left,List.append_assoc]
  exact (hp.cons _).trans List.perm_middle.symm
 ·obtain⟨k,m,h1,h2,h3,h4⟩:=hold hfx (hle x) hid hf
  refine V.condV ?_
  simp[h4]
  refine V.of_vc ?_
  simp
  have hkh:k<hs.length:=by omega
  have hz:(List.zipWith famQ hs (famN (rootF l) (allP ps) n))[k]?=some (famQ hs[k] m):=by
   rw[List.getElem?_zipWith,List.getElem?_eq_getElem hkh,h2]
  refine V.cutV ((9,.own 50 g)::(50,aI n)::(12,.ptr 12 b12 0)::(13,.ptr 13 b13 0)::nyK ps b3 r2)
   (Hs:=[(13,.box b13 [.dat (.int .i64 (rootF l x).1),.dat (.str (rootF l x).2)]),(12,.box b12 [.dat (.int .i64 x.1),.dat (.str x.2)])]++[(90,sq q),(91,.seqs lq)]++((50,.seq g 54 1 (hs.map ownR))::(46,.mapK r2 false (atN (rootF l) (allP ps) n))::upH b3 r us)) (by simp) (by simp) ?_
  refine V.inv (Inv.mid (C:=[_,_]) (D:=(50,_)::(46,_)::upH b3 r us) (B:=[(90,sq (famQ hs[k] m)),(91,.seqs ((List.zipWith famQ hs (famN (rootF l) (allP ps) n)).eraseIdx k++sp))]) fun y H0 h=>inv_other (hp.trans ((perm_pick hz).append_right sp)) h) ?_
  have hko:hs[k]?=some hs[k]:=List.getElem?_eq_getElem hkh
  obtain⟨hk,hhk⟩:∃v,hs[k]=v:=⟨_,rfl⟩
  rw[hhk]at hko ⊢
  have hmm:=fam_short _ _ _ _ (List.mem_of_getElem? h2)
  refine V.drawX (fun _=>none) (by kernel_rfl) (by kernel_rfl) (by simp) ?_
  simp[h4,sq,hkh,hko,hhk]
  refine⟨okf,fun u=>⟨?_,by kernel_rfl,V.of_vc ?_⟩⟩
  ·omega
  ·simp
   have hkz:k<(List.zipWith famQ hs (famN (rootF l) (allP ps) n)).length:=by
    rw[List.length_zipWith,hfl]
    omega
   refine⟨by omega,hQ (famQ u (m++[x])) ((List.zipWith famQ hs (famN (rootF l) (allP ps) n)).eraseIdx k++sp) sp g (hs.set k u) (by rw[hrd hfx,List.length_set,hl]) ?_ _ _ (by simp) (by simp) (by simp[sq,had hfx])⟩
   rw[h3,zip_set]
   exact (perm_set hkz (famQ u (m++[x]))).append_right sp
end
abbrev aNets (ns:List (List PortZ)):A:=.dat (.sl (ns.map fun l=>[.sl (l.map encPo)]))
theorem Gh.fam {Q:Env->Heap->Prop}{E:Env}{g:Value}{e sz:Nat}{q:Sq}{l sp:List Sq}{hs:List Value}{fs:List (List PortZ)}{H:Heap}(hl:hs.length=fs.length)
  (hp:(q::l).Perm (List.zipWith famQ hs fs++sp)) (hq:Q E ([(50,.seq g e sz (fs.map fun l=>[.dat (.sl (l.map encPo))]))]++H)):Gh Q E ([(90,sq q),(91,.seqs l),(50,.seq g e sz (hs.map ownR))]++H):=by
 intro n ds x act H0 hi he
 rw[List.append_assoc]at hi
 obtain⟨y,hw,hle,hi2⟩:=freeze_fam hl hp hi
 exact⟨y,E,_,hw,hle,by rw[List.append_assoc];exact hi2,he.mono hle,hq⟩
theorem rowsD_N (ns:List (List PortZ)):rowsD (ns.map fun l=>([.dat (.sl (l.map encPo))]:List A))=ns.map fun l=>[.sl (l.map encPo)]:=by unfold rowsD;rw[List.map_map];rfl
theorem allD_N (ns:List (List PortZ)):allD (ns.map fun l=>([.dat (.sl (l.map encPo))]:List A))=true:=by simp[allD,isD]
attribute [simp] rowsD_N allD_N
theorem nets_fn (c:Cir) (hc:CirR c):CallFn Tryz.prog 56 [aCi c] (aNets (netsZ c)):=by
 have hkinds:∀p∈c.parts,0<=p.kind∧p.kind<14:=fun p hp=>partE_kindZ (hc.part p hp)
 have hallf:=all_fn c hkinds hc.few
 have hra:=fun p=>@root_all c hc p
 obtain⟨ps,l⟩:=c
 have hfew:=hc.few
 have hmany:=hc.many
 have hroot:=rootF_ok l
 have hinall:∀x∈l,x.1∈allP ps∧x.2∈allP ps:=fun x hx=>⟨mem_allP.2 ⟨(hc.inp x hx).1,(hc.has x hx).1⟩,mem_allP.2 ⟨(hc.inp x hx).2,(hc.has x hx).2⟩⟩
 have hcl:∀i p,p∈allP ps->rootF (l.take i) p∈allP ps:=by
  intro i p hp
  refine ((rootF_ok (l.take i)).closed (fun q=>q∈allP ps) (fun x hx=>?_) p).1 hp
  obtain⟨a,b⟩:=hinall x (List.mem_of_mem_take hx)
  exact⟨fun _=>b,fun _=>a⟩
 have hnets:netsZ ⟨ps,l⟩=famN (rootF l) (allP ps) (allP ps).length:=(famN_all _ _).symm
 have hall448:(allP ps).length<=448:=by
  have:=allN_len ps ps.length
  simp only at hfew
  unfold allP
  omega
 simp only at hfew hmany hallf
 refine callFz_cut 3 Tryz.func56 rfl Tryz.ntmps56 (rs:=[.tmp 2]) rfl (by kernel_rfl) (by simp) (by kernel_rfl) ?_
 simp
 intro b3 r
 refine V.cutIN 1 (Hs:=upH r b3 []) [(1,.rptr (encCi ⟨ps,l⟩)),(2,.nils),(3,.ptr 170 r 0),(4,.fn 120 [] [.ptr 170 r 0])] ?_ ?_ ?_
 ·intro p hp x v hv
  simp only[List.mem_cons,List.not_mem_nil,or_false]at hp
  rcases hp with rfl | rfl | rfl | rfl
  ·simpa using hv
  ·simpa using hv
  ·simpa [D]using hv
  ·simp at hv ⊢
   exact D_fn Ds_i (Ds_c D_tag Ds_i) v hv
 ·intro x H0 hi
  have h1:Inv x ([(170,.box r [.map 16 b3]),(171,.mapK b3 true [])]++H0):=hi.ents (by simp)
  have h2:=Inv.swap (g:=170) (e:=.box r [.map 16 b3]) (e':=.box r [.map 171 b3]) rfl (box_sat (Ds_c D_mtag Ds_i)) (fun _ h=>h) h1
  simpa [encUp]using h2
 ·simp
  refine V.forI (σ:=List (PortZ×PortZ)) l.length [1,2,3,4,19,20] (by simp;exact rfl) (fun i _=>[(21,aI i)]) (fun i us=>upH r b3 us)
   (fun i us=>UpR us (rootF (l.take i))∧∀u∈us,u.2∈allP ps) [] ⟨upR_nil,by simp⟩ (by simp) ⟨by simp;exact rfl,by simp[encUp]⟩ ?_ ?_
  ·rintro i us hi ⟨hI,hU⟩
   exact vc_of_part rfl (nz_pipe hi hmany (by omega) hinall (hcl i) hI hU fun us' h1 h2 E' H' q1 q2 q3=>⟨us',⟨h1,h2⟩,by simpa using q1,q2,by simpa using q3⟩)
  ·rintro us ⟨hI,hU⟩
   rw[List.take_length]at hI
   simp
   refine V.of_vc ?_
   simp
   intro r2
   refine hallf.s ?_
   simp
   refine V.inv (H':=nyH ps l r b3 r2 us 0 (famQ nilV []) [] nilV []) ?_ ?_
   ·intro x H0 hi
    have h1:=Inv.nil (t:=90) (e:=.seq nilV 50 2 []) (Inv.famE (t:=91) (Inv.nil (t:=50) (e:=.seq nilV 54 1 []) hi ⟨rfl,rfl⟩)) ⟨rfl,rfl⟩
    simpa [sq,atN,rootsN]using h1
   refine V.gh ?_
   refine V.forV (σ:=Sq×List Sq×List Sq×Value×List Value) (allP ps).length [2,4,10,48,49] (by simp;exact rfl) (fun n s=>[(9,.own 50 s.2.2.2.1),(50,aI n)]) (fun n s=>nyH ps l r b3 r2 us n s.1 s.2.1 s.2.2.2.1 s.2.2.2.2)
    (fun n s=>s.2.2.2.2.length=(rootsN (rootF l) (allP ps) n).length∧(s.1::s.2.1).Perm (List.zipWith famQ s.2.2.2.2 (famN (rootF l) (allP ps) n)++s.2.2.1)) (famQ nilV [],[],[famQ nilV []],nilV,[]) ⟨by simp[rootsN],by simp⟩ (by simp) ⟨by simp;exact rfl,by simp⟩ ?_ ?_
   ·rintro n ⟨q,lq,sp,g,hs⟩ hn ⟨h1,h2⟩
    refine V.of_part rfl (nz_port (sp:=sp) hn hfew (fun p hp=>?_) hI hU h1 h2 fun q' lq' sp' g' hs' k1 k2 E' H' q1 q2 q3=>Gh.here ⟨(q',lq',sp',g',hs'),⟨k1,k2⟩,q1,?_,?_⟩)
    ·have:=hcl l.length p hp
     rwa [List.take_length]at this
    ·simpa using q2
    ·simpa using q3
   ·rintro⟨q,lq,sp,g,hs⟩ ⟨h1,h2⟩
    simp only at h1 h2
    simp
    refine Gh.fam (H:=[_,_,_]) (by rw[h1,famN_len]) h2 ?_
    simp[hnets]
theorem Nets_fn (c:Cir) (hs:c.parts.length<=64->∀p∈c.parts,p.name.length<=1000) (hl:Sh c.parts) (hl2:Sh c.pipes):CallFn Tryz.prog 13 [aCi c] (.tuple [aNets (if cirE c=0 then netsZ c else []),aI (cirE c)]):=by
 have hch:=CheckZ_fn c hs hl hl2
 have hn:=fun h=>nets_fn c (cirR_of h)
 obtain⟨ps,l⟩:=c
 refine callFz_of Tryz.func13 rfl Tryz.ntmps13 (rs:=[.tmp 2,.tmp 3]) rfl (by kernel_rfl) (by simp) (by kernel_rfl) ?_
 simp
 refine hch.s ?_
 by_cases h:cirE ⟨ps,l⟩=0
 ·simp[h]
  refine (hn h).s ?_
  simp[h]
 ·simp[h]
abbrev encDr (d:Drv):List L:=[.int .i64 (d.1:Nat),.int .i64 (d.2:Nat)]
abbrev aNs (xs:List Nat):A:=.dat (.sl (xs.map fun n:Nat=>[.int .i64 (n:Int)]))
structure PlS where
 ps:List Prt
 l:List PipeZ
 ns:List (List PortZ)
 m1:Nat
 m2:Nat
 b:Nat
 dr:A
 od:A
 bu:A
 va:A
 oE:List (KeyK×List L)
 lE:List (L×L)
theorem idxM_s (xs:List Int) (p:Int->Bool) (f:FuncId) (first caps:List A) (H:Heap) (hx:Sh xs) (hp:∀n∈xs,CallS Tryz.prog f (first++[aI n]++caps) H fun r H'=>r=aB (p n)∧H'=H) :
  CallS Tryz.prog 156 [aIs xs,.fn f first caps] H fun r H'=>r=aI (idxI (xs.findIdx? p))∧H'=H:=by
 refine CallS.rt (k:=1000) (CallS.dropP (callS_of Tryz.func156 rfl Tryz.ntmps156 (rs:=[.tmp 4]) rfl (by kernel_rfl) (by simp) (by kernel_rfl) (K:=fun r H'=>r=aI (idxI (xs.findIdx? p))∧subP (rt 1000 H) H') ?_) ?_)
 ·simp
  refine V.for' [0,1,7] (fun i:Nat=>[(8,aI i)]) (fun _=>rt 1000 H) (fun i=>i<=xs.length∧NoF p (xs.take i)) (fun i=>xs.length-i) 0 ⟨by simp,by simp,subP.refl _⟩ ?_
  rintro i ⟨hi,hI⟩
  by_cases hlt:i<xs.length
  ·have h1:=List.getElem?_eq_getElem hlt
   have hs:=findIdx_step (p:=p) hI h1
   have hc:=(hp xs[i] (List.getElem_mem hlt)).rt' (k:=1000)
   simp at hc
   simp[hlt,h1]
   refine hc.mono ?_
   rintro r H' ⟨H2,rfl,rfl,rfl⟩
   cases e:p xs[i]
   ·simp
    exact⟨by omega,i+1,⟨hlt,hs.1 e⟩,by omega,by simp,subP.refl _⟩
   ·rw[hs.2 e]
    simp
    exact subP.refl _
  ·obtain rfl:i=xs.length:=by omega
   rw[findIdx_none hI]
   simp
   exact subP.refl _
 ·rintro r H' ⟨rfl,h⟩
  exact⟨_,h,_,rfl,rfl,rfl⟩
theorem idxPo_fn (xs:List PortZ) (p:PortZ) (hx:Sh xs):CallFn Tryz.prog 64 [.dat (.sl (xs.map encPo)),.record (encPo p)] (aI (idxI (xs.findIdx? (p==·)))):=by
 obtain⟨p1,p2⟩:=p
 refine callFz_of Tryz.func64 rfl Tryz.ntmps64 (rs:=[.tmp 4]) rfl (by kernel_rfl) (by simp) (by kernel_rfl) ?_
 simp
 refine V.forI (σ:=Unit) xs.length [0,3,7] (by simp;exact rfl) (fun i _=>[(8,aI i)]) (fun _ _=>[]) (fun i _=>NoF ((p1,p2)==·) (xs.take i)) () (by simp) (by simp) ⟨by simp;exact rfl,by simp⟩ ?_ ?_
 ·rintro i-hi hI
  obtain⟨x,hxe⟩:∃x,xs[i]=x:=⟨_,rfl⟩
  have hxo:xs[i]?=some x:=by rw[List.getElem?_eq_getElem hi,hxe]
  have hs:=findIdx_step (p:=((p1,p2)==·)) hI hxo
  obtain⟨x1,x2⟩:=x
  simp[hi,hxe,hxo]
  refine V.drawX (fun _=>none) (by kernel_rfl) (by kernel_rfl) (by simp) ?_
  simp[hi,hxe,hxo]
  by_cases e:p1=x1∧p2=x2
  ·obtain⟨rfl,rfl⟩:=e
   rw[hs.2 (by simp)]
   simp[idxI]
  ·have e2:((p1,p2)==(x1,x2))=false:=by
    simp only[beq_eq_false_iff_ne,ne_eq,Prod.mk.injEq]
    exact e
   refine⟨fun a b=>absurd ⟨a,b⟩ e,fun _=>⟨by omega,hs.1 e2⟩⟩
 ·rintro-hI
  rw[findIdx_none hI]
  simp[idxI]
theorem contPo_fn (xs:List PortZ) (p:PortZ) (hx:Sh xs):CallFn Tryz.prog 20 [.dat (.sl (xs.map encPo)),.record (encPo p)] (aB (xs.any (p==·))):=by
 have h:=idxPo_fn xs p hx
 obtain⟨p1,p2⟩:=p
 refine callFz_of Tryz.func20 rfl Tryz.ntmps20 (rs:=[.tmp 4]) rfl (by kernel_rfl) (by simp) (by kernel_rfl) ?_
 simp
 refine h.s ?_
 simp
 rw[idxI_ge,List.findIdx?_isSome]
section
variable {P:Program}
theorem CallS.frzKeep {P:Program}{g:FuncId}{az:List A}{H:Heap}{K K':A->Heap->Prop}(h:CallS P g az H K) (hk:∀r H',K r H'->∃Hf Hk:Heap,(Hf++Hk).Perm H'∧(Go.Proofs.YtafamcbdaeppoaaGreatDoor.frz Hf r).1∧K' (Go.Proofs.YtafamcbdaeppoaaGreatDoor.frz Hf r).2 Hk):CallS P g az H K':=by
 refine⟨h.1,fun x args H0 hi hd=>(h.2 x args H0 hi hd).mono ?_⟩
 rintro _ _ ⟨y,v,r,H',rfl,rfl,hle,hi',hv,hkk⟩
 obtain⟨Hf,Hk,hp,h1,h2⟩:=hk r H' hkk
 have hi2:Inv y (Hf++(Hk++H0)):=by
  rw[<- List.append_assoc]
  exact hi'.perm (hp.append_right H0)
 obtain⟨z,hw,hle2,hi3,hok,_⟩:=hi2.freeze
 exact⟨z,v,_,Hk,rfl,hw,hle.trans hle2,hi3,frz_ok hi2 hle2 hw hok r v hv h1,h2⟩
theorem CallS.frzTop {P:Program}{g:FuncId}{az:List A}{H Hk:Heap}{τ:Nat}{e:TypeId}{sz:Nat}{rows:List (List A)}{xs:List (List L)}(hd:allD rows=true) (hx:rowsD rows=xs)
  (h:CallS P g az H fun r H'=>∃hd,r=.own τ hd∧subP ((τ,.seq hd e sz rows)::Hk) H'):CallS P g az H fun r H'=>r=.dat (.sl xs)∧H'=Hk:=by
 have h2:=h.dropP (K':=fun r H'=>∃hd,r=.own τ hd∧H'=(τ,.seq hd e sz rows)::Hk) (fun r H' ⟨a,b,c⟩=>⟨_,c,a,b,rfl⟩)
 refine h2.frzKeep ?_
 rintro r H' ⟨a,rfl,rfl⟩
 refine⟨[(τ,.seq a e sz rows)],Hk,List.Perm.refl _,?_,?_,rfl⟩
 ·simp[Go.Proofs.YtafamcbdaeppoaaGreatDoor.frz,hget,hd]
 ·simp[Go.Proofs.YtafamcbdaeppoaaGreatDoor.frz,hget,hx]
theorem CallS.mid {P:Program}{g:FuncId}{az:List A}{H:Heap}{ρ:A}(h:CallS P g az H fun r H'=>r=ρ∧H'=H) (B D:Heap):CallS P g az (B++(H++D)) fun r H'=>r=ρ∧H'=B++(H++D):=by
 refine (h.frame (H1:=D)).frameL.mono ?_
 rintro r H' ⟨_,⟨_,⟨rfl,rfl⟩,rfl⟩,rfl⟩
 exact⟨rfl,rfl⟩
theorem V.rest {f:Func}{k:Nat}{c:Code}{C:Cfg}{E:Env}{H:Heap}{Q:PostQ}(h:restF f k=some c) (hv:V C c E H Q):V C (restC f k) E H Q:=by
 unfold restC
 rw[h]
 exact hv
theorem V.of_rest {f:Func}{k:Nat}{c:Code}{C:Cfg}{E:Env}{H:Heap}{Q:PostQ}(h:restF f k=some c) (hv:V C (restC f k) E H Q):V C c E H Q:=by
 unfold restC at hv
 rw[h]at hv
 exact hv
end
theorem GCall.sure {P:Program}{q p:Prop}{g:FuncId}{az:List A}{H:Heap}{K:A->Heap->Prop}(h:p∧CallS P g az H K) (hq:q):GCall P q p g az H K:=.inr ⟨fun _=>h,fun hn=>absurd hq hn⟩
theorem GCall.never {P:Program}{q p:Prop}{g:FuncId}{az:List A}{H:Heap}{K:A->Heap->Prop}(hq:¬q) (r:A) (h:K r H):GCall P q p g az H K:=.inr ⟨fun h=>absurd h hq,fun _=>⟨r,h⟩⟩
abbrev rN (n:Nat):List A:=[.dat (.int .i64 (n:Int))]
abbrev encN (n:Nat):List L:=[.int .i64 (n:Int)]
theorem rowsD_n (xs:List Nat):rowsD (xs.map rN)=xs.map encN:=by unfold rowsD;rw[List.map_map];rfl
theorem allD_n (xs:List Nat):allD (xs.map rN)=true:=by simp[allD,isD]
attribute [simp] rowsD_n allD_n
theorem port_of {ps:List Prt}{i:Nat}{t:List UInt8}(hi:i<ps.length) (ht:t∈portsK (kindOf ps i)):((i:Int),t)∈allP ps:=by
 unfold allP
 rw[mem_allN]
 refine⟨i,ps[i],hi,List.getElem?_eq_getElem hi,rfl,?_⟩
 unfold kindOf at ht
 rw[List.getElem?_eq_getElem hi]at ht
 exact ht
abbrev encGf (g:Gift):List L:=[.int .i64 (g.part:Int),.int .i64 (g.pos:Int),.str g.pass.to,.sl (g.pass.src.map encT),.bool g.pass.all]
theorem kindOf_at {ps:List Prt}{j:Nat}{p:Prt}(hp:ps[j]?=some p):kindOf ps j=p.kind.toNat:=by unfold kindOf;rw[hp]
abbrev rGf (g:Gift):List A:=(encGf g).map A.dat
theorem rowsD_Gf (xs:List Gift):rowsD (xs.map rGf)=xs.map encGf:=by unfold rowsD;rw[List.map_map];rfl
theorem allD_Gf (xs:List Gift):allD (xs.map rGf)=true:=by simp[allD,isD]
attribute [simp] rowsD_Gf allD_Gf
theorem passK_len (k n:Nat):(passK k n).length<=1:=by
 unfold passK
 repeat' split
 all_goals simp
theorem idxI_fn (xs:List Int) (v:Int) (hx:Sh xs):CallFn Tryz.prog 68 [aIs xs,aI v] (aI (idxI (xs.findIdx? (v==·)))):=by
 refine callFz_of Tryz.func68 rfl Tryz.ntmps68 (rs:=[.tmp 4]) rfl (by kernel_rfl) (by simp) (by kernel_rfl) ?_
 simp
 refine V.forI (σ:=Unit) xs.length [0,1,7] (by simp;exact rfl) (fun i _=>[(8,aI i)]) (fun _ _=>[]) (fun i _=>NoF (v==·) (xs.take i)) () (by simp) (by simp) ⟨by simp;exact rfl,by simp⟩ ?_ ?_
 ·rintro i-hi hI
  have h1:=List.getElem?_eq_getElem hi
  have hs:=findIdx_step (p:=(v==·)) hI h1
  simp[hi,h1]
  cases e:(v==xs[i])
  ·simp at e
   simp[e]
   exact⟨by omega,hs.1 (by simp[e])⟩
  ·have e2:=hs.2 e
   simp at e
   rw[e2]
   simp[e]
 ·rintro-hI
  rw[findIdx_none hI]
  simp
theorem containsI_fn (xs:List Int) (v:Int) (hx:Sh xs):CallFn Tryz.prog 25 [aIs xs,aI v] (aB (decide (v∈xs))):=by
 refine callFz_of Tryz.func25 rfl Tryz.ntmps25 (rs:=[.tmp 4]) rfl (by kernel_rfl) (by simp) (by kernel_rfl) ?_
 simp
 refine (idxI_fn xs v hx).s ?_
 simp
 rw[<- decide_eq_true_iff (p:=0<=_),idxI_ge,List.findIdx?_isSome]
 simp
theorem passK_src {k:Nat}(hk:k<14) {n:Nat}(hn:n<2) {y:PassP}(hy:y∈passK k n) {t:List UInt8}(ht:t∈y.src):t∈portsK k:=by
 have key:((List.range 14).all fun k=>(List.range 2).all fun n=>(passK k n).all fun y=>y.src.all fun t=>(portsK k).any (t==·))=true:=by decide
 have h1:=List.all_eq_true.1 (List.all_eq_true.1 (List.all_eq_true.1 (List.all_eq_true.1 key k (List.mem_range.2 hk)) n (List.mem_range.2 hn)) y hy) t ht
 obtain⟨u,hu,e⟩:=List.any_eq_true.1 h1
 rw[eq_of_beq e]
 exact hu
theorem passK_srcl (k n:Nat):∀y∈passK k n,y.src.length<=2:=by
 intro y hy
 unfold passK at hy
 repeat' split at hy
 all_goals (simp at hy;try (subst hy;simp))
def posN (pos:List Int) (i:Nat):Nat:=(pos.getD i 0).toNat
inductive Prs (ps:List Prt) (nets:List (List PortZ)) (pos:List Int):Nat->Prop
 | sup (i:Nat) (hi:i<ps.length) (hk:kindOf ps i=0):Prs ps nets pos (netW nets ((i:Int),[49]))
 | all (i:Nat) (y:PassP) (hi:i<ps.length) (hy:y∈passK (kindOf ps i) (posN pos i)) (ha:y.all=true) (h:∀t∈y.src,Prs ps nets pos (netW nets ((i:Int),t))):Prs ps nets pos (netW nets ((i:Int),y.to))
 | any (i:Nat) (y:PassP) (t:List UInt8) (hi:i<ps.length) (hy:y∈passK (kindOf ps i) (posN pos i)) (ht:t∈y.src) (ha:y.all=false) (h:Prs ps nets pos (netW nets ((i:Int),t))):Prs ps nets pos (netW nets ((i:Int),y.to))
theorem pass_to {k n:Nat}{y:PassP}(h:y∈passK k n):(y.to=[50]∨y.to=[52])∧y.src≠[]∧(∀t∈y.src,t=[49]∨t=[49,49])∧k≠0∧k≠1∧k<14:=by
 unfold passK at h
 split at h
 ·rename_i hk
  rw[List.mem_singleton]at h
  subst h
  refine⟨?_,by simp,by simp,by omega,by omega,by omega⟩
  simp only
  split
  ·exact .inr rfl
  ·exact .inl rfl
 ·split at h
  ·split at h
   ·rw[List.mem_singleton]at h
    subst h
    exact⟨.inl rfl,by simp,by simp,by omega,by omega,by omega⟩
   ·simp at h
  ·split at h
   ·split at h
    ·simp at h
    ·rw[List.mem_singleton]at h
     subst h
     exact⟨.inl rfl,by simp,by simp,by omega,by omega,by omega⟩
   ·split at h
    ·rw[List.mem_singleton]at h
     subst h
     exact⟨.inl rfl,by simp,by simp,by omega,by omega,by omega⟩
    ·split at h
     ·rw[List.mem_singleton]at h
      subst h
      exact⟨.inl rfl,by simp,by simp,by omega,by omega,by omega⟩
     ·simp at h
theorem pass_port:∀k,k<14->∀n,n<2->∀y∈passK k n,y.to∈portsK k:=by decide
theorem many_two (k:Nat):manyK k=1∨manyK k=2:=by unfold manyK;split<;>simp
def exhK (k:Nat):List (List UInt8):=(portsK k).filter fun t=>roleK k t==some 2
def vntK (k pos:Nat):List (List UInt8):=
 if k=2∨k=3 then [if pos=1 then [50] else [52]]
 else if k=4∨k=6∨k=7∨k=12∨k=13 then (if pos=1 then [] else [[50]])
 else if k=5 then (if pos=0 then [] else [[50]])
 else []
def openK (k pos:Nat):List (List UInt8):=vntK k pos++exhK k
theorem shut_fn (n:Nat):CallFn Tryz.prog 313 [aI n] (aTs []):=by
 refine callFz_of Tryz.func313 rfl Tryz.ntmps313 (rs:=[.tmp 2]) rfl (by kernel_rfl) (by simp) (by kernel_rfl) ?_
 simp
theorem changeVents_fn (n:Nat) (hn:n<2):CallFn Tryz.prog 315 [aI n] (aTs [if n=1 then [50] else [52]]):=by
 have:n=0∨n=1:=by omega
 refine callFz_of Tryz.func315 rfl Tryz.ntmps315 (rs:=[.tmp 2]) rfl (by kernel_rfl) (by simp) (by kernel_rfl) ?_
 rcases this with rfl | rfl
 ·simp
 ·simp
theorem gateVents1_fn (n:Nat) (o:Nat):CallFn Tryz.prog 365 [aI n,.rptr [.int .i64 o]] (aTs (if n=o then [] else [[50]])):=by
 refine callFz_of Tryz.func365 rfl Tryz.ntmps365 (rs:=[.tmp 3]) rfl (by kernel_rfl) (by simp) (by kernel_rfl) ?_
 by_cases e:n=o
 ·subst e
  simp
 ·have e2:¬(n:Int)=o:=by omega
  simp[e,e2]
theorem row_vent:∀k,k<14->∃f caps,(rowOf k)[11]?=some (.fn f [] caps)∧∀n:Nat,n<2->CallFn Tryz.prog f (aI n::caps) (aTs (vntK k n)):=by
 refine cat_cases ⟨?_,?_,?_,?_,?_,?_,?_,?_,?_,?_,?_,?_,?_,?_⟩
 ·exact⟨_,_,rfl,fun n hn=>shut_fn n⟩
 ·exact⟨_,_,rfl,fun n hn=>shut_fn n⟩
 ·exact⟨_,_,rfl,fun n hn=>changeVents_fn n hn⟩
 ·exact⟨_,_,rfl,fun n hn=>changeVents_fn n hn⟩
 ·exact⟨_,_,rfl,fun n hn=>gateVents1_fn n 1⟩
 ·exact⟨_,_,rfl,fun n hn=>gateVents1_fn n 0⟩
 ·exact⟨_,_,rfl,fun n hn=>gateVents1_fn n 1⟩
 ·exact⟨_,_,rfl,fun n hn=>gateVents1_fn n 1⟩
 ·exact⟨_,_,rfl,fun n hn=>shut_fn n⟩
 ·exact⟨_,_,rfl,fun n hn=>shut_fn n⟩
 ·exact⟨_,_,rfl,fun n hn=>shut_fn n⟩
 ·exact⟨_,_,rfl,fun n hn=>shut_fn n⟩
 ·exact⟨_,_,rfl,fun n hn=>gateVents1_fn n 1⟩
 ·exact⟨_,_,rfl,fun n hn=>gateVents1_fn n 1⟩
theorem Vents_k (k:Nat) (hk:k<14) (n:Nat) (hn:n<manyK k):CallFn Tryz.prog 184 [aI k,aI n] (.tuple [aTs (vntK k n),aI 0]):=by
 have hf:=placed_k k hk n hn
 have hl:=row_len k hk
 have hc:=row_cell k hk
 have hm:manyK k<=2:=by revert k;exact fun k hk=>by intros;exact (show ∀k,k<14->manyK k<=2 by decide) k hk
 obtain⟨f,caps,h10,hp⟩:=row_vent k hk
 have hp:=hp n (by omega)
 obtain⟨h10l,h101⟩:=List.getElem?_eq_some_iff.1 h10
 refine callFz_of Tryz.func184 rfl Tryz.ntmps184 (rs:=[.tmp 4,.tmp 5]) rfl (by kernel_rfl) (by simp) (by kernel_rfl) ?_
 simp
 refine hf.s ?_
 generalize rowOf k=R at *
 simp
 intro b6
 refine⟨cells_ok hl hc,?_⟩
 simp[hl,h10,h101]
 refine hp.s ?_
 simp
structure Psg where
 part:Nat
 to:Nat
 src:List Nat
 all:Bool
 deriving DecidableEq
def psgsI (ps:List Prt) (nets:List (List PortZ)) (pos:List Int) (i:Nat):List Psg:=(passK (kindOf ps i) (posN pos i)).map fun y=>⟨i,netW nets ((i:Int),y.to),y.src.map fun t=>netW nets ((i:Int),t),y.all⟩
def psgsN (ps:List Prt) (nets:List (List PortZ)) (pos:List Int) (n:Nat):List Psg:=(List.range n).flatMap (psgsI ps nets pos)
def flowsZ (st:List Int) (y:Psg):Bool:=if y.all=true then y.src.all fun n=>st.getD n 0==2 else y.src.any fun n=>st.getD n 0==2
def airZ (st:List Int) (y:Psg):Bool:=y.src.any fun n=>st.getD n 0==1
def swStep (v:Int) (tk:List Int->Psg->Bool) (q:List Int×Bool) (y:Psg):List Int×Bool:=if q.1.getD y.to 0=0∧tk q.1 y=true then (q.1.set y.to v,true) else q
def sweep (v:Int) (tk:List Int->Psg->Bool) (l:List Psg) (st:List Int):List Int×Bool:=l.foldl (swStep v tk) (st,false)
def closeZ (v:Int) (tk:List Int->Psg->Bool) (l:List Psg):Nat->List Int->List Int
 | 0,st=>st
 | n+1,st=>if (sweep v tk l st).2=true then closeZ v tk l n (sweep v tk l st).1 else (sweep v tk l st).1
def zeros (st:List Int):Nat:=st.countP (·==0)
def supStep (ps:List Prt) (nets:List (List PortZ)) (st:List Int) (i:Nat):List Int:=if kindOf ps i=0 then st.set (netW nets ((i:Int),[49])) 2 else st
def supN (ps:List Prt) (nets:List (List PortZ)) (n:Nat):List Int:=(List.range n).foldl (supStep ps nets) (List.replicate nets.length 0)
def opStep (nets:List (List PortZ)) (i:Nat) (st:List Int) (t:List UInt8):List Int:=if st.getD (netW nets ((i:Int),t)) 0=0 then st.set (netW nets ((i:Int),t)) 1 else st
def opN (ps:List Prt) (nets:List (List PortZ)) (pos:List Int) (st:List Int) (n:Nat):List Int:=(List.range n).foldl (fun s i=>(openK (kindOf ps i) (posN pos i)).foldl (opStep nets i) s) st
def pressedZ (ps:List Prt) (nets:List (List PortZ)) (pos:List Int):List Int:=closeZ 2 flowsZ (psgsN ps nets pos ps.length) (nets.length+1) (supN ps nets ps.length)
def statesZ (ps:List Prt) (nets:List (List PortZ)) (pos:List Int):List Int:=closeZ 1 airZ (psgsN ps nets pos ps.length) (nets.length+1) (opN ps nets pos (pressedZ ps nets pos) ps.length)
theorem getD_set {st:List Int}{i n:Nat}{v:Int}:(st.set i v).getD n 0=if i=n∧i<st.length then v else st.getD n 0:=by
 rw[List.getD_eq_getElem?_getD,List.getD_eq_getElem?_getD,List.getElem?_set]
 by_cases h:i=n
 ·subst h
  by_cases h2:i<st.length
  ·simp[h2]
  ·simp[h2]
 ·simp[h]
theorem sw_true (v:Int) (tk:List Int->Psg->Bool):∀(l:List Psg) (st:List Int),(l.foldl (swStep v tk) (st,true)).2=true
 | [],_=>rfl
 | y::l,st=>by
  rw[List.foldl_cons]
  unfold swStep
  split
  ·exact sw_true v tk l _
  ·exact sw_true v tk l _
theorem sw_false (v:Int) (tk:List Int->Psg->Bool):∀(l:List Psg) (st:List Int),(sweep v tk l st).2=false->(sweep v tk l st).1=st∧∀y∈l,¬(st.getD y.to 0=0∧tk st y=true)
 | [],st,_=>⟨rfl,by simp⟩
 | y::l,st,h=>by
  unfold sweep at h ⊢
  rw[List.foldl_cons]at h ⊢
  by_cases hc:st.getD y.to 0=0∧tk st y=true
  ·have e:swStep v tk (st,false) y=(st.set y.to v,true):=by unfold swStep;rw[if_pos hc]
   rw[e,sw_true]at h
   cases h
  ·have e:swStep v tk (st,false) y=(st,false):=by unfold swStep;rw[if_neg hc]
   rw[e]at h ⊢
   obtain⟨h1,h2⟩:=sw_false v tk l st h
   refine⟨h1,fun z hz=>?_⟩
   rcases List.mem_cons.1 hz with rfl | hz
   ·exact hc
   ·exact h2 z hz
theorem sw_inv {v:Int}{tk:List Int->Psg->Bool}(P:List Int->Prop):∀(l:List Psg) (q:List Int×Bool),(∀st y,y∈l->P st->st.getD y.to 0=0->tk st y=true->P (st.set y.to v))->P q.1->P (l.foldl (swStep v tk) q).1
 | [],_,_,h=>h
 | y::l,q,hs,h=>by
  rw[List.foldl_cons]
  refine sw_inv P l _ (fun st z hz=>hs st z (List.mem_cons_of_mem _ hz)) ?_
  unfold swStep
  split
  ·rename_i hc
   exact hs q.1 y (by simp) h hc.1 hc.2
  ·exact h
theorem close_inv {v:Int}{tk:List Int->Psg->Bool}(P:List Int->Prop) {l:List Psg}(hs:∀st y,y∈l->P st->st.getD y.to 0=0->tk st y=true->P (st.set y.to v)):∀(n:Nat) (st:List Int),P st->P (closeZ v tk l n st)
 | 0,_,h=>h
 | n+1,st,h=>by
  have h1:P (sweep v tk l st).1:=sw_inv P l (st,false) hs h
  unfold closeZ
  split
  ·exact close_inv P hs n _ h1
  ·exact h1
theorem zeros_set {st:List Int}{i:Nat}{v:Int}(hi:i<st.length) (h0:st.getD i 0=0) (hv:v≠0):zeros (st.set i v)+1=zeros st:=by
 unfold zeros
 induction st generalizing i with
 | nil=>simp at hi
 | cons x l ih=>
  cases i with
  | zero=>
   have h0:x=0:=by simpa using h0
   subst h0
   simp[hv]
  | succ i=>
   have hi:i<l.length:=by simpa using hi
   have h0:l.getD i 0=0:=by simpa using h0
   have:=ih hi h0
   rw[List.set_cons_succ,List.countP_cons,List.countP_cons]
   omega
theorem sw_zeros {v:Int}(hv:v≠0) {tk:List Int->Psg->Bool}{N:Nat}:∀(l:List Psg) (q:List Int×Bool),(∀y∈l,y.to<N)->q.1.length=N->(l.foldl (swStep v tk) q).1.length=N∧zeros (l.foldl (swStep v tk) q).1+(if (l.foldl (swStep v tk) q).2=true then 1 else 0)<=zeros q.1+(if q.2=true then 1 else 0)
 | [],q,_,h=>⟨h,Nat.le_refl _⟩
 | y::l,q,hl,h=>by
  rw[List.foldl_cons]
  have hq:(swStep v tk q y).1.length=N∧zeros (swStep v tk q y).1+(if (swStep v tk q y).2=true then 1 else 0)<=zeros q.1+(if q.2=true then 1 else 0):=by
   unfold swStep
   split
   ·rename_i hc
    have:=zeros_set (by rw[h];exact hl y (by simp)) hc.1 hv
    refine⟨by rw[List.length_set];exact h,?_⟩
    simp only[if_true]
    omega
   ·exact⟨h,Nat.le_refl _⟩
  obtain⟨h1,h2⟩:=sw_zeros hv l _ (fun z hz=>hl z (List.mem_cons_of_mem _ hz)) hq.1
  exact⟨h1,Nat.le_trans h2 hq.2⟩
theorem sweep_zeros {v:Int}(hv:v≠0) {tk:List Int->Psg->Bool}{N:Nat}{l:List Psg}{st:List Int}(hl:∀y∈l,y.to<N) (h:st.length=N):(sweep v tk l st).1.length=N∧zeros (sweep v tk l st).1+(if (sweep v tk l st).2=true then 1 else 0)<=zeros st:=by
 exact sw_zeros hv (tk:=tk) l (st,false) hl h
theorem close_len {v:Int}{tk:List Int->Psg->Bool}{l:List Psg}(n:Nat) (st:List Int):(closeZ v tk l n st).length=st.length:=
 close_inv (fun s=>s.length=st.length) (fun s y _ h _ _=>by rw[List.length_set];exact h) n st rfl
theorem close_end {v:Int}(hv:v≠0) {tk:List Int->Psg->Bool}{N:Nat}{l:List Psg}(hl:∀y∈l,y.to<N):∀(n:Nat) (st:List Int),st.length=N->zeros st<n->∀y∈l,¬((closeZ v tk l n st).getD y.to 0=0∧tk (closeZ v tk l n st) y=true)
 | 0,_,_,h=>absurd h (Nat.not_lt_zero _)
 | n+1,st,hN,h=>by
  obtain⟨h1,h2⟩:=sweep_zeros hv (tk:=tk) hl hN
  unfold closeZ
  cases e:(sweep v tk l st).2 with
  | true=>
   rw[e]at h2
   simp only[if_true]at h2 ⊢
   exact close_end hv hl n _ h1 (by omega)
  | false=>
   obtain⟨h3,h4⟩:=sw_false v tk l st e
   simp only[Bool.false_eq_true,if_false]
   rw[h3]
   exact h4
theorem zeros_le (st:List Int):zeros st<=st.length:=List.countP_le_length
theorem mem_psgs {ps:List Prt}{nets:List (List PortZ)}{pos:List Int}{n:Nat}{z:Psg}:z∈psgsN ps nets pos n↔∃i y,i<n∧y∈passK (kindOf ps i) (posN pos i)∧z=⟨i,netW nets ((i:Int),y.to),y.src.map fun t=>netW nets ((i:Int),t),y.all⟩:=by
 unfold psgsN psgsI
 constructor
 ·intro h
  obtain⟨i,hi,h2⟩:=List.mem_flatMap.1 h
  obtain⟨y,hy,rfl⟩:=List.mem_map.1 h2
  exact⟨i,y,List.mem_range.1 hi,hy,rfl⟩
 ·rintro⟨i,y,hi,hy,rfl⟩
  exact List.mem_flatMap.2 ⟨i,List.mem_range.2 hi,List.mem_map.2 ⟨y,hy,rfl⟩⟩
theorem net_lt {c:Cir}(hr:CirR c) {i:Nat}{t:List UInt8}(hi:i<c.parts.length) (ht:t∈portsK (kindOf c.parts i)):netW (netsZ c) ((i:Int),t)<(netsZ c).length:=by
 obtain⟨l,hl,_⟩:=netW_some hr (port_of hi ht)
 exact (List.getElem?_eq_some_iff.1 hl).1
theorem psgs_lt {c:Cir}(hr:CirR c) {pos:List Int}(hp:∀i,i<c.parts.length->posN pos i<2):∀z∈psgsN c.parts (netsZ c) pos c.parts.length,z.to<(netsZ c).length∧∀n∈z.src,n<(netsZ c).length:=fun z hz=>by
 obtain⟨i,y,hi,hy,rfl⟩:=mem_psgs.1 hz
 have hk:=(pass_to hy).2.2.2.2.2
 refine⟨net_lt hr hi (pass_port _ hk _ (hp i hi) y hy),fun n hn=>?_⟩
 obtain⟨t,ht,rfl⟩:=List.mem_map.1 hn
 exact net_lt hr hi (passK_src hk (hp i hi) hy ht)
theorem supN_succ (ps:List Prt) (nets:List (List PortZ)) (n:Nat):supN ps nets (n+1)=supStep ps nets (supN ps nets n) n:=by
 unfold supN
 rw[List.range_succ,List.foldl_append]
 rfl
theorem supN_len (ps:List Prt) (nets:List (List PortZ)):∀n,(supN ps nets n).length=nets.length
 | 0=>by simp[supN]
 | n+1=>by
  rw[supN_succ]
  unfold supStep
  split
  ·rw[List.length_set];exact supN_len ps nets n
  ·exact supN_len ps nets n
theorem supN_at {c:Cir}(hr:CirR c):∀n,n<=c.parts.length->(∀k,(supN c.parts (netsZ c) n).getD k 0=0∨(supN c.parts (netsZ c) n).getD k 0=2)∧(∀k,(supN c.parts (netsZ c) n).getD k 0=2↔∃i,i<n∧kindOf c.parts i=0∧k=netW (netsZ c) ((i:Int),[49]))
 | 0,_=>by
  have e:∀k,(supN c.parts (netsZ c) 0).getD k 0=0:=fun k=>by
   unfold supN
   rw[List.range_zero,List.foldl_nil,List.getD_eq_getElem?_getD,List.getElem?_replicate]
   split<;>rfl
  exact⟨fun k=>.inl (e k),fun k=>⟨fun h=>(by rw[e k]at h;cases h),fun ⟨i,hi,_⟩=>(by omega)⟩⟩
 | n+1,hn=>by
  obtain⟨h1,h2⟩:=supN_at hr n (by omega)
  rw[supN_succ]
  unfold supStep
  by_cases hk:kindOf c.parts n=0
  ·rw[if_pos hk]
   have hlt:=net_lt hr (i:=n) (t:=[49]) (by omega) (by rw[hk];simp[portsK])
   rw[<- supN_len c.parts (netsZ c) n]at hlt
   refine⟨fun k=>?_,fun k=>?_⟩
   ·rw[getD_set]
    split
    ·exact .inr rfl
    ·exact h1 k
   ·rw[getD_set]
    by_cases e:netW (netsZ c) ((n:Int),[49])=k
    ·rw[if_pos ⟨e,hlt⟩]
     exact⟨fun _=>⟨n,by omega,hk,e.symm⟩,fun _=>rfl⟩
    ·rw[if_neg (fun h=>e h.1),h2 k]
     constructor
     ·rintro⟨i,hi,h3⟩
      exact⟨i,by omega,h3⟩
     ·rintro⟨i,hi,h3,h4⟩
      by_cases e2:i=n
      ·subst e2
       exact absurd h4.symm e
      ·exact⟨i,by omega,h3,h4⟩
  ·rw[if_neg hk]
   refine⟨h1,fun k=>?_⟩
   rw[h2 k]
   constructor
   ·rintro⟨i,hi,h3⟩
    exact⟨i,by omega,h3⟩
   ·rintro⟨i,hi,h3,h4⟩
    by_cases e2:i=n
    ·subst e2
     exact absurd h3 hk
    ·exact⟨i,by omega,h3,h4⟩
theorem pressed_prs {c:Cir}(hr:CirR c) {pos:List Int}(hp:∀i,i<c.parts.length->posN pos i<2):∀k,(pressedZ c.parts (netsZ c) pos).getD k 0=2↔Prs c.parts (netsZ c) pos k:=by
 have hlt:=psgs_lt hr hp
 obtain⟨s1,s2⟩:=supN_at hr c.parts.length (Nat.le_refl _)
 have sl:=supN_len c.parts (netsZ c) c.parts.length
 have hsnd:∀k,(pressedZ c.parts (netsZ c) pos).getD k 0=2->Prs c.parts (netsZ c) pos k:=by
  unfold pressedZ
  refine close_inv (fun st=>∀k,st.getD k 0=2->Prs c.parts (netsZ c) pos k) (fun st z hz h h0 ht k hk=>?_) _ _ fun k hk=>?_
  ·rw[getD_set]at hk
   split at hk
   ·rename_i e
    rw[<- e.1]
    obtain⟨i,y,hi,hy,rfl⟩:=mem_psgs.1 hz
    unfold flowsZ at ht
    simp only at ht ⊢
    by_cases ha:y.all=true
    ·rw[if_pos ha,List.all_map,List.all_eq_true]at ht
     exact .all i y hi hy ha fun t ht2=>h _ (by simpa using ht t ht2)
    ·rw[if_neg ha,List.any_map,List.any_eq_true]at ht
     obtain⟨t,ht2,h3⟩:=ht
     exact .any i y t hi hy ht2 (by simpa using ha) (h _ (by simpa using h3))
   ·exact h k hk
  ·obtain⟨i,hi,h3,rfl⟩:=(s2 k).1 hk
   exact .sup i hi h3
 have hstay:∀k,(supN c.parts (netsZ c) c.parts.length).getD k 0=2->(pressedZ c.parts (netsZ c) pos).getD k 0=2:=fun k hk=>by
  unfold pressedZ
  refine close_inv (fun st=>st.getD k 0=2) (fun st z hz h h0 ht=>?_) _ _ hk
  rw[getD_set]
  split
  ·rfl
  ·exact h
 have htwo:∀k,(pressedZ c.parts (netsZ c) pos).getD k 0=0∨(pressedZ c.parts (netsZ c) pos).getD k 0=2:=by
  unfold pressedZ
  refine close_inv (fun st=>∀k,st.getD k 0=0∨st.getD k 0=2) (fun st z hz h h0 ht k=>?_) _ _ s1
  rw[getD_set]
  split
  ·exact .inr rfl
  ·exact h k
 have hend:∀z∈psgsN c.parts (netsZ c) pos c.parts.length,¬((pressedZ c.parts (netsZ c) pos).getD z.to 0=0∧flowsZ (pressedZ c.parts (netsZ c) pos) z=true):=by
  unfold pressedZ
  exact close_end (by decide) (fun z hz=>(hlt z hz).1) _ _ sl (by have:=zeros_le (supN c.parts (netsZ c) c.parts.length);omega)
 refine fun k=>⟨hsnd k,fun h=>?_⟩
 induction h with
 | sup i hi hk=>exact hstay _ ((s2 _).2 ⟨i,hi,hk,rfl⟩)
 | all i y hi hy ha hs ih=>
  rcases htwo (netW (netsZ c) ((i:Int),y.to)) with e | e
  ·exact absurd ⟨e,by
    unfold flowsZ
    simp only
    rw[if_pos ha,List.all_map,List.all_eq_true]
    exact fun t ht=>by simpa using ih t ht⟩ (hend _ (mem_psgs.2 ⟨i,y,hi,hy,rfl⟩))
  ·exact e
 | any i y t hi hy ht ha hs ih=>
  rcases htwo (netW (netsZ c) ((i:Int),y.to)) with e | e
  ·exact absurd ⟨e,by
    unfold flowsZ
    simp only
    rw[if_neg (by simp[ha]),List.any_map,List.any_eq_true]
    exact⟨t,ht,by simpa using ih⟩⟩ (hend _ (mem_psgs.2 ⟨i,y,hi,hy,rfl⟩))
  ·exact e
theorem op_keep (nets:List (List PortZ)) (i k:Nat):∀(l:List (List UInt8)) (st:List Int),(l.foldl (opStep nets i) st).getD k 0=2↔st.getD k 0=2
 | [],_=>Iff.rfl
 | t::l,st=>by
  rw[List.foldl_cons,op_keep nets i k l]
  unfold opStep
  split
  ·rename_i h0
   rw[getD_set]
   split
   ·rename_i e
    rw[<- e.1,h0]
    decide
   ·rfl
  ·rfl
theorem opN_keep (ps:List Prt) (nets:List (List PortZ)) (pos st:List Int) (k:Nat):∀n,(opN ps nets pos st n).getD k 0=2↔st.getD k 0=2
 | 0=>Iff.rfl
 | n+1=>by
  unfold opN
  rw[List.range_succ,List.foldl_append,List.foldl_cons,List.foldl_nil,op_keep]
  exact opN_keep ps nets pos st k n
theorem states_prs {c:Cir}(hr:CirR c) {pos:List Int}(hp:∀i,i<c.parts.length->posN pos i<2) (k:Nat):(statesZ c.parts (netsZ c) pos).getD k 0=2↔Prs c.parts (netsZ c) pos k:=by
 refine Iff.trans ?_ ((opN_keep c.parts (netsZ c) pos (pressedZ c.parts (netsZ c) pos) k c.parts.length).trans (pressed_prs hr hp k))
 unfold statesZ
 refine close_inv (fun st=>st.getD k 0=2↔(opN c.parts (netsZ c) pos (pressedZ c.parts (netsZ c) pos) c.parts.length).getD k 0=2) (fun st z hz h h0 ht=>?_) _ _ Iff.rfl
 rw[<- h,getD_set]
 split
 ·rename_i e
  rw[<- e.1,h0]
  decide
 ·rfl
theorem op_len (nets:List (List PortZ)) (i:Nat):∀(l:List (List UInt8)) (st:List Int),(l.foldl (opStep nets i) st).length=st.length
 | [],_=>rfl
 | t::l,st=>by
  rw[List.foldl_cons,op_len nets i l]
  unfold opStep
  split
  ·rw[List.length_set]
  ·rfl
theorem opN_len (ps:List Prt) (nets:List (List PortZ)) (pos st:List Int):∀n,(opN ps nets pos st n).length=st.length
 | 0=>rfl
 | n+1=>by
  unfold opN
  rw[List.range_succ,List.foldl_append,List.foldl_cons,List.foldl_nil,op_len]
  exact opN_len ps nets pos st n
theorem pressed_len (ps:List Prt) (nets:List (List PortZ)) (pos:List Int):(pressedZ ps nets pos).length=nets.length:=by
 unfold pressedZ
 rw[close_len,supN_len]
theorem states_len (ps:List Prt) (nets:List (List PortZ)) (pos:List Int):(statesZ ps nets pos).length=nets.length:=by
 unfold statesZ
 rw[close_len,opN_len,pressed_len]
def GivZ (ps:List Prt) (p:PortZ):Prop:=∃i,i<ps.length∧p.1=(i:Int)∧((kindOf ps i=0∧p.2=[49])∨∃n y,n<2∧y∈passK (kindOf ps i) n∧p.2=y.to)
structure GvZ (c:Cir) (gv:PortZ->PortZ):Prop where
 pipe:∀x∈c.pipes,gv x.1=gv x.2
 own:∀p,GivZ c.parts p->gv p=p
theorem net_gv {c:Cir}(hr:CirR c) {gv:PortZ->PortZ}(h:GvZ c gv) {p q:PortZ}(hp:p∈allP c.parts) (hq:q∈allP c.parts) (hn:netW (netsZ c) p=netW (netsZ c) q):gv p=gv q:=by
 obtain⟨l,hl,hpl⟩:=netW_some hr hp
 obtain⟨m,hm,hqm⟩:=netW_some hr hq
 rw[hn,hm]at hl
 simp only[Option.some.injEq]at hl
 subst hl
 obtain⟨r,_,rfl⟩:=netsZ_at hm
 have e1:=eq_of_beq (List.mem_filter.1 hpl).2
 have e2:=eq_of_beq (List.mem_filter.1 hqm).2
 have hc:=(rootF_ok c.pipes).closed (fun z=>gv z=gv q) (fun x hx=>by rw[h.pipe x hx])
 have h1:=hc p
 have h2:=hc q
 rw[e1]at h1
 rw[e2]at h2
 exact h1.2 (h2.1 rfl)
theorem net_pipe {c:Cir}(hr:CirR c) {x:PipeZ}(hx:x∈c.pipes):netW (netsZ c) x.1=netW (netsZ c) x.2:=by
 have h1:x.1∈allP c.parts:=mem_allP.2 ⟨(hr.inp x hx).1,(hr.has x hx).1⟩
 have h2:x.2∈allP c.parts:=mem_allP.2 ⟨(hr.inp x hx).2,(hr.has x hx).2⟩
 obtain⟨l,hl,hpl⟩:=netW_some hr h1
 obtain⟨r,hr2,rfl⟩:=netsZ_at hl
 have e1:=eq_of_beq (List.mem_filter.1 hpl).2
 have h3:=(rootF_ok c.pipes).pipe x hx
 have:x.2∈(allP c.parts).filter fun q=>rootF c.pipes q==r:=List.mem_filter.2 ⟨h2,by rw[<- h3,e1];simp⟩
 exact (netW_at hl this).symm
theorem giv_port {ps:List Prt}{p:PortZ}(h:GivZ ps p):p∈allP ps:=by
 obtain⟨i,hi,h1,h2⟩:=h
 have e:p=((i:Int),p.2):=Prod.ext h1 rfl
 rw[e]
 rcases h2 with⟨hk,ht⟩|⟨n,y,hn,hy,ht⟩
 ·exact port_of hi (by rw[hk,ht];simp[portsK])
 ·exact port_of hi (by rw[ht];exact pass_port _ (pass_to hy).2.2.2.2.2 n hn y hy)
theorem prs_give {c:Cir}(hr:CirR c) {gv:PortZ->PortZ}(h:GvZ c gv) {pos:List Int}(h2:∀i,i<c.parts.length->posN pos i<2) {i:Nat}{t:List UInt8}(hg:GivZ c.parts ((i:Int),t)) :
  Prs c.parts (netsZ c) pos (netW (netsZ c) ((i:Int),t))↔(kindOf c.parts i=0∧t=[49])∨∃y∈passK (kindOf c.parts i) (posN pos i),y.to=t∧if y.all=true then ∀u∈y.src,Prs c.parts (netsZ c) pos (netW (netsZ c) ((i:Int),u)) else ∃u∈y.src,Prs c.parts (netsZ c) pos (netW (netsZ c) ((i:Int),u)):=by
 have hi:i<c.parts.length:=by obtain⟨j,hj,h1,_⟩:=hg;have h1:(i:Int)=j:=h1;omega
 have same:∀(j:Nat) (u:List UInt8),GivZ c.parts ((j:Int),u)->netW (netsZ c) ((i:Int),t)=netW (netsZ c) ((j:Int),u)->i=j∧t=u:=fun j u hj hn=>by
  have:=net_gv hr h (giv_port hg) (giv_port hj) hn
  rw[h.own _ hg,h.own _ hj]at this
  simp only[Prod.mk.injEq]at this
  exact⟨by omega,this.2⟩
 constructor
 ·intro hp
  generalize hk:netW (netsZ c) ((i:Int),t)=k at hp
  cases hp with
  | sup j hj hk0=>
   obtain⟨rfl,rfl⟩:=same j [49] ⟨j,hj,rfl,.inl ⟨hk0,rfl⟩⟩ hk
   exact .inl ⟨hk0,rfl⟩
  | all j y hj hy ha hs=>
   obtain⟨rfl,rfl⟩:=same j y.to ⟨j,hj,rfl,.inr ⟨_,y,h2 j hj,hy,rfl⟩⟩ hk
   exact .inr ⟨y,hy,rfl,by rw[if_pos ha];exact hs⟩
  | any j y u hj hy hu ha hs=>
   obtain⟨rfl,rfl⟩:=same j y.to ⟨j,hj,rfl,.inr ⟨_,y,h2 j hj,hy,rfl⟩⟩ hk
   exact .inr ⟨y,hy,rfl,by rw[if_neg (by simp[ha])];exact⟨u,hu,hs⟩⟩
 ·rintro (⟨hk,rfl⟩|⟨y,hy,rfl,hs⟩)
  ·exact .sup i hi hk
  ·by_cases ha:y.all=true
   ·rw[if_pos ha]at hs
    exact .all i y hi hy ha hs
   ·rw[if_neg ha]at hs
    obtain⟨u,hu,hp⟩:=hs
    exact .any i y u hi hy hu (by simpa using ha) hp
theorem prs_none {c:Cir}(hr:CirR c) {gv:PortZ->PortZ}(h:GvZ c gv) {pos:List Int}(h2:∀i,i<c.parts.length->posN pos i<2) {p:PortZ}(hp:p∈allP c.parts) (hn:¬GivZ c.parts (gv p)):¬Prs c.parts (netsZ c) pos (netW (netsZ c) p):=fun hq=>by
 have key:∀q,GivZ c.parts q->netW (netsZ c) p=netW (netsZ c) q->False:=fun q hg hk=>by
  have:=net_gv hr h hp (giv_port hg) hk
  rw[h.own _ hg]at this
  rw[this]at hn
  exact hn hg
 generalize hk:netW (netsZ c) p=k at hq
 cases hq with
 | sup j hj hk0=>exact key _ ⟨j,hj,rfl,.inl ⟨hk0,rfl⟩⟩ hk
 | all j y hj hy ha hs=>exact key _ ⟨j,hj,rfl,.inr ⟨_,y,h2 j hj,hy,rfl⟩⟩ hk
 | any j y u hj hy hu ha hs=>exact key _ ⟨j,hj,rfl,.inr ⟨_,y,h2 j hj,hy,rfl⟩⟩ hk
def lnX (n:Int):Expr:=⟨1,n,[]⟩
def backC:Control:=⟨1,[[115,116,97,114,116]],[⟨[103,111],1,⟨3,0,[lnX 2,lnX 0]⟩,lnX 1,0,false⟩,⟨[98,97,99,107],0,⟨2,0,[lnX 3]⟩,⟨0,0,[]⟩,0,false⟩],[3],[4]⟩
theorem lnX_ok {n:Int}(h:inR .i64 n):OkE (lnX n):=.mk _ (by simp[lnX]) (by simp[lnX]) h (by simp[lnX])
theorem backC_ok:OkC backC:=⟨by decide,by decide,by decide,by decide,by
 intro s hs
 simp only[backC,List.mem_cons,List.not_mem_nil,or_false]at hs
 rcases hs with rfl | rfl
 ·exact⟨by decide,by decide,.mk _ (by simp) (by simp) (by simp) (by
   intro a ha
   simp only[List.mem_cons,List.not_mem_nil,or_false]at ha
   rcases ha with rfl | rfl
   ·exact lnX_ok (by simp)
   ·exact lnX_ok (by simp)),lnX_ok (by simp),by decide⟩
 ·exact⟨by decide,by decide,.mk _ (by simp) (by simp) (by simp) (by
   intro a ha
   simp only[List.mem_cons,List.not_mem_nil,or_false]at ha
   rw[ha]
   exact lnX_ok (by simp)),.mk _ (by simp) (by simp) (by simp) (by simp),by decide⟩,by decide,by decide,by decide,by decide⟩
theorem backC_check:checkC backC=0:=by decide +kernel
theorem backC_count:countM backC=9:=by decide +kernel
theorem Back1_fn (n:Int):CallFn Tryz.prog 96 [aI n] (aE (lnX n)):=by
 refine callFz_of Tryz.func96 rfl Tryz.ntmps96 (rs:=[.cell 2 61]) rfl (by kernel_rfl) (by simp) (by kernel_rfl) ?_
 simp[lnX]
theorem Back_fn:CallFn Tryz.prog 46 [] (aC backC):=by
 have b0:=Back1_fn 0
 have b1:=Back1_fn 1
 have b2:=Back1_fn 2
 have b3:=Back1_fn 3
 refine callFz_of Tryz.func46 rfl Tryz.ntmps46 (rs:=[.cell 0 26]) rfl (by kernel_rfl) (by simp) (by kernel_rfl) ?_
 simp
 intro c0
 refine b2.s ?_
 simp
 refine b0.s ?_
 simp
 refine b1.s ?_
 simp
 refine b3.s ?_
 simp[backC,lnX,encE]
end Go.Proofs.YtafamcbdaeppoaaGreatDoor
