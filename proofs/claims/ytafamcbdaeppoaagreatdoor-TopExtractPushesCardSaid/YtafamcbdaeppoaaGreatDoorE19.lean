/- Texts joined by a program: Oh,Oi,Oj,Ol,Ke,Kf. -/
import Derived.Test.YtafamcbdaeppoaaGreatDoorE18
import Derived.Test.YtafamcbdaeppoaaGreatDoorE13
import Derived.Test.YtafamcbdaeppoaaGreatDoorE17
import Derived.Test.YtafamcbdaeppoaaGreatDoorE16
import Derived.Test.YtafamcbdaeppoaaGreatDoorE12
import Derived.Test.YtafamcbdaeppoaaGreatDoorE14
set_option linter.unusedSimpArgs false
set_option linter.unusedVariables false
set_option maxHeartbeats 8000000
set_option maxRecDepth 10000
namespace Go.Proofs.YtafamcbdaeppoaaGreatDoor
abbrev zN' (l:List Nat):List Int:=l.map fun n:Nat=>(n:Int)
theorem aIs_zN (l:List Nat):aIs (zN' l)=aNs l:=by
 unfold aIs aNs
 rw[List.map_map]
 rfl
theorem any_zN (l:List Nat) (p:Int->Bool):(zN' l).any p=l.any fun n=>p (n:Int):=by rw[List.any_map];rfl
theorem containsM_s (xs:List Int) (p:Int->Bool) (f:FuncId) (first caps:List A) (H:Heap) (hx:Sh xs) (hp:∀n∈xs,CallS Tryz.prog f (first++[aI n]++caps) H fun r H'=>r=aB (p n)∧H'=H) :
  CallS Tryz.prog 87 [aIs xs,.fn f first caps] H fun r H'=>r=aB (xs.any p)∧H'=H:=by
 have h:=idxM_s xs p f first caps H hx hp
 refine CallS.dropP (callS_of Tryz.func87 rfl Tryz.ntmps87 (rs:=[.tmp 4]) rfl (by kernel_rfl) (by simp) (by kernel_rfl) (K:=fun r H'=>r=aB (xs.any p)∧subP H H') ?_) (fun _ _ ⟨h1,h2⟩=>⟨_,h2,h1,rfl⟩)
 simp
 refine h.mono ?_
 rintro r H' ⟨rfl,rfl⟩
 simp
 refine⟨?_,subP.refl _⟩
 rw[idxI_ge,List.findIdx?_isSome]
theorem getD_at {st:List Int}{n:Nat}(h:n<st.length):st[n]?=some (st.getD n 0)∧st[n]=st.getD n 0:=by
 rw[List.getD_eq_getElem?_getD,List.getElem?_eq_getElem h]
 exact⟨rfl,rfl⟩
theorem flows1_fn (st:List Int) (n:Nat) (hn:n<st.length) (hl:st.length<=1000):CallFn Tryz.prog 182 [aI n,.rptr [.sl (st.map encI)]] (aB (st.getD n 0==2)):=by
 obtain⟨h1,h2⟩:=getD_at hn
 generalize st.getD n 0=z at *
 refine callFz_of Tryz.func182 rfl Tryz.ntmps182 (rs:=[.tmp 3]) rfl (by kernel_rfl) (by simp) (by kernel_rfl) ?_
 simp[hn,h1,h2]
theorem flows2_s (st:List Int) (n:Nat) (hn:n<st.length) (hl:st.length<=1000) (b5:Nat) :
  CallS Tryz.prog 183 [aI n,.ptr 5 b5 0] [(5,.box b5 [.fn 182 [] [.rptr [.sl (st.map encI)]]])] fun r H'=>r=aB (!(st.getD n 0==2))∧H'=[(5,.box b5 [.fn 182 [] [.rptr [.sl (st.map encI)]]])]:=by
 have h:=flows1_fn st n hn hl
 generalize (st.getD n 0==2)=z at *
 refine callS_of Tryz.func183 rfl Tryz.ntmps183 (rs:=[.tmp 3]) rfl (by kernel_rfl) (by simp) (by kernel_rfl) ?_
 simp
 refine h.s ?_
 simp
theorem flows_fn (st:List Int) (y:Psg) (hl:st.length<=1000) (hy:∀n∈y.src,n<st.length) (hs:y.src.length<=2):CallFn Tryz.prog 125 [aIs st,.record (encPg y)] (aB (flowsZ st y)):=by
 have hc:=fun b5=>containsM_s (zN' y.src) (fun n=>!(st.getD n.toNat 0==2)) 183 [] [.ptr 5 b5 0] [(5,.box b5 [.fn 182 [] [.rptr [.sl (st.map encI)]]])] (by unfold Sh;simp;omega) (fun n hn=>by
  obtain⟨v,hv,rfl⟩:=List.mem_map.1 hn
  exact flows2_s st v (hy v hv) hl b5)
 have hd:=containsF_fn (zN' y.src) (fun n=>st.getD n.toNat 0==2) 182 [] [.rptr [.sl (st.map encI)]] (by unfold Sh;simp;omega) (fun n hn=>by
  obtain⟨v,hv,rfl⟩:=List.mem_map.1 hn
  exact flows1_fn st v (hy v hv) hl)
 rw[aIs_zN,any_zN]at hd
 have hc:=fun b5=>by
  have:=hc b5
  rw[aIs_zN,any_zN]at this
  exact this
 simp only[Int.toNat_natCast]at hc hd
 have hf:flowsZ st y=if y.all=true then !(y.src.any fun n=>!(st.getD n 0==2)) else y.src.any fun n=>st.getD n 0==2:=by
  unfold flowsZ
  split
  ·rw[List.all_eq_not_any_not]
  ·rfl
 rw[hf]
 generalize (y.src.any fun n=>!(st.getD n 0==2))=u at *
 generalize (y.src.any fun n=>st.getD n 0==2)=w at *
 refine callFz_of Tryz.func125 rfl Tryz.ntmps125 (rs:=[.tmp 4]) rfl (by kernel_rfl) (by simp) (by kernel_rfl) ?_
 simp
 intro b5
 refine⟨fun ha=>?_,fun ha=>?_⟩
 ·rw[if_pos ha]
  refine (hc b5).mono ?_
  rintro r H' ⟨rfl,rfl⟩
  simp
 ·rw[if_neg (by simp[ha])]
  refine hd.s ?_
  simp
abbrev clH (g:Value) (b:Nat) (st:List Int):Heap:=[(18,.seq g 3 1 (st.map rI)),(5,.box b [.own 18 g])]
theorem states1_s (st:List Int) (y:Psg) (hl:st.length<=1000) (hy:∀n∈y.src,n<st.length) (hs:y.src.length<=2) (g:Value) (b:Nat) :
  CallS Tryz.prog 124 [.record (encPg y),.ptr 5 b 0] (clH g b st) fun r H'=>r=aB (flowsZ st y)∧H'=clH g b st:=by
 have h:=flows_fn st y hl hy hs
 generalize flowsZ st y=z at *
 refine CallS.dropP (callS_of Tryz.func124 rfl Tryz.ntmps124 (rs:=[.tmp 3]) rfl (by kernel_rfl) (by simp) (by kernel_rfl) (K:=fun r H'=>r=aB z∧subP (clH g b st) H') ?_) (fun _ _ ⟨h1,h2⟩=>⟨_,h2,h1,rfl⟩)
 simp
 refine h.lend (by simp[frzs,frz,hget,hdel]) rfl ?_
 simp
 exact subP.refl _
theorem states21_s (st:List Int) (n:Nat) (hn:n<st.length) (hl:st.length<=1000) (g:Value) (b:Nat) :
  CallS Tryz.prog 128 [aI n,.ptr 5 b 0] (clH g b st) fun r H'=>r=aB (st.getD n 0==1)∧H'=clH g b st:=by
 obtain⟨h1,h2⟩:=getD_at hn
 generalize st.getD n 0=z at *
 refine callS_of Tryz.func128 rfl Tryz.ntmps128 (rs:=[.tmp 3]) rfl (by kernel_rfl) (by simp) (by kernel_rfl) ?_
 simp[hn,h1,h2]
theorem states2_s (st:List Int) (y:Psg) (hl:st.length<=1000) (hy:∀n∈y.src,n<st.length) (hs:y.src.length<=2) (g:Value) (b:Nat) :
  CallS Tryz.prog 127 [.record (encPg y),.ptr 5 b 0] (clH g b st) fun r H'=>r=aB (airZ st y)∧H'=clH g b st:=by
 have hc:=containsM_s (zN' y.src) (fun n=>st.getD n.toNat 0==1) 128 [] [.ptr 5 b 0] (clH g b st) (by unfold Sh;simp;omega) (fun n hn=>by
  obtain⟨v,hv,rfl⟩:=List.mem_map.1 hn
  exact states21_s st v (hy v hv) hl g b)
 rw[aIs_zN,any_zN]at hc
 simp only[Int.toNat_natCast]at hc
 have hf:airZ st y=y.src.any fun n=>st.getD n 0==1:=rfl
 rw[hf]
 generalize (y.src.any fun n=>st.getD n 0==1)=z at *
 refine CallS.dropP (callS_of Tryz.func127 rfl Tryz.ntmps127 (rs:=[.tmp 3]) rfl (by kernel_rfl) (by simp) (by kernel_rfl) (K:=fun r H'=>r=aB z∧subP (clH g b st) H') ?_) (fun _ _ ⟨h1,h2⟩=>⟨_,h2,h1,rfl⟩)
 simp
 refine hc.mono ?_
 rintro r H' ⟨rfl,rfl⟩
 simp
 exact subP.refl _
theorem closed_s (v:Int) (hv:v≠0) (tk:List Int->Psg->Bool) (f:FuncId) (l:List Psg) (N:Nat) (hl:l.length<=1000) (hN:N<=1000) (hto:∀y∈l,y.to<N) (g:Value) (b:Nat)
  (hc:∀st y,y∈l->st.length=N->CallS Tryz.prog f [.record (encPg y),.ptr 5 b 0] (clH g b st) fun r H'=>r=aB (tk st y)∧H'=clH g b st) (st0:List Int) (h0:st0.length=N) :
  CallS Tryz.prog 123 [.own 18 g,.dat (.sl (l.map encPg)),aI v,.fn f [] [.ptr 5 b 0]] (clH g b st0) fun r H'=>r=.tuple []∧H'=clH g b (closeZ v tk l (N+1) st0):=by
 generalize hR:closeZ v tk l (N+1) st0=R
 refine CallS.dropP (callS_of Tryz.func123 rfl Tryz.ntmps123 (rs:=[]) rfl (by kernel_rfl) (by simp) (by kernel_rfl) (K:=fun r H'=>r=.tuple []∧subP (clH g b R) H') ?_) (fun _ _ ⟨h1,h2⟩=>⟨_,h2,h1,rfl⟩)
 simp
 refine V.for' (ι:=List Int×Bool×Nat) [0,1,2,3] (fun q=>[(8,aB q.2.1)]) (fun q=>clH g b q.1) (fun q=>q.1.length=N∧if q.2.1=true then zeros q.1<q.2.2∧closeZ v tk l q.2.2 q.1=R else q.1=R) (fun q=>if q.2.1=true then zeros q.1+1 else 0) (st0,true,N+1) ⟨⟨h0,?_⟩,by simp,subP.refl _⟩ ?_
 ·have:=zeros_le st0
  exact⟨by simp only;omega,hR⟩
 ·rintro⟨st,m,n⟩ ⟨h1,h2⟩
  simp only at h1 h2
  cases m with
  | false=>
   simp only[Bool.false_eq_true,if_false]at h2
   subst h2
   simp
   exact subP.refl _
  | true=>
   simp only[if_true]at h2
   obtain⟨h2,h3⟩:=h2
   obtain⟨n,rfl⟩:∃k,n=k+1:=⟨n-1,by omega⟩
   obtain⟨s1,s2⟩:=sweep_zeros hv (tk:=tk) hto h1
   unfold closeZ at h3
   simp
   refine V.forI (σ:=List Int×Bool) l.length [0,1,2,3,12,13] (by simp;exact rfl) (fun j q=>[(8,aB q.2),(14,aI j)]) (fun _ q=>clH g b q.1) (fun j q=>q.1.length=N∧q=(l.take j).foldl (swStep v tk) (st,false)) (st,false) ⟨h1,rfl⟩ (by simp) ⟨by simp;exact rfl,by simp⟩ ?_ ?_
   ·rintro j ⟨s,m⟩ hj ⟨k1,k2⟩
    simp only at k1
    obtain⟨y,hy⟩:∃y,l[j]=y:=⟨_,rfl⟩
    have hyo:l[j]?=some y:=by rw[List.getElem?_eq_getElem hj,hy]
    have hym:=List.mem_of_getElem? hyo
    have hyt:=hto y hym
    have hcs:=hc s y hym k1
    have hst:(l.take (j+1)).foldl (swStep v tk) (st,false)=swStep v tk (s,m) y:=by
     rw[List.take_add_one,hyo,List.foldl_append,<- k2]
     rfl
    rw[hst]
    unfold swStep
    simp only
    have hys:y.to<s.length:=by omega
    obtain⟨e1,e2⟩:=getD_at hys
    generalize s.getD y.to 0=z at *
    simp[hj,hy,hyo]
    intro b10
    simp[hys,e1,e2]
    by_cases hz:z=0
    ·refine GCall.sure ⟨hz,hcs.c1.mono ?_⟩ hz
     rintro r H' ⟨_,⟨rfl,rfl⟩,rfl⟩
     cases htk:tk s y
     ·simp[hz]
      refine⟨⟨by omega,by omega⟩,s,?_⟩
      cases m
      ·exact .inl ⟨⟨k1,rfl,rfl⟩,rfl,rfl⟩
      ·exact .inr ⟨⟨k1,rfl,rfl⟩,rfl,rfl⟩
     ·simp[hz,hys,e1,e2]
      exact⟨⟨by omega,by omega⟩,s.set y.to v,⟨by rw[List.length_set];exact k1,rfl⟩,by rw[List.map_set]⟩
    ·refine GCall.never hz (aB false) ?_
     simp[hz]
     refine⟨⟨by omega,by omega⟩,s,?_⟩
     cases m
     ·exact .inl ⟨⟨k1,rfl,rfl⟩,rfl,rfl⟩
     ·exact .inr ⟨⟨k1,rfl,rfl⟩,rfl,rfl⟩
   ·rintro⟨s,m⟩ ⟨k1,k2⟩
    rw[List.take_length]at k2
    have hq:sweep v tk l st=(s,m):=k2.symm
    rw[hq]at h3 s1 s2
    simp
    cases m with
    | false=>
     simp only[Bool.false_eq_true,if_false]at h3
     exact⟨s,.inl ⟨⟨k1,h3⟩,rfl,subP.refl _⟩⟩
    | true=>
     simp only[if_true]at h3 s2
     exact⟨s,.inr ⟨⟨k1,n,by omega,h3⟩,by omega,rfl,subP.refl _⟩⟩
theorem portT_eq (k:Nat) (hk:k<14):portT k=portsK k:=by
 have h1:(portT k).Pairwise fun a b=>decide (a<=b)=true:=by
  unfold portT sortT
  refine List.pairwise_mergeSort ?_ ?_ _
  ·intro a b c h1 h2
   simp only[decide_eq_true_eq]at *
   exact List.le_trans h1 h2
  ·intro a b
   simp only[Bool.or_eq_true,decide_eq_true_eq]
   exact List.le_total a b
 have h2:(portT k).Perm (portsK k):=(List.mergeSort_perm _ _).trans (portsK_perm k hk)
 refine sorted_same (fun a b _ _ h3 h4=>?_) h1 (portsK_le k hk) h2
 simp only[decide_eq_true_eq]at h3 h4
 exact List.le_antisymm h3 h4
theorem open_fn (p:Prt) (hk:0<=p.kind∧p.kind<14) (n:Nat) (hn:n<manyK p.kind.toNat):CallFn Tryz.prog 126 [.record (encPa p),aI n] (aTs (openK p.kind.toNat n)):=by
 obtain⟨k,nm,d⟩:=p
 simp only at hk hn ⊢
 obtain⟨m,rfl⟩:∃m:Nat,k=m:=⟨k.toNat,by omega⟩
 simp only[Int.toNat_natCast]at hn ⊢
 have hv:=Vents_k m (by omega) n hn
 have hp:=Ports_fn m (by omega)
 rw[portT_eq m (by omega)]at hp
 have hr:=fun t=>Role_k m (by omega) t
 have hvl:(vntK m n).length<=1:=by
  unfold vntK
  repeat' split
  all_goals simp
 have hpl:=portsK_len m
 unfold openK exhK
 generalize vntK m n=W at *
 generalize portsK m=F at *
 refine callFz_of Tryz.func126 rfl Tryz.ntmps126 (rs:=[.tmp 4]) rfl (by kernel_rfl) (by simp) (by kernel_rfl) ?_
 simp
 refine hv.s ?_
 simp
 refine hp.s ?_
 simp
 refine V.forV (σ:=Unit) F.length [2,4,26,27] (by simp;exact rfl) (fun i _=>[(5,aTs (W++(F.take i).filter fun t=>roleK m t==some 2)),(28,aI i)]) (fun _ _=>[]) (fun _ _=>True) () trivial (by simp) ⟨by simp;exact rfl,by simp⟩ ?_ ?_
 ·rintro i-hi -
  obtain⟨t,ht⟩:∃t,F[i]=t:=⟨_,rfl⟩
  have hto:F[i]?=some t:=by rw[List.getElem?_eq_getElem hi,ht]
  have hrt:=hr t
  have hfl:((F.take i).filter fun t=>roleK m t==some 2).length<=7:=Nat.le_trans (List.length_filter_le _ _) (by rw[List.length_take];omega)
  have hnx:(F.take (i+1)).filter (fun t=>roleK m t==some 2)=(F.take i).filter (fun t=>roleK m t==some 2)++if roleK m t=some 2 then [t] else []:=by
   rw[List.take_add_one,hto,List.filter_append]
   congr 1
   by_cases e:roleK m t=some 2<;>simp[e]
  rw[hnx]
  generalize (F.take i).filter (fun t=>roleK m t==some 2)=U at *
  refine V.seqV (V.of_vc ?_)
  simp[hi]
  refine V.seqV (V.condV ?_)
  simp
  refine V.of_vc ?_
  simp
  refine V.seqV (V.blockV (V.of_vcN 2 ?_))
  simp[hi,ht,hto]
  refine hrt.s ?_
  simp
  refine V.seqV (V.of_vc ?_)
  simp
  refine V.condV ?_
  simp
  refine⟨fun h1=>?_,fun h1=>?_⟩
  ·have e:roleK m t=some 2:=by
    cases hrr:roleK m t with
    | none=>rw[hrr]at h1;simp at h1
    | some q=>rw[hrr]at h1;simp only[Option.getD_some]at h1;congr 1;omega
   have htk:List.take (W.length+U.length) (List.map encT W++List.map encT U)=(W++U).map encT:=by
    rw[<- List.map_append]
    exact List.take_of_length_le (by simp)
   rw[if_pos e]
   refine V.regF (fun t=>if t=46∨t=49 then some .clip else none) [] ?_
   simp
   rw[show ((W.length:Int)+(U.length:Int)).toNat=W.length+U.length by omega,htk]
   refine⟨by omega,⟨of_eq_true (rl_map (f:=encT) (n:=1) (fun _=>rfl) _),by omega⟩,?_⟩
   refine V.of_vc ?_
   simp
   refine⟨⟨by omega,by omega⟩,Gh.here ?_⟩
   have e2:A.dat (L.sl (List.map encT W++(List.map encT U++[[L.str t]])))=aTs (W++(U++[t])):=by simp[aTs,encT]
   simp[e2]
  ·have e:¬roleK m t=some 2:=by
    intro e
    rw[e]at h1
    simp at h1
   rw[if_neg e]
   refine V.of_vc ?_
   simp
   refine V.of_vc ?_
   simp
   refine⟨⟨by omega,by omega⟩,Gh.here ?_⟩
   simp
 ·rintro - -
  simp
abbrev stE (b b5:Nat) (pos:List Int) (pg:List Psg):List (Nat×A):=[(0,.ptr 170 b 0),(1,aIs pos),(4,.nils),(5,.ptr 5 b5 0),(6,.dat (.sl (pg.map encPg)))]
abbrev stK (s:PuS) (pos:List Int) (r:A) (H':Heap):Prop:=∃g,r=.own 18 g∧subP ((18,.seq g 3 1 ((statesZ s.ps s.ns pos).map rI))::s.hp) H'
structure PuS.Of (s:PuS) (c:Cir) (pos:List Int):Prop where
 ok:s.OK
 right:CirR c
 ps:s.ps=c.parts
 ns:s.ns=netsZ c
 pos:PosOK s.ps pos
theorem PuS.Of.two {s:PuS}{c:Cir}{pos:List Int}(h:s.Of c pos):∀i,i<c.parts.length->posN pos i<2:=fun i hi=>(h.pos.at (by rw[h.ps];exact hi)).2.2
theorem PuS.Of.psg {s:PuS}{c:Cir}{pos:List Int}(h:s.Of c pos):(psgsN s.ps s.ns pos s.ps.length).length<=64∧∀y∈psgsN s.ps s.ns pos s.ps.length,y.to<s.ns.length∧(∀n∈y.src,n<s.ns.length)∧y.src.length<=2:=by
 refine⟨Nat.le_trans (psgsN_len _ _ _ _) h.ok.few,fun y hy=>?_⟩
 have h1:=psgs_lt h.right h.two y (by rw[<- h.ps,<- h.ns];exact hy)
 rw[h.ns]
 refine⟨h1.1,h1.2,?_⟩
 obtain⟨i,z,hi,hz,rfl⟩:=mem_psgs.1 hy
 simp only[List.length_map]
 exact passK_srcl _ _ z hz
theorem open_port:∀k,k<14->∀n,n<2->∀t∈openK k n,t∈portsK k:=by decide
theorem openK_len:∀k,k<14->∀n,n<2->(openK k n).length<=8:=by decide
theorem opN_succ (ps:List Prt) (nets:List (List PortZ)) (pos st:List Int) (n:Nat):opN ps nets pos st (n+1)=(openK (kindOf ps n) (posN pos n)).foldl (opStep nets n) (opN ps nets pos st n):=by
 unfold opN
 rw[List.range_succ,List.foldl_append,List.foldl_cons,List.foldl_nil]
theorem states_d {s:PuS}{c:Cir}{pos:List Int}(h:s.Of c pos) (b5:Nat) (g:Value) (st:List Int) (hst:st.length=s.ns.length) (hS:statesZ s.ps s.ns pos=closeZ 1 airZ (psgsN s.ps s.ns pos s.ps.length) (s.ns.length+1) (opN s.ps s.ns pos st s.ps.length)) :
  V ⟨Tryz.prog,none,87⟩ (restC Tryz.f58 5) (hdE (stE s.b b5 pos (psgsN s.ps s.ns pos s.ps.length)) []) (clH g b5 st++s.hp) (RetV Tryz.prog [.tmp 4] (stK s pos)):=by
 obtain⟨p1,p2⟩:=h.psg
 have hfew:=h.ok.few
 have hnl:=h.ok.nets
 have hpl:=h.pos.1
 have hcl:=fun st0 h0=>closed_s 1 (by decide) airZ 127 (psgsN s.ps s.ns pos s.ps.length) s.ns.length (by omega) (by omega) (fun y hy=>(p2 y hy).1) g b5 (fun st y hy hl=>states2_s st y (by omega) (by rw[hl];exact (p2 y hy).2.1) (p2 y hy).2.2 g b5) st0 h0
 unfold stK
 rw[hS]
 generalize psgsN s.ps s.ns pos s.ps.length=PG at *
 refine V.rest rfl ?_
 refine V.of_vcN 1 ?_
 simp
 refine V.forI (σ:=Unit) s.ps.length [0,1,4,5,6,50,51] (by simp;exact rfl) (fun i _=>[(52,aI i)]) (fun i _=>clH g b5 (opN s.ps s.ns pos st i)++s.hp) (fun _ _=>True) () trivial (by simp) ⟨by simp;exact rfl,by simp[opN]⟩ ?_ ?_
 ·rintro i-hi -
  obtain⟨p,hpp⟩:∃p,s.ps[i]=p:=⟨_,rfl⟩
  have hpo:s.ps[i]?=some p:=by rw[List.getElem?_eq_getElem hi,hpp]
  obtain⟨q1,q2,q3⟩:=h.pos.at hi
  obtain⟨hil,q4⟩:=List.getElem?_eq_some_iff.1 q1
  have hk:=kindOf_at hpo
  have hkn:=h.ok.kinds p (List.mem_of_getElem? hpo)
  have hop:=open_fn p hkn (posN pos i) (by rw[<- hk];exact q2)
  have hpt:∀t∈openK p.kind.toNat (posN pos i),((i:Int),t)∈allP s.ps:=fun t ht=>port_of hi (by rw[hk];exact open_port _ (by omega) _ q3 t ht)
  have hol:=openK_len p.kind.toNat (by omega) (posN pos i) q3
  have hll:=opN_len s.ps s.ns pos st i
  rw[opN_succ,hk]
  generalize opN s.ps s.ns pos st i=st1 at *
  generalize openK p.kind.toNat (posN pos i)=O at *
  simp[hi,hpp,hpo]
  intro b10
  refine V.drawX (fun t=>if t=62 then some (.fn (aTs O)) else none) (by kernel_rfl) (by kernel_rfl) (by simp) ?_
  simp[hil,q1,q4]
  refine⟨hop,?_⟩
  simp
  refine V.forI (σ:=Unit) O.length [0,1,4,5,6,9,50,51,52,62,63] (by simp;exact rfl) (fun j _=>[(64,aI j)]) (fun j _=>(10,.box b10 ((encPa p).map A.dat))::(clH g b5 ((O.take j).foldl (opStep s.ns i) st1)++s.hp)) (fun _ _=>True) () trivial (by simp) ⟨by simp;exact rfl,by simp⟩ ?_ ?_
  ·rintro j-hj -
   obtain⟨t,ht⟩:∃t,O[j]=t:=⟨_,rfl⟩
   have hto:O[j]?=some t:=by rw[List.getElem?_eq_getElem hj,ht]
   have hnt:=hpt t (List.mem_of_getElem? hto)
   have hnet:=puNet_s h.ok hnt
   have hlt:=(h.ok.of _ hnt).2
   have hl2:=op_len s.ns i (O.take j) st1
   have hnx:(O.take (j+1)).foldl (opStep s.ns i) st1=opStep s.ns i ((O.take j).foldl (opStep s.ns i) st1) t:=by
    rw[List.take_add_one,hto,List.foldl_append]
    rfl
   rw[hnx]
   generalize (O.take j).foldl (opStep s.ns i) st1=u at *
   rw[show opStep s.ns i u t=if u.getD (netW s.ns ((i:Int),t)) 0=0 then u.set (netW s.ns ((i:Int),t)) 1 else u from rfl]
   generalize netW s.ns ((i:Int),t)=w at *
   have hwu:w<u.length:=by omega
   obtain⟨e1,e2⟩:=getD_at hwu
   generalize u.getD w 0=z at *
   simp[hj,ht,hto]
   refine (hnet.mid [(10,_),(18,_),(5,_)] []).mono ?_
   rintro r H' ⟨rfl,rfl⟩
   simp[hwu,e1,e2]
   exact⟨fun hz=>⟨⟨by omega,by omega⟩,by rw[if_pos hz,List.map_set]⟩,fun hz=>⟨⟨by omega,by omega⟩,by rw[if_neg hz]⟩⟩
  ·rintro - -
   rw[List.take_length]
   simp
   omega
 ·rintro - -
  simp
  refine V.of_vc ?_
  simp
  refine ((hcl (opN s.ps s.ns pos st s.ps.length) (by rw[opN_len,hst])).frame (H1:=s.hp)).mono ?_
  rintro r H' ⟨_,⟨rfl,rfl⟩,rfl⟩
  simp
  exact⟨_,List.Sublist.cons_cons _ (List.Sublist.cons _ (List.Sublist.refl _)),List.Perm.refl _⟩
theorem states_s {s:PuS}{c:Cir}{pos:List Int}(h:s.Of c pos) :
  CallS Tryz.prog 58 [.ptr 170 s.b 0,aIs pos] s.hp fun r H'=>∃g,r=.own 18 g∧H'=(18,.seq g 3 1 ((statesZ s.ps s.ns pos).map rI))::s.hp:=by
 obtain⟨p1,p2⟩:=h.psg
 have hfew:=h.ok.few
 have hnl:=h.ok.nets
 have hpl:=h.pos.1
 have hpas:=passages_s h.ok h.pos
 have hcl:=fun g b5=>closed_s 2 (by decide) flowsZ 124 (psgsN s.ps s.ns pos s.ps.length) s.ns.length (by omega) (by omega) (fun y hy=>(p2 y hy).1) g b5 (fun st y hy hl=>states1_s st y (by omega) (by rw[hl];exact (p2 y hy).2.1) (p2 y hy).2.2 g b5) (supN s.ps s.ns s.ps.length) (supN_len _ _ _)
 have hrest:=fun b5 g=>states_d h b5 g (pressedZ s.ps s.ns pos) (pressed_len _ _ _) rfl
 unfold pressedZ at hrest
 refine CallS.dropP (callS_cut 5 Tryz.func58 rfl Tryz.ntmps58 (rs:=[.tmp 4]) rfl (by kernel_rfl) (by simp) (by kernel_rfl) (K:=stK s pos) ?_) (fun r H' ⟨g,h1,h2⟩=>⟨_,h2,g,h1,rfl⟩)
 generalize psgsN s.ps s.ns pos s.ps.length=PG at *
 simp
 intro g
 refine⟨by omega,?_⟩
 intro b5
 refine (hpas.mid [(5,_),(18,_)] []).mono ?_
 rintro r H' ⟨rfl,rfl⟩
 simp
 refine V.forI (σ:=Unit) s.ps.length [0,1,4,5,6,26,27] (by simp;exact rfl) (fun i _=>[(28,aI i)]) (fun i _=>clH g b5 (supN s.ps s.ns i)++s.hp) (fun _ _=>True) () trivial (by simp) ⟨by simp;exact rfl,by simp[supN]⟩ ?_ ?_
 ·rintro i-hi -
  obtain⟨p,hpp⟩:∃p,s.ps[i]=p:=⟨_,rfl⟩
  have hpo:s.ps[i]?=some p:=by rw[List.getElem?_eq_getElem hi,hpp]
  have hk:=kindOf_at hpo
  have hkn:=h.ok.kinds p (List.mem_of_getElem? hpo)
  have hll:=supN_len s.ps s.ns i
  rw[supN_succ]
  unfold supStep
  rw[hk]
  generalize supN s.ps s.ns i=st1 at *
  simp[hi,hpp,hpo]
  intro b8
  refine⟨fun hk0=>?_,fun hk0=>?_⟩
  ·have hport:((i:Int),[49])∈allP s.ps:=port_of hi (by rw[hk,hk0];simp[portsK])
   have hnet:=puNet_s h.ok hport
   have hlt:=(h.ok.of _ hport).2
   rw[if_pos (by omega)]
   generalize netW s.ns ((i:Int),[49])=w at *
   have hwu:w<st1.length:=by omega
   refine V.drawX (fun t=>if t=39 then some (.ro (aI w)) else none) (by kernel_rfl) (by kernel_rfl) (by simp) ?_
   simp[hwu]
   refine⟨hnet,?_⟩
   simp[hwu]
   exact⟨by kernel_rfl,by omega,by omega⟩
  ·rw[if_neg (by omega)]
   simp
   omega
 ·rintro - -
  simp
  refine ((hcl g b5).frame (H1:=s.hp)).mono ?_
  rintro r H' ⟨_,⟨rfl,rfl⟩,rfl⟩
  simp
  exact V.cutV (Hs:=clH g b5 (closeZ 2 flowsZ PG (s.ns.length+1) (supN s.ps s.ns s.ps.length))++s.hp) (stE s.b b5 pos PG) (by simp) (by simp) (V.of_rest rfl (hrest b5 g))
theorem statesD_s {s:PuS}{c:Cir}{pos:List Int}(h:s.Of c pos) :
  CallS Tryz.prog 58 [.ptr 170 s.b 0,aIs pos] s.hp fun r H'=>r=aIs (statesZ s.ps s.ns pos)∧H'=s.hp:=
 CallS.frzTop (τ:=18) (e:=3) (sz:=1) (rows:=(statesZ s.ps s.ns pos).map rI) (by simp[allD,isD]) (by simp[rowsD]) ((states_s h).mono fun r H' ⟨g,h1,h2⟩=>⟨g,h1,by rw[h2];exact subP.refl _⟩)
abbrev s1H (s:PuS) (st:List Int) (i b6 b2 b9:Nat):Heap:=[(6,.box b6 [aIs st]),(2,.box b2 [.ptr 170 s.b 0]),(170,.box s.b s.cells),(171,.mapK s.m false s.E),(9,.box b9 [aI i])]
theorem step1_b {s:PuS}(h:s.OK) {st:List Int}(hst:st.length=s.ns.length) {i:Nat}{t:List UInt8}(hp:t≠[]->((i:Int),t)∈allP s.ps) (b6 b2 b9:Nat) :
  CallS Tryz.prog 138 [aT t,.ptr 6 b6 0,.ptr 2 b2 0,.ptr 9 b9 0] (s1H s st i b6 b2 b9) fun r H'=>r=aB (t != []&&decide (st.getD (netW s.ns ((i:Int),t)) 0=2))∧H'=s1H s st i b6 b2 b9:=by
 have hnl:=h.nets
 by_cases ht:t=[]
 ·subst ht
  refine CallS.dropP (callS_of Tryz.func138 rfl Tryz.ntmps138 (rs:=[.tmp 5]) rfl (by kernel_rfl) (by simp) (by kernel_rfl) (K:=fun r H'=>r=aB false∧subP (s1H s st i b6 b2 b9) H') ?_) (fun _ _ ⟨h1,h2⟩=>⟨_,h2,by simpa using h1,rfl⟩)
  simp
  refine V.drawX (fun t=>if t=13 then some (.ro (aI 0)) else none) (by kernel_rfl) (by kernel_rfl) (by simp) ?_
  simp
  rcases st with _ | ⟨z,st⟩
  ·simp
   exact subP.refl _
  ·simp
   exact subP.refl _
 ·have hnet:=puNet_s h (hp ht)
  have hlt:=(h.of _ (hp ht)).2
  generalize netW s.ns ((i:Int),t)=w at *
  have hws:w<st.length:=by omega
  obtain⟨e1,e2⟩:=getD_at hws
  generalize st.getD w 0=z at *
  refine CallS.dropP (callS_of Tryz.func138 rfl Tryz.ntmps138 (rs:=[.tmp 5]) rfl (by kernel_rfl) (by simp) (by kernel_rfl) (K:=fun r H'=>r=aB (t != []&&decide (z=2))∧subP (s1H s st i b6 b2 b9) H') ?_) (fun _ _ ⟨h1,h2⟩=>⟨_,h2,h1,rfl⟩)
  simp
  refine V.drawX (fun t=>if t=13 then some (.ro (aI w)) else none) (by kernel_rfl) (by kernel_rfl) (by simp) ?_
  simp[ht,hws,e1,e2]
  exact⟨hnet,rfl,subP.refl _⟩
abbrev s1A (s:PuS) (st:List Int) (i b6 b2 b9:Nat):Heap:=[(6,.box b6 [aIs st]),(170,.box b2 [.ptr 171 s.b 0]),(171,.box s.b [.dat (.sl (s.ps.map encPa)),.dat (.sl (s.l.map encPi)),aI s.ns.length,.map 172 s.m]),(172,.mapK s.m false s.E),(9,.box b9 [aI i])]
theorem s1_AB {s:PuS}{st:List Int}{i b6 b2 b9:Nat}{x:X}{H0:Heap}(hi:Inv x (s1A s st i b6 b2 b9++H0)):Inv x (s1H s st i b6 b2 b9++H0):=by
 have h1:Inv x ([(6,Ent.box b6 [aIs st]),(2,.box b2 [.ptr 171 s.b 0]),(170,.box s.b [.dat (.sl (s.ps.map encPa)),.dat (.sl (s.l.map encPi)),aI s.ns.length,.map 172 s.m]),(171,.mapK s.m false s.E),(9,.box b9 [aI i])]++H0):=hi.ents (by simp)
 have h2:=Inv.swap (g:=2) (e:=.box b2 [.ptr 171 s.b 0]) (e':=.box b2 [.ptr 170 s.b 0]) rfl (box_sat (Ds_c D_tag Ds_i)) (fun _ h=>h) h1
 have h3:=Inv.swap (g:=170) (e:=.box s.b [.dat (.sl (s.ps.map encPa)),.dat (.sl (s.l.map encPi)),aI s.ns.length,.map 172 s.m]) (e':=.box s.b s.cells) rfl (box_sat (Ds_c D_i (Ds_c D_i (Ds_c D_i (Ds_c D_mtag Ds_i))))) (fun _ h=>h) h2
 exact h3
theorem s1_BA {s:PuS}{st:List Int}{i b6 b2 b9:Nat}{x:X}{H0:Heap}(hi:Inv x (s1H s st i b6 b2 b9++H0)):Inv x (s1A s st i b6 b2 b9++H0):=by
 have h1:Inv x ([(6,Ent.box b6 [aIs st]),(170,.box b2 [.ptr 170 s.b 0]),(171,.box s.b s.cells),(172,.mapK s.m false s.E),(9,.box b9 [aI i])]++H0):=hi.ents (by simp)
 have h2:=Inv.swap (g:=170) (e:=.box b2 [.ptr 170 s.b 0]) (e':=.box b2 [.ptr 171 s.b 0]) rfl (box_sat (Ds_c D_tag Ds_i)) (fun _ h=>h) h1
 have h3:=Inv.swap (g:=171) (e:=.box s.b s.cells) (e':=.box s.b [.dat (.sl (s.ps.map encPa)),.dat (.sl (s.l.map encPi)),aI s.ns.length,.map 172 s.m]) rfl (box_sat (Ds_c D_i (Ds_c D_i (Ds_c D_i (Ds_c D_mtag Ds_i))))) (fun _ h=>h) h2
 exact h3
theorem step1_s {s:PuS}(h:s.OK) {st:List Int}(hst:st.length=s.ns.length) {i:Nat}{t:List UInt8}(hp:t≠[]->((i:Int),t)∈allP s.ps) (b6 b2 b9:Nat) :
  CallS Tryz.prog 138 [aT t,.ptr 6 b6 0,.ptr 170 b2 0,.ptr 9 b9 0] (s1A s st i b6 b2 b9) fun r H'=>r=aB (t != []&&decide (st.getD (netW s.ns ((i:Int),t)) 0=2))∧H'=s1A s st i b6 b2 b9:=by
 refine CallS.res (CallS.inv (az':=[aT t,.ptr 6 b6 0,.ptr 2 b2 0,.ptr 9 b9 0]) (fun x H0 hi=>s1_AB hi) (fun x vs=>Ds_c D_i (Ds_c D_i (Ds_c D_tag (Ds_c D_i Ds_i))) vs) (step1_b h hst hp b6 b2 b9)) ?_
 rintro r H' ⟨rfl,rfl⟩
 exact⟨_,_,fun x H0 hi=>s1_BA hi,fun _ _ h=>h,rfl,rfl⟩
theorem LetterR_fn (n:Nat):CallFn Tryz.prog 408 [.dat (.int .u8 n)] (aB (letC n)):=by
 refine callFz_of Tryz.func408 rfl Tryz.ntmps408 (rs:=[.tmp 2]) rfl (by kernel_rfl) (by simp) (by kernel_rfl) ?_
 simp
 unfold letC
 by_cases h1:97<=n<;>by_cases h2:n<=122<;>by_cases h3:65<=n<;>by_cases h4:n<=90<;>simp[h1,h2,h3,h4]<;>omega
theorem DigitR_fn (n:Nat):CallFn Tryz.prog 411 [.dat (.int .u8 n)] (aB (digQ n)):=by
 refine callFz_of Tryz.func411 rfl Tryz.ntmps411 (rs:=[.tmp 2]) rfl (by kernel_rfl) (by simp) (by kernel_rfl) ?_
 simp
 unfold digQ
 by_cases h1:48<=n<;>by_cases h2:n<=57<;>simp[h1,h2]<;>omega
theorem innerR_fn (n:Nat):CallFn Tryz.prog 409 [.dat (.int .u8 n)] (aB (innC n)):=by
 have h1:=LetterR_fn n
 have h2:=DigitR_fn n
 refine callFz_of Tryz.func409 rfl Tryz.ntmps409 (rs:=[.tmp 2]) rfl (by kernel_rfl) (by simp) (by kernel_rfl) ?_
 simp
 refine h1.s ?_
 unfold innC
 cases letC n
 ·simp
  refine GCall.fn (aB (digQ n)) (fun _=>⟨trivial,h2⟩) ?_
  cases digQ n
  ·by_cases h:n=95
   ·subst h;simp
   ·simp[h]
    try omega
  ·simp
 ·simp
  refine GCall.fn .undef (fun h=>absurd h (by simp)) ?_
  simp
theorem WordR_fn (s:List UInt8) (hs:s.length<=1000000000):CallFn Tryz.prog 404 [aT s] (aI (wordE s)):=by
 refine callFz_of Tryz.func404 rfl Tryz.ntmps404 (rs:=[.tmp 2]) rfl (by kernel_rfl) (by simp) (by kernel_rfl) ?_
 cases s with
 | nil=>
  unfold wordE
  simp
  refine GCall.fn .undef (fun h=>absurd h (by simp)) ?_
  simp
 | cons b r=>
  have hcf:=LetterR_fn b.toNat
  have hw:wordE (b::r)=if letC b.toNat=false then 3 else if ((b::r).all fun b=>innC b.toNat)=false then 3 else if 24<r.length+1 then 17 else 0:=by
   simp[wordE]
  obtain⟨s,hsd⟩:∃s,b::r=s:=⟨_,rfl⟩
  have hl:s.length=r.length+1:=by rw[<- hsd];rfl
  have hb0:s[0]?=some b:=by rw[<- hsd];rfl
  rw[hsd]at hs hw ⊢
  rw[<- hl]at hw
  rw[hw]
  have hpos:0<s.length:=by omega
  have hne:¬(s.length:Int)=0:=by omega
  have hb1:s[0]=b:=by simpa [List.getElem?_eq_getElem hpos]using hb0
  have hnil:¬s=[]:=by rintro rfl;simp at hpos
  simp[hne,hb0,hb1,hpos,hnil]
  refine GCall.fn (aB (letC b.toNat)) (fun _=>⟨trivial,hcf⟩) ?_
  cases letC b.toNat
  ·simp
  ·simp[hnil]
   refine V.forI (σ:=Unit) s.length [0] (by simp;exact rfl) (fun i _=>[(2,aI 0),(3,aI i)]) (fun _ _=>[]) (fun i _=>∀j (hj:j<s.length),j<i->innC s[j].toNat=true) () (by simp) (by simp) ⟨by simp;exact rfl,by simp⟩ ?_ ?_
   ·rintro i-hi hI
    obtain⟨b,hb1⟩:∃b,s[i]=b:=⟨_,rfl⟩
    have hbo:s[i]?=some b:=by rw[List.getElem?_eq_getElem hi,hb1]
    have hin:=innerR_fn b.toNat
    simp[hi,hbo,hb1]
    refine hin.s ?_
    cases h:innC b.toNat
    ·have:(s.all fun b=>innC b.toNat)=false:=List.all_eq_false.2 ⟨b,List.mem_of_getElem? hbo,by simp[h]⟩
     simp[this]
    ·simp
     refine⟨by omega,fun j hj hji=>?_⟩
     by_cases e:j=i
     ·subst e
      rw[hb1,h]
     ·exact hI j hj (by omega)
   ·rintro-hI
    have:(s.all fun b=>innC b.toNat)=true:=by
     rw[List.all_eq_true]
     intro b hb
     obtain⟨j,hj,e⟩:=List.getElem_of_mem hb
     rw[<- e,hI j hj hj]
    simp[this]
    by_cases h24:24<s.length
    ·simp[h24]
     try omega
    ·simp[h24]
     try omega
theorem RightK_fn (k:Int):CallFn Tryz.prog 351 [aI k] (aI (if 0<=k∧k<14 then 0 else 1)):=by
 refine callFz_of Tryz.func351 rfl Tryz.ntmps351 (rs:=[.tmp 2]) rfl (by kernel_rfl) (by simp) (by kernel_rfl) ?_
 by_cases h1:k<0
 ·simp[h1]
  try omega
 ·by_cases h2:14<=k
  ·simp[h1,h2]
   try omega
  ·simp[h1,h2]
   try omega
theorem CheckP_fn (p:Prt) (hs:p.name.length<=1000000000):CallFn Tryz.prog 385 [.record (encPa p)] (aI (partE p)):=by
 obtain⟨k,n,d⟩:=p
 have h1:=RightK_fn k
 have h2:=WordR_fn n hs
 refine callFz_cut 2 Tryz.func385 rfl Tryz.ntmps385 (rs:=[.tmp 2]) rfl (by kernel_rfl) (by simp) (by kernel_rfl) ?_
 unfold partE
 simp
 refine h1.s ?_
 by_cases hk:0<=k∧k<14
 ·simp[hk]
  refine V.cutV [(1,.rptr [.int .i64 k,.str n,.int .i64 d]),(2,aI 0),(3,aI 0)] (Hs:=[]) (by simp) (by simp) (V.of_vc ?_)
  simp
  refine h2.s ?_
  by_cases hw:wordE n=0
  ·simp[hw]
   by_cases h12:k=12
   ·subst h12
    by_cases ha:d<1
    ·simp[ha]
     omega
    ·by_cases hb:1000000<d
     ·simp[ha,hb]
     ·simp[ha,hb]
   ·by_cases ha:d=0
    ·simp[h12,ha]
     omega
    ·simp[h12,ha]
     omega
  ·simp[hw]
   intro h
   have:=h hk.1
   omega
 ·simp[hk]
def stepP (s:List UInt8) (q:List (List UInt8)×Bool) (x:List UInt8):List (List UInt8)×Bool:=
 if q.2=false∧ltB x s=false then (if x=s then (q.1++[s],true) else (q.1++[s]++[x],true)) else (if x=s then q else (q.1++[x],q.2))
def putT (l:List (List UInt8)) (s:List UInt8):List (List UInt8):=if (l.foldl (stepP s) ([],false)).2=true then (l.foldl (stepP s) ([],false)).1 else (l.foldl (stepP s) ([],false)).1++[s]
theorem foldl_take {α β:Type}{f:β->α->β}{b:β}{l:List α}{i:Nat}{x:α}(h:l[i]?=some x):(l.take (i+1)).foldl f b=f ((l.take i).foldl f b) x:=by
 rw[List.take_add_one,h,List.foldl_append]
 rfl
theorem stepP_len (s:List UInt8):∀(l:List (List UInt8)),(l.foldl (stepP s) ([],false)).1.length<=2*l.length:=by
 have:∀(l:List (List UInt8)) (q:List (List UInt8)×Bool),(l.foldl (stepP s) q).1.length<=q.1.length+2*l.length:=by
  intro l
  induction l with
  | nil=>simp
  | cons x l ih=>
   intro q
   rw[List.foldl_cons]
   have:=ih (stepP s q x)
   have h2:(stepP s q x).1.length<=q.1.length+2:=by
    unfold stepP
    (repeat' split)<;>simp
   simp only[List.length_cons]
   omega
 intro l
 simpa using this l ([],false)
theorem Put_fn (l:List (List UInt8)) (s:List UInt8) (hl:l.length<=1000000):CallFn Tryz.prog 395 [aTs l,aT s] (aTs (putT l s)):=by
 have hlen:=stepP_len s
 refine callFz_of Tryz.func395 rfl Tryz.ntmps395 (rs:=[.tmp 4]) rfl (by kernel_rfl) (by simp) (by kernel_rfl) ?_
 simp
 refine V.forI (σ:=Value) l.length [0,1,4] (by simp;exact rfl) (fun i g=>[(5,.own 50 g),(6,aB ((l.take i).foldl (stepP s) ([],false)).2),(7,aI i)])
  (fun i g=>[(50,.seq g 9 1 (((l.take i).foldl (stepP s) ([],false)).1.map rT))]) (fun _ _=>True) (.slice none 0 0) trivial (by simp) ⟨by simp;exact rfl,by simp⟩ ?_ ?_
 ·rintro i g hi -
  obtain⟨x,hx⟩:∃x,l[i]=x:=⟨_,rfl⟩
  have hxo:l[i]?=some x:=by rw[List.getElem?_eq_getElem hi,hx]
  have hln:=hlen (l.take i)
  rw[List.length_take]at hln
  have hmin:min i l.length<=1000000:=by omega
  rw[foldl_take hxo]
  generalize (l.take i).foldl (stepP s) ([],false)=q at *
  obtain⟨q1,q2⟩:=q
  simp only at hln
  cases q2
  ·cases hlt:ltB x s
   ·by_cases e:x=s
    ·subst e
     simp[hi,hx,hxo,stepP,hlt]
     omega
    ·simp[hi,hx,hxo,stepP,hlt,e]
     omega
   ·have e:¬x=s:=by rintro rfl;rw[ltB_irrefl]at hlt;cases hlt
    simp[hi,hx,hxo,stepP,hlt,e]
    omega
  ·by_cases e:x=s
   ·subst e
    simp[hi,hx,hxo,stepP]
    omega
   ·simp[hi,hx,hxo,stepP,e]
    omega
 ·rintro g -
  have hln:=hlen l
  unfold putT
  simp only[List.take_length]
  generalize l.foldl (stepP s) ([],false)=q at *
  obtain⟨q1,q2⟩:=q
  simp only at hln
  cases q2
  ·simp
   omega
  ·simp
def rowL (w l p0 p1 p2 p3 p4:List UInt8):List L:=[.str w,.str l,.str p0,.str p1,.str p2,.str p3,.str p4]
def rowsL:List (List L):=[
 rowL [115,117,112,112,108,121] [90] [] [49,32] [] [] [],
 rowL [99,121,108,105,110,100,101,114] [65] [] [] [] [] [50,32,52,32],
 rowL [118,97,108,118,101,53,50] [86] [49,32] [50,32,52,32] [51,32,53,32] [49,50,32,49,52,32] [],
 rowL [118,97,108,118,101,53,50,115] [86] [49,32] [50,32,52,32] [51,32,53,32] [49,52,32] [],
 rowL [118,97,108,118,101,51,50] [86] [49,32] [50,32] [51,32] [49,50,32] [],
 rowL [118,97,108,118,101,51,50,111] [86] [49,32] [50,32] [51,32] [49,48,32] [],
 rowL [108,105,109,105,116] [83] [49,32] [50,32] [51,32] [] [],
 rowL [98,117,116,116,111,110] [83] [49,32] [50,32] [51,32] [] [],
 rowL [115,104,117,116,116,108,101] [86] [49,32,49,49,32] [50,32] [] [] [],
 rowL [116,119,105,110] [86] [49,32,49,49,32] [50,32] [] [] [],
 rowL [113,117,105,99,107] [86] [49,32] [50,32] [51,32] [] [],
 rowL [116,104,114,111,116,116,108,101] [86] [49,32] [50,32] [] [] [],
 rowL [100,101,108,97,121] [86] [49,32] [50,32] [51,32] [49,50,32] [],
 rowL [99,111,117,110,116,101,114] [86] [49,32] [50,32] [51,32] [49,50,32] []]
theorem Rows_fn:CallFn Tryz.prog 392 [] (.dat (.sl rowsL)):=by
 refine callFz_of Tryz.func392 rfl Tryz.ntmps392 (rs:=[.tmp 0]) rfl (by kernel_rfl) (by simp) (by kernel_rfl) ?_
 simp[rowsL,rowL]
theorem HasT_fn (l:List (List UInt8)) (s:List UInt8) (hl:Sh l):CallFn Tryz.prog 390 [aTs l,aT s] (aB (l.any (s==·))):=by
 refine callFz_of Tryz.func390 rfl Tryz.ntmps390 (rs:=[.tmp 4]) rfl (by kernel_rfl) (by simp) (by kernel_rfl) ?_
 simp
 refine V.forI (σ:=Unit) l.length [0,1] (by simp;exact rfl) (fun i _=>[(4,aB false),(5,aI i)]) (fun _ _=>[]) (fun i _=>NoF (s==·) (l.take i)) () (by simp) (by simp) ⟨by simp;exact rfl,by simp⟩ ?_ ?_
 ·rintro i-hi hI
  obtain⟨x,hx⟩:∃x,l[i]=x:=⟨_,rfl⟩
  have hxo:l[i]?=some x:=by rw[List.getElem?_eq_getElem hi,hx]
  have hs:=findIdx_step (p:=(s==·)) hI hxo
  simp[hi,hx,hxo]
  by_cases e:x=s
  ·subst e
   have:l.any (x==·)=true:=List.any_eq_true.2 ⟨x,List.mem_of_getElem? hxo,by simp⟩
   simp[this]
   exact List.mem_of_getElem? hxo
  ·have e2:¬s=x:=fun h=>e h.symm
   simp[e]
   exact⟨by omega,hs.1 (by simp[e2])⟩
 ·rintro-hI
  have:l.any (s==·)=false:=by
   rw[List.any_eq_false]
   intro y hy
   rw[List.take_length]at hI
   simpa using hI y hy
  simp[this]
def stepN (q:List (List UInt8)×List UInt8) (b:UInt8):List (List UInt8)×List UInt8:=if b=32 then (putT q.1 q.2,[]) else (q.1,q.2++[b])
def namesT (s:List UInt8):List (List UInt8):=(s.foldl stepN ([],[])).1
theorem stepP_len1 (s:List UInt8) (l:List (List UInt8)):(l.foldl (stepP s) ([],false)).1.length+(if (l.foldl (stepP s) ([],false)).2=true then 0 else 1)<=l.length+1:=by
 have:∀(l:List (List UInt8)) (q:List (List UInt8)×Bool),(l.foldl (stepP s) q).1.length+(if (l.foldl (stepP s) q).2=true then 0 else 1)<=q.1.length+(if q.2=true then 0 else 1)+l.length:=by
  intro l
  induction l with
  | nil=>simp
  | cons x l ih=>
   intro q
   rw[List.foldl_cons]
   have:=ih (stepP s q x)
   have h2:(stepP s q x).1.length+(if (stepP s q x).2=true then 0 else 1)<=q.1.length+(if q.2=true then 0 else 1)+1:=by
    obtain⟨q1,q2⟩:=q
    unfold stepP
    cases q2<;>(repeat' split)<;>simp_all
   simp only[List.length_cons]
   omega
 have:=this l ([],false)
 simp at this ⊢
 omega
theorem putT_len (l:List (List UInt8)) (s:List UInt8):(putT l s).length<=l.length+1:=by
 have:=stepP_len1 s l
 unfold putT
 split
 ·rename_i h
  rw[if_pos h]at this
  omega
 ·rename_i h
  rw[if_neg h]at this
  simp
  omega
theorem names_len (s:List UInt8):∀i,((s.take i).foldl stepN ([],[])).1.length<=i∧((s.take i).foldl stepN ([],[])).2.length<=i:=by
 intro i
 induction i with
 | zero=>simp
 | succ i ih=>
  cases h:s[i]? with
  | none=>
   rw[List.take_add_one,h]
   simp only[Option.toList_none,List.append_nil]
   omega
  | some b=>
   rw[foldl_take h]
   generalize (s.take i).foldl stepN ([],[])=q at *
   unfold stepN
   split
   ·have:=putT_len q.1 q.2
    simp
    omega
   ·simp
    omega
theorem names_fn (s:List UInt8) (hs:s.length<=1000):CallFn Tryz.prog 391 [aT s] (aTs (namesT s)):=by
 have hlen:=names_len s
 refine callFz_of Tryz.func391 rfl Tryz.ntmps391 (rs:=[.tmp 2]) rfl (by kernel_rfl) (by simp) (by kernel_rfl) ?_
 simp
 refine V.forI (σ:=Unit) s.length [0,2] (by simp;exact rfl) (fun i _=>[(3,.dat (.sl (((s.take i).foldl stepN ([],[])).1.map encT))),(4,aT ((s.take i).foldl stepN ([],[])).2),(5,aI i)]) (fun _ _=>[]) (fun _ _=>True) () trivial (by simp) ⟨by simp;exact rfl,by simp⟩ ?_ ?_
 ·rintro i-hi -
  obtain⟨x,hx⟩:∃x,s[i]=x:=⟨_,rfl⟩
  have hxo:s[i]?=some x:=by rw[List.getElem?_eq_getElem hi,hx]
  obtain⟨h1,h2⟩:=hlen i
  rw[foldl_take hxo]
  generalize (s.take i).foldl stepN ([],[])=q at *
  obtain⟨q1,q2⟩:=q
  simp only at h1 h2
  have hp:=Put_fn q1 q2 (by omega)
  have hsl:List.drop i (List.take (i+1) s)=[x]:=by
   rw[List.take_add_one,hxo,List.drop_append_of_le_length (by rw[List.length_take];omega),List.drop_of_length_le (by rw[List.length_take];omega)]
   rfl
  by_cases e:x=32
  ·subst e
   rw[show stepN (q1,q2) 32=(putT q1 q2,[]) from rfl]
   simp[hi,hx,hxo]
   refine hp.s ?_
   simp
   omega
  ·have e2:¬((x.toNat:Int)=32):=fun h=>e (UInt8.toNat.inj (show x.toNat=32 by omega))
   rw[show stepN (q1,q2) x=(q1,q2++[x]) from by simp[stepN,e]]
   simp[hi,hx,hxo,e2,hsl]
   omega
 ·rintro - -
  simp[namesT]
theorem row_ex:∀k,k<14->∃w l p0 p1 p2 p3 p4,rowsL[k]?=some (rowL w l p0 p1 p2 p3 p4)∧rolesK k=[namesT p0,namesT p1,namesT p2,namesT p3,namesT p4] ∧
  (p0.length<=6∧p1.length<=6∧p2.length<=6∧p3.length<=6∧p4.length<=6)∧(p2=[]↔(manyK k=1∧k≠10)):=
 k_cases ⟨⟨_,_,_,_,_,_,_,rfl,rfl,by decide,by decide⟩,⟨_,_,_,_,_,_,_,rfl,rfl,by decide,by decide⟩,⟨_,_,_,_,_,_,_,rfl,rfl,by decide,by decide⟩,⟨_,_,_,_,_,_,_,rfl,rfl,by decide,by decide⟩,
  ⟨_,_,_,_,_,_,_,rfl,rfl,by decide,by decide⟩,⟨_,_,_,_,_,_,_,rfl,rfl,by decide,by decide⟩,⟨_,_,_,_,_,_,_,rfl,rfl,by decide,by decide⟩,⟨_,_,_,_,_,_,_,rfl,rfl,by decide,by decide⟩,
  ⟨_,_,_,_,_,_,_,rfl,rfl,by decide,by decide⟩,⟨_,_,_,_,_,_,_,rfl,rfl,by decide,by decide⟩,⟨_,_,_,_,_,_,_,rfl,rfl,by decide,by decide⟩,⟨_,_,_,_,_,_,_,rfl,rfl,by decide,by decide⟩,
  ⟨_,_,_,_,_,_,_,rfl,rfl,by decide,by decide⟩,⟨_,_,_,_,_,_,_,rfl,rfl,by decide,by decide⟩⟩
theorem rolesK_len:∀k,k<14->(∀l∈rolesK k,l.length<=2):=by decide
theorem manyK_or:∀k,k<14->(manyK k=1∨manyK k=2):=by decide
theorem rowsL_len:rowsL.length=14:=rfl
theorem rowsL_rl:rl rowsL 7:=by
 intro r hr
 simp only[rowsL,List.mem_cons,List.not_mem_nil,or_false]at hr
 rcases hr with rfl | rfl | rfl | rfl | rfl | rfl | rfl | rfl | rfl | rfl | rfl | rfl | rfl | rfl<;>rfl
theorem Many_fn (k:Nat) (hk:k<14):CallFn Tryz.prog 393 [aI k] (aI (manyK k)):=by
 obtain⟨w,l,p0,p1,p2,p3,p4,h1,-,-,h4⟩:=row_ex k hk
 have h2:=manyK_or k hk
 have h10:manyK 10=1:=rfl
 have hr:=Rows_fn
 have hrl:=rowsL_len
 have h7:=rowsL_rl
 have hk':(k:Int)<14:=by omega
 generalize rowsL=R at *
 obtain⟨hil,hi1⟩:=List.getElem?_eq_some_iff.1 h1
 refine callFz_of Tryz.func393 rfl Tryz.ntmps393 (rs:=[.tmp 2]) rfl (by kernel_rfl) (by simp) (by kernel_rfl) ?_
 simp
 refine hr.s ?_
 simp[hk,hk',hrl,hi1,h1,rowL,h7]
 by_cases e:p2=[]
 ·have:=h4.1 e
  simp[e,this]
 ·by_cases e2:k=10
  ·subst e2
   simp[e,h10]
  ·have:manyK k=2:=by
    rcases h2 with h | h
    ·exact absurd (h4.2 ⟨h,e2⟩) e
    ·exact h
   simp[e,e2,this]
   omega
theorem Plays_fn (k:Nat) (hk:k<14) (t:List UInt8):CallFn Tryz.prog 349 [aI k,aT t] (aI (idxI (roleK k t))):=by
 obtain⟨w,l,p0,p1,p2,p3,p4,h1,h3,⟨l0,l1,l2,l3,l4⟩,-⟩:=row_ex k hk
 have hr:=Rows_fn
 have hrl:=rowsL_len
 have h7:=rowsL_rl
 have hk':(k:Int)<14:=by omega
 have hlen:=rolesK_len k hk
 generalize rowsL=R at *
 obtain⟨hil,hi1⟩:=List.getElem?_eq_some_iff.1 h1
 have n0:=names_fn p0 (by omega)
 have n1:=names_fn p1 (by omega)
 have n2:=names_fn p2 (by omega)
 have n3:=names_fn p3 (by omega)
 have n4:=names_fn p4 (by omega)
 unfold roleK
 rw[h3]at hlen ⊢
 simp only[List.mem_cons,List.not_mem_nil,or_false,forall_eq_or_imp,forall_eq]at hlen
 obtain⟨m0,m1,m2,m3,m4⟩:=hlen
 generalize namesT p0=r0 at *
 generalize namesT p1=r1 at *
 generalize namesT p2=r2 at *
 generalize namesT p3=r3 at *
 generalize namesT p4=r4 at *
 have c0:=HasT_fn r0 t (by unfold Sh;omega)
 have c1:=HasT_fn r1 t (by unfold Sh;omega)
 have c2:=HasT_fn r2 t (by unfold Sh;omega)
 have c3:=HasT_fn r3 t (by unfold Sh;omega)
 have c4:=HasT_fn r4 t (by unfold Sh;omega)
 refine callFz_of Tryz.func349 rfl Tryz.ntmps349 (rs:=[.tmp 4]) rfl (by kernel_rfl) (by simp) (by kernel_rfl) ?_
 simp
 refine V.forI (σ:=Unit) 5 [0,1] (by simp;exact rfl) (fun i _=>[(4,aI 0),(5,aI i)]) (fun _ _=>[]) (fun i _=>NoF (fun l:List (List UInt8)=>l.any (t==·)) ([r0,r1,r2,r3,r4].take i)) () (by simp) (by simp) ⟨by simp;exact rfl,by simp⟩ ?_ ?_
 ·rintro i-hi hI
  have:i=0∨i=1∨i=2∨i=3∨i=4:=by omega
  rcases this with rfl | rfl | rfl | rfl | rfl
  ·have hs:=findIdx_step (p:=fun l:List (List UInt8)=>l.any (t==·)) hI (show [r0,r1,r2,r3,r4][0]?=some r0 from rfl)
   simp
   refine hr.s ?_
   simp[hk,hk',hrl,hi1,h1,rowL,h7]
   refine n0.s ?_
   simp
   refine c0.s ?_
   cases e:r0.any (t==·)
   ·simp
    exact hs.1 e
   ·rw[hs.2 e]
    simp[idxI]
  ·have hs:=findIdx_step (p:=fun l:List (List UInt8)=>l.any (t==·)) hI (show [r0,r1,r2,r3,r4][1]?=some r1 from rfl)
   simp
   refine hr.s ?_
   simp[hk,hk',hrl,hi1,h1,rowL,h7]
   refine n1.s ?_
   simp
   refine c1.s ?_
   cases e:r1.any (t==·)
   ·simp
    exact hs.1 e
   ·rw[hs.2 e]
    simp[idxI]
  ·have hs:=findIdx_step (p:=fun l:List (List UInt8)=>l.any (t==·)) hI (show [r0,r1,r2,r3,r4][2]?=some r2 from rfl)
   simp
   refine hr.s ?_
   simp[hk,hk',hrl,hi1,h1,rowL,h7]
   refine n2.s ?_
   simp
   refine c2.s ?_
   cases e:r2.any (t==·)
   ·simp
    exact hs.1 e
   ·rw[hs.2 e]
    simp[idxI]
  ·have hs:=findIdx_step (p:=fun l:List (List UInt8)=>l.any (t==·)) hI (show [r0,r1,r2,r3,r4][3]?=some r3 from rfl)
   simp
   refine hr.s ?_
   simp[hk,hk',hrl,hi1,h1,rowL,h7]
   refine n3.s ?_
   simp
   refine c3.s ?_
   cases e:r3.any (t==·)
   ·simp
    exact hs.1 e
   ·rw[hs.2 e]
    simp[idxI]
  ·have hs:=findIdx_step (p:=fun l:List (List UInt8)=>l.any (t==·)) hI (show [r0,r1,r2,r3,r4][4]?=some r4 from rfl)
   simp
   refine hr.s ?_
   simp[hk,hk',hrl,hi1,h1,rowL,h7]
   refine n4.s ?_
   simp
   refine c4.s ?_
   cases e:r4.any (t==·)
   ·simp
    exact hs.1 e
   ·rw[hs.2 e]
    simp[idxI]
 ·rintro-hI
  rw[findIdx_none hI]
  simp[idxI]
theorem allF_len:∀k,k<14->((rolesK k).flatten.foldl putT [])=portsK k:=by decide
theorem putF_len (xs:List (List UInt8)):∀(l:List (List UInt8)),(xs.foldl putT l).length<=l.length+xs.length:=by
 induction xs with
 | nil=>simp
 | cons x xs ih=>
  intro l
  have:=ih (putT l x)
  have:=putT_len l x
  simp
  omega
theorem AllK_fn (k:Nat) (hk:k<14):CallFn Tryz.prog 352 [aI k] (aTs (portsK k)):=by
 obtain⟨w,l,p0,p1,p2,p3,p4,h1,h3,⟨l0,l1,l2,l3,l4⟩,-⟩:=row_ex k hk
 have hr:=Rows_fn
 have hrl:=rowsL_len
 have h7:=rowsL_rl
 have hk':(k:Int)<14:=by omega
 have hlen:=rolesK_len k hk
 rw[<- allF_len k hk]
 generalize rowsL=R at *
 obtain⟨hil,hi1⟩:=List.getElem?_eq_some_iff.1 h1
 have n0:=names_fn p0 (by omega)
 have n1:=names_fn p1 (by omega)
 have n2:=names_fn p2 (by omega)
 have n3:=names_fn p3 (by omega)
 have n4:=names_fn p4 (by omega)
 rw[h3]at hlen ⊢
 simp only[List.mem_cons,List.not_mem_nil,or_false,forall_eq_or_imp,forall_eq]at hlen
 obtain⟨m0,m1,m2,m3,m4⟩:=hlen
 generalize namesT p0=r0 at *
 generalize namesT p1=r1 at *
 generalize namesT p2=r2 at *
 generalize namesT p3=r3 at *
 generalize namesT p4=r4 at *
 have hround:∀(F xs:List (List UInt8)),F.length<=20->xs.length<=2->∀j (hj:j<xs.length),CallFn Tryz.prog 395 [aTs ((xs.take j).foldl putT F),aT xs[j]] (aTs ((xs.take (j+1)).foldl putT F)):=by
  intro F xs hF hx j hj
  have h:=putF_len (xs.take j) F
  rw[List.length_take]at h
  rw[foldl_take (List.getElem?_eq_getElem hj)]
  exact Put_fn _ _ (by omega)
 have hb:∀i,i<=5->(([r0,r1,r2,r3,r4].take i).flatten.foldl putT []).length<=10:=by
  intro i hi
  have h:=putF_len ([r0,r1,r2,r3,r4].take i).flatten []
  have:i=0∨i=1∨i=2∨i=3∨i=4∨i=5:=by omega
  rcases this with rfl | rfl | rfl | rfl | rfl | rfl<;>simp at h ⊢<;>omega
 refine callFz_of Tryz.func352 rfl Tryz.ntmps352 (rs:=[.tmp 2]) rfl (by kernel_rfl) (by simp) (by kernel_rfl) ?_
 simp
 refine V.forI (σ:=Unit) 5 [0,2] (by simp;exact rfl) (fun i _=>[(3,.dat (.sl ((([r0,r1,r2,r3,r4].take i).flatten.foldl putT []).map encT))),(4,aI i)]) (fun _ _=>[]) (fun _ _=>True) () trivial (by simp) ⟨by simp;exact rfl,by simp⟩ ?_ ?_
 ·rintro i-hi -
  have hbi:=hb i (by omega)
  have:i=0∨i=1∨i=2∨i=3∨i=4:=by omega
  rcases this with rfl | rfl | rfl | rfl | rfl
  ·obtain⟨F,hF⟩:∃F,([r0,r1,r2,r3,r4].take 0).flatten.foldl putT []=F:=⟨_,rfl⟩
   have hF2:([r0,r1,r2,r3,r4].take (0+1)).flatten.foldl putT []=r0.foldl putT F:=by
    rw[<- hF]
    simp[List.foldl_append]
   rw[hF2,hF]
   rw[hF]at hbi
   have hrd:=hround F r0 (by omega) m0
   simp
   refine hr.s ?_
   simp[hk,hk',hrl,hi1,h1,rowL,h7]
   refine n0.s ?_
   simp
   refine V.forI (σ:=Unit) r0.length [0,2,4,5] (by simp;exact rfl) (fun j _=>[(3,.dat (.sl (((r0.take j).foldl putT F).map encT))),(6,aI j)]) (fun _ _=>[]) (fun _ _=>True) () trivial (by simp) ⟨by simp;exact rfl,by simp⟩ ?_ ?_
   ·rintro j-hj -
    have hp:=hrd j hj
    obtain⟨x,hx⟩:∃x,r0[j]=x:=⟨_,rfl⟩
    have hxo:r0[j]?=some x:=by rw[List.getElem?_eq_getElem hj,hx]
    rw[hx]at hp
    generalize (r0.take (j+1)).foldl putT F=G2 at *
    generalize (r0.take j).foldl putT F=G at *
    simp[hj,hx,hxo]
    refine hp.s ?_
    simp
    omega
   ·rintro - -
    simp
  ·obtain⟨F,hF⟩:∃F,([r0,r1,r2,r3,r4].take 1).flatten.foldl putT []=F:=⟨_,rfl⟩
   have hF2:([r0,r1,r2,r3,r4].take (1+1)).flatten.foldl putT []=r1.foldl putT F:=by
    rw[<- hF]
    simp[List.foldl_append]
   rw[hF2,hF]
   rw[hF]at hbi
   have hrd:=hround F r1 (by omega) m1
   simp
   refine hr.s ?_
   simp[hk,hk',hrl,hi1,h1,rowL,h7]
   refine n1.s ?_
   simp
   refine V.forI (σ:=Unit) r1.length [0,2,4,5] (by simp;exact rfl) (fun j _=>[(3,.dat (.sl (((r1.take j).foldl putT F).map encT))),(6,aI j)]) (fun _ _=>[]) (fun _ _=>True) () trivial (by simp) ⟨by simp;exact rfl,by simp⟩ ?_ ?_
   ·rintro j-hj -
    have hp:=hrd j hj
    obtain⟨x,hx⟩:∃x,r1[j]=x:=⟨_,rfl⟩
    have hxo:r1[j]?=some x:=by rw[List.getElem?_eq_getElem hj,hx]
    rw[hx]at hp
    generalize (r1.take (j+1)).foldl putT F=G2 at *
    generalize (r1.take j).foldl putT F=G at *
    simp[hj,hx,hxo]
    refine hp.s ?_
    simp
    omega
   ·rintro - -
    simp
  ·obtain⟨F,hF⟩:∃F,([r0,r1,r2,r3,r4].take 2).flatten.foldl putT []=F:=⟨_,rfl⟩
   have hF2:([r0,r1,r2,r3,r4].take (2+1)).flatten.foldl putT []=r2.foldl putT F:=by
    rw[<- hF]
    simp[List.foldl_append]
   rw[hF2,hF]
   rw[hF]at hbi
   have hrd:=hround F r2 (by omega) m2
   simp
   refine hr.s ?_
   simp[hk,hk',hrl,hi1,h1,rowL,h7]
   refine n2.s ?_
   simp
   refine V.forI (σ:=Unit) r2.length [0,2,4,5] (by simp;exact rfl) (fun j _=>[(3,.dat (.sl (((r2.take j).foldl putT F).map encT))),(6,aI j)]) (fun _ _=>[]) (fun _ _=>True) () trivial (by simp) ⟨by simp;exact rfl,by simp⟩ ?_ ?_
   ·rintro j-hj -
    have hp:=hrd j hj
    obtain⟨x,hx⟩:∃x,r2[j]=x:=⟨_,rfl⟩
    have hxo:r2[j]?=some x:=by rw[List.getElem?_eq_getElem hj,hx]
    rw[hx]at hp
    generalize (r2.take (j+1)).foldl putT F=G2 at *
    generalize (r2.take j).foldl putT F=G at *
    simp[hj,hx,hxo]
    refine hp.s ?_
    simp
    omega
   ·rintro - -
    simp
  ·obtain⟨F,hF⟩:∃F,([r0,r1,r2,r3,r4].take 3).flatten.foldl putT []=F:=⟨_,rfl⟩
   have hF2:([r0,r1,r2,r3,r4].take (3+1)).flatten.foldl putT []=r3.foldl putT F:=by
    rw[<- hF]
    simp[List.foldl_append]
   rw[hF2,hF]
   rw[hF]at hbi
   have hrd:=hround F r3 (by omega) m3
   simp
   refine hr.s ?_
   simp[hk,hk',hrl,hi1,h1,rowL,h7]
   refine n3.s ?_
   simp
   refine V.forI (σ:=Unit) r3.length [0,2,4,5] (by simp;exact rfl) (fun j _=>[(3,.dat (.sl (((r3.take j).foldl putT F).map encT))),(6,aI j)]) (fun _ _=>[]) (fun _ _=>True) () trivial (by simp) ⟨by simp;exact rfl,by simp⟩ ?_ ?_
   ·rintro j-hj -
    have hp:=hrd j hj
    obtain⟨x,hx⟩:∃x,r3[j]=x:=⟨_,rfl⟩
    have hxo:r3[j]?=some x:=by rw[List.getElem?_eq_getElem hj,hx]
    rw[hx]at hp
    generalize (r3.take (j+1)).foldl putT F=G2 at *
    generalize (r3.take j).foldl putT F=G at *
    simp[hj,hx,hxo]
    refine hp.s ?_
    simp
    omega
   ·rintro - -
    simp
  ·obtain⟨F,hF⟩:∃F,([r0,r1,r2,r3,r4].take 4).flatten.foldl putT []=F:=⟨_,rfl⟩
   have hF2:([r0,r1,r2,r3,r4].take (4+1)).flatten.foldl putT []=r4.foldl putT F:=by
    rw[<- hF]
    simp[List.foldl_append]
   rw[hF2,hF]
   rw[hF]at hbi
   have hrd:=hround F r4 (by omega) m4
   simp
   refine hr.s ?_
   simp[hk,hk',hrl,hi1,h1,rowL,h7]
   refine n4.s ?_
   simp
   refine V.forI (σ:=Unit) r4.length [0,2,4,5] (by simp;exact rfl) (fun j _=>[(3,.dat (.sl (((r4.take j).foldl putT F).map encT))),(6,aI j)]) (fun _ _=>[]) (fun _ _=>True) () trivial (by simp) ⟨by simp;exact rfl,by simp⟩ ?_ ?_
   ·rintro j-hj -
    have hp:=hrd j hj
    obtain⟨x,hx⟩:∃x,r4[j]=x:=⟨_,rfl⟩
    have hxo:r4[j]?=some x:=by rw[List.getElem?_eq_getElem hj,hx]
    rw[hx]at hp
    generalize (r4.take (j+1)).foldl putT F=G2 at *
    generalize (r4.take j).foldl putT F=G at *
    simp[hj,hx,hxo]
    refine hp.s ?_
    simp
    omega
   ·rintro - -
    simp
 ·rintro - -
  simp
end Go.Proofs.YtafamcbdaeppoaaGreatDoor
