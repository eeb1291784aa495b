/- Texts joined by a program: Qo,Wa,Qn,Df,Qp,Qq,Wb. -/
import Derived.Test.YtafamcbdaeppoaaGreatDoorE17
import Derived.Test.YtafamcbdaeppoaaGreatDoorE22
import Derived.Test.YtafamcbdaeppoaaGreatDoorE20
import Derived.Test.YtafamcbdaeppoaaGreatDoorE16
import Derived.Test.YtafamcbdaeppoaaGreatDoorE21
import Derived.Test.YtafamcbdaeppoaaGreatDoorE18
set_option linter.unusedSimpArgs false
set_option linter.unusedVariables false
set_option maxHeartbeats 8000000
set_option maxRecDepth 10000
namespace Go.Proofs.YtafamcbdaeppoaaGreatDoor
theorem orderN_len (ps:List Prt) (d:List Drv) (nets:List (List PortZ)):∀n,(orderN ps d nets n).length<=n
 | 0=>Nat.le_refl _
 | n+1=>by
  have ih:=orderN_len ps d nets n
  simp only[orderN]
  split
  ·rw[List.length_append,List.length_singleton];omega
  ·omega
theorem nextZ_mem {ps:List Prt}{d:List Drv}{nets:List (List PortZ)}{order:List Nat}{i:Nat}(h:nextZ ps d nets order=some i):i<nets.length∧countsI ps nets i=true∧i∉order∧readyZ ps d nets order i=true:=by
 unfold nextZ at h
 have h1:=List.mem_of_find?_eq_some h
 have h2:=List.find?_some h
 unfold restZ at h1
 rw[List.mem_filter,List.mem_range]at h1
 simp only[Bool.and_eq_true,Bool.not_eq_true']at h1
 refine⟨h1.1,h1.2.1,fun hm=>?_,h2⟩
 have:(order.any fun x=>i==x)=true:=by
  rw[List.any_eq_true]
  exact⟨i,hm,by simp⟩
 rw[this]at h1
 simp at h1
theorem orderN_mem (ps:List Prt) (d:List Drv) (nets:List (List PortZ)):∀n i,i∈orderN ps d nets n->i<nets.length∧countsI ps nets i=true
 | 0,i,h=>by simp[orderN]at h
 | n+1,i,h=>by
  simp only[orderN]at h
  split at h
  ·rename_i k hk
   rcases List.mem_append.1 h with h | h
   ·exact orderN_mem ps d nets n i h
   ·simp only[List.mem_singleton]at h
    subst h
    exact⟨(nextZ_mem hk).1,(nextZ_mem hk).2.1⟩
  ·exact orderN_mem ps d nets n i h
theorem orderN_nodup (ps:List Prt) (d:List Drv) (nets:List (List PortZ)):∀n,(orderN ps d nets n).Nodup
 | 0=>by simp[orderN]
 | n+1=>by
  have ih:=orderN_nodup ps d nets n
  simp only[orderN]
  split
  ·rename_i k hk
   rw[List.nodup_append]
   refine⟨ih,by simp,fun a ha b hb=>?_⟩
   simp only[List.mem_singleton]at hb
   subst hb
   rintro rfl
   exact (nextZ_mem hk).2.2.1 ha
  ·exact ih
theorem manyC_le (ps:List Prt) (nets:List (List PortZ)):manyC ps nets<=nets.length:=by
 unfold manyC
 exact Nat.le_trans (List.length_filter_le _ _) (by simp)
theorem mem_cylsN {ps:List Prt}{n i:Nat}:i∈cylsN ps n↔i<n∧kindOf ps i=1:=by
 unfold cylsN
 simp[List.mem_filter]
theorem drvE_zero {ps:List Prt}{nets:List (List PortZ)}(h:drvE ps nets=0):(∀i∈cylsN ps ps.length,(valveZ ps nets i).isSome=true)∧cylsN ps ps.length≠[]:=by
 unfold drvE at h
 split at h
 ·simp at h
 ·rename_i h1
  split at h
  ·simp at h
  ·rename_i h2
   refine⟨fun i hi=>?_,h2⟩
   cases e:valveZ ps nets i with
   | some k=>rfl
   | none=>
    exfalso
    apply h1
    rw[List.any_eq_true]
    exact⟨i,hi,by rw[e];rfl⟩
theorem mem_drvN {ps:List Prt}{nets:List (List PortZ)}(h:drvE ps nets=0) {d:Drv}(hd:d∈drvN ps nets ps.length):d.1<ps.length∧kindOf ps d.1=1∧valveZ ps nets d.1=some d.2∧d.2<ps.length∧drvB ps nets d.1 d.2=true:=by
 unfold drvN at hd
 obtain⟨i,hi,rfl⟩:=List.mem_map.1 hd
 have h1:=(drvE_zero h).1 i hi
 obtain⟨k,hk⟩:=Option.isSome_iff_exists.1 h1
 obtain⟨h2,h3⟩:=mem_cylsN.1 hi
 rw[hk]
 simp only[Option.getD_some]
 have hk0:=hk
 unfold valveZ at hk
 obtain⟨h4,h5,_⟩:=List.findIdx?_eq_some_iff_getElem.1 hk
 simp only[List.length_range]at h4
 simp only[List.getElem_range]at h5
 exact⟨h2,h3,trivial,h4,h5⟩
theorem drvB_kind {ps:List Prt}{nets:List (List PortZ)}{i v:Nat}(h:drvB ps nets i v=true):kindOf ps v=2∨kindOf ps v=3:=by
 unfold drvB at h
 simp only[Bool.and_eq_true,Bool.or_eq_true,beq_iff_eq]at h
 exact h.1
theorem part_len {p:Prt}(h:partE p=0):p.name.length<=24∧0<=p.delay∧p.delay<=1000000:=by
 unfold partE at h
 split at h
 ·simp at h
 ·split at h
  ·rename_i h2
   exact absurd h h2
  ·rename_i h2
   have h3:wordE p.name=0:=Classical.not_not.1 h2
   split at h
   ·simp at h
   ·rename_i h4
    simp only[not_or,not_and]at h4
    refine⟨?_,?_,?_⟩
    ·unfold wordE at h3
     split at h3
     ·simp at h3
     ·split at h3
      ·simp at h3
      ·split at h3
       ·simp at h3
       ·omega
    ·by_cases e:p.kind=12
     ·have:=h4.1 e;omega
     ·have:=h4.2 e;omega
    ·by_cases e:p.kind=12
     ·have:=h4.1 e;omega
     ·have:=h4.2 e;omega
theorem planZ_B {c:Cir}(hr:CirR c):(planZ c).B:=by
 have hn:=netsZ_few hr
 have hm:=manyC_le c.parts (netsZ c)
 have hf:=hr.few
 refine⟨hf,Nat.le_trans (drvN_len _ _ _) hf,Nat.le_trans (orderN_len _ _ _ _) (by omega),fun l hl=>(netsZ_net hr l hl).1,fun x hx=>?_,fun x hx=>?_,fun n hx=>?_⟩
 ·have:=part_len (hr.part x hx);omega
 ·have:=part_len (hr.part x hx);omega
 ·have:=(orderN_mem _ _ _ _ _ hx).1;omega
theorem planZ_D {c:Cir}(hd:drvE c.parts (netsZ c)=0):(planZ c).D:=
 ⟨fun _ h=>drvB_kind (mem_drvN hd h).2.2.2.2,fun _ hx=>(orderN_mem _ _ _ _ _ hx).1⟩
theorem planZ_lim {c:Cir}(hr:CirR c):∀x∈c.parts,x.kind=6->(∃q b,x.name=q++[b]∧(b=48∨b=49)∧∃k,(planZ c).drives.findIdx? (fun d=>(c.parts.getD d.1 x).name==q)=some k):=by
 intro x hx h6
 have ho:=hr.own x hx h6
 unfold ownN at ho
 simp only[Bool.and_eq_true,Bool.or_eq_true,beq_iff_eq]at ho
 obtain⟨h1,h2⟩:=ho
 have hne:x.name≠[]:=by
  rintro e
  rw[e]at h1
  simp at h1
 obtain⟨b,hb⟩:∃b,x.name.getLast? = some b:=by
  rcases h1 with e | e<;>exact⟨_,e⟩
 have hsp:x.name=x.name.dropLast++[b]:=by
  have:=List.dropLast_concat_getLast hne
  rw[List.getLast?_eq_some_getLast hne]at hb
  simp only[Option.some.injEq]at hb
  rw[<- hb]
  exact this.symm
 cases hj:findN c.parts x.name.dropLast with
 | none=>rw[hj]at h2;simp at h2
 | some j=>
  rw[hj]at h2
  simp only at h2
  unfold findN at hj
  obtain⟨hjl,hjn,_⟩:=List.findIdx?_eq_some_iff_getElem.1 hj
  simp only[beq_iff_eq]at hjn
  rw[List.getElem?_eq_getElem hjl]at h2
  simp only[Option.any_some,beq_iff_eq]at h2
  have hk:kindOf c.parts j=1:=by
   rw[kindOf_at (List.getElem?_eq_getElem hjl),h2]
   rfl
  refine⟨x.name.dropLast,b,hsp,?_,?_⟩
  ·rcases h1 with e | e
   ·rw[hb]at e;simp only[Option.some.injEq]at e;exact .inl e
   ·rw[hb]at e;simp only[Option.some.injEq]at e;exact .inr e
  ·rw[<- Option.isSome_iff_exists,List.findIdx?_isSome,List.any_eq_true]
   refine⟨(j,(valveZ c.parts (netsZ c) j).getD 0),?_,?_⟩
   ·show _∈drvN _ _ _
    unfold drvN
    exact List.mem_map.2 ⟨j,mem_cylsN.2 ⟨hjl,hk⟩,rfl⟩
   ·simp only[beq_iff_eq]
    rw[List.getD_eq_getElem?_getD,List.getElem?_eq_getElem hjl]
    exact hjn
theorem at_fn (xs:List Nat) (v:Nat) (hx:Sh xs):CallFn Tryz.prog 276 [aNs xs,aI v] (aI (idxI (xs.findIdx? (v==·)))):=by
 refine callFz_of Tryz.func276 rfl Tryz.ntmps276 (rs:=[.tmp 4]) rfl (by kernel_rfl) (by simp) (by kernel_rfl) ?_
 simp
 refine V.forI (σ:=Unit) xs.length [0,1] (by simp;exact rfl) (fun i _=>[(4,aI 0),(5,aI i)]) (fun _ _=>[]) (fun i _=>NoF (v==·) (xs.take i)) () (by simp) (by simp) ⟨by simp;exact rfl,by simp⟩ ?_ ?_
 ·rintro i-hi hI
  obtain⟨x,hxe⟩:∃x,xs[i]=x:=⟨_,rfl⟩
  have hxo:xs[i]?=some x:=by rw[List.getElem?_eq_getElem hi,hxe]
  have hs:=findIdx_step (p:=(v==·)) hI hxo
  simp[hi,hxe,hxo]
  refine⟨fun e=>?_,fun e=>⟨⟨by omega,by omega⟩,hs.1 ?_⟩⟩
  ·rw[hs.2 (by simp;omega)]
   simp[idxI]
  ·simp
   omega
 ·rintro-hI
  rw[findIdx_none hI]
  simp[idxI]
theorem drives_fn (d:List Drv) (v:Nat) (hx:Sh d):CallFn Tryz.prog 284 [.dat (.sl (d.map encDr)),aI v] (aB (drivenZ d v).isSome):=by
 unfold drivenZ
 generalize hD:(d.findIdx? fun q=>q.2==v).isSome=D
 refine callFz_of Tryz.func284 rfl Tryz.ntmps284 (rs:=[.tmp 4]) rfl (by kernel_rfl) (by simp) (by kernel_rfl) ?_
 simp
 refine V.forI (σ:=Unit) d.length [0,1] (by simp;exact rfl) (fun i _=>[(4,aB false),(5,aI i)]) (fun _ _=>[]) (fun i _=>NoF (fun q:Drv=>q.2==v) (d.take i)) () (by simp) (by simp) ⟨by simp;exact rfl,by simp⟩ ?_ ?_
 ·rintro i-hi hI
  obtain⟨x,hxe⟩:∃x,d[i]=x:=⟨_,rfl⟩
  have hxo:d[i]?=some x:=by rw[List.getElem?_eq_getElem hi,hxe]
  have hs:=findIdx_step (p:=fun q:Drv=>q.2==v) hI hxo
  simp[hi,hxe,hxo]
  refine⟨fun e=>?_,fun e=>⟨⟨by omega,by omega⟩,hs.1 ?_⟩⟩
  ·rw[<- hD,hs.2 (by simp;omega)]
   rfl
  ·simp
   omega
 ·rintro-hI
  have:=findIdx_none hI
  rw[<- hD,this]
  simp
theorem variableR_fn (n:Int):CallFn Tryz.prog 286 [aI n] (aE (varE n)):=by
 refine callFz_of Tryz.func286 rfl Tryz.ntmps286 (rs:=[.cell 2 61]) rfl (by kernel_rfl) (by simp) (by kernel_rfl) ?_
 simp[varE,encE_eq]
theorem turned_fn (x:Expr):CallFn Tryz.prog 283 [aE x] (aE (notE x)):=by
 obtain⟨o,n,l⟩:=x
 refine callFz_of Tryz.func283 rfl Tryz.ntmps283 (rs:=[.cell 2 61]) rfl (by kernel_rfl) (by simp) (by kernel_rfl) ?_
 simp[notE,encE_eq]
theorem joinedR_fn (op:Int) (l:List Expr) (hl:l.length<=4294967296):CallFn Tryz.prog 355 [aI op,.dat (.sl (l.map encE))] (aE (sevE op l)):=by
 refine callFz_of Tryz.func355 rfl Tryz.ntmps355 (rs:=[.cell 4 61]) rfl (by kernel_rfl) (by simp) (by kernel_rfl) ?_
 cases l with
 | nil=>simp[sevE,nulE,encE_eq]
 | cons x l=>
  cases l with
  | nil=>
   obtain⟨o,n,l⟩:=x
   simp[sevE,encE_eq]
  | cons y l=>
   simp[sevE,encE_eq]
   exact⟨by omega,fun _ h=>by omega⟩
theorem netW_idx {ns:List (List PortZ)}{p:PortZ}(h:netW ns p<ns.length):ns.findIdx? (fun l=>l.any (p==·))=some (netW ns p):=by
 rw[List.findIdx?_eq_some_iff_findIdx_eq]
 exact⟨h,rfl⟩
structure NsOK (ns:List (List PortZ)) (all:List PortZ):Prop where
 few:ns.length<=448
 net:∀l∈ns,l.length<=448∧l≠[]∧∀p∈l,p∈all
 of:∀p∈all,netW ns p<ns.length
theorem nsOK {c:Cir}(hr:CirR c):NsOK (netsZ c) (allP c.parts):=
 ⟨netsZ_few hr,netsZ_net hr,fun p hp=>by
  obtain⟨l,h1,_⟩:=netW_some hr hp
  exact (List.getElem?_eq_some_iff.1 h1).1⟩
theorem WhichN_fn {ns:List (List PortZ)}{all:List PortZ}(h:NsOK ns all) {p:PortZ}(hp:p∈all):CallFn Tryz.prog 285 [aNets ns,.record (encPo p)] (aI (netW ns p)):=by
 have:=Which_fn ns p (by have:=h.few;unfold Sh;omega) (fun l hl=>by have:=(h.net l hl).1;unfold Sh;omega)
 rw[netW_idx (h.of p hp)]at this
 exact this
theorem pairR_fn {ns:List (List PortZ)}{all:List PortZ}(h:NsOK ns all) (a b:Nat) (t:List UInt8) (hp:((a:Int),t)∈all):CallFn Tryz.prog 389 [aNets ns,aI a,aI b,aT t] (aB (pairZ ns a b t)):=by
 have hw:=WhichN_fn h hp
 have hlt:=h.of _ hp
 unfold pairZ
 generalize netW ns ((a:Int),t)=w at *
 obtain⟨l,hl⟩:∃l,ns[w]=l:=⟨_,rfl⟩
 have hlo:ns[w]?=some l:=by rw[List.getElem?_eq_getElem hlt,hl]
 have hln:=h.net l (List.mem_of_getElem? hlo)
 have hh:=HasP_fn l ((b:Int),t) (by unfold Sh;omega)
 rw[List.getD_eq_getElem?_getD,hlo,Option.getD_some]
 refine callFz_of Tryz.func389 rfl Tryz.ntmps389 (rs:=[.tmp 8]) rfl (by kernel_rfl) (by simp) (by kernel_rfl) ?_
 simp
 refine hw.s ?_
 simp[hlt,hl,hlo]
 by_cases e:l.length=2
 ·simp only[e,decide_true,Bool.true_and]
  refine GCall.fn (aB (l.any (((b:Int),t)==·))) (fun h=>⟨h,hh⟩) ?_
  simp
 ·simp only[e,decide_false,Bool.false_and]
  refine GCall.never (by omega) (aB false) ?_
  simp
theorem valveR_fn {c:Cir}(hr:CirR c) (hk:∀p∈c.parts,0<=p.kind∧p.kind<14) {i:Nat}(hi:kindOf c.parts i=1):CallFn Tryz.prog 348 [aCi c,aNets (netsZ c),aI i] (aI (idxI (valveZ c.parts (netsZ c) i))):=by
 have hN:=nsOK hr
 have hil:=kindOf_lt (ps:=c.parts) (i:=i) (by omega)
 have hp2:=fun v=>pairR_fn hN i v [50] (port_of hil (by rw[hi];decide))
 have hp4:=fun v=>pairR_fn hN i v [52] (port_of hil (by rw[hi];decide))
 have hf:=hr.few
 obtain⟨W,hV⟩:∃W,valveZ c.parts (netsZ c) i=W:=⟨_,rfl⟩
 have hst:∀n,n<c.parts.length->NoF (drvB c.parts (netsZ c) i) (List.range n)->(drvB c.parts (netsZ c) i n=false->NoF (drvB c.parts (netsZ c) i) (List.range (n+1)))∧(drvB c.parts (netsZ c) i n=true->W=some n):=fun n hn hI=>by
  have h1:(List.range c.parts.length)[n]?=some n:=by rw[List.getElem?_range hn]
  have e:(List.range c.parts.length).take n=List.range n:=by rw[List.take_range,Nat.min_eq_left (by omega)]
  have e2:(List.range c.parts.length).take (n+1)=List.range (n+1):=by rw[List.take_range,Nat.min_eq_left (by omega)]
  have:=findIdx_step (p:=drvB c.parts (netsZ c) i) (by rw[e];exact hI) h1
  rw[e2]at this
  exact⟨this.1,fun hb=>by rw[<- hV];exact this.2 hb⟩
 have hno:NoF (drvB c.parts (netsZ c) i) (List.range c.parts.length)->W=none:=fun h=>by
  rw[<- hV]
  exact findIdx_none (by rw[List.take_length];exact h)
 rw[hV]
 generalize netsZ c=ns at *
 refine callFz_of Tryz.func348 rfl Tryz.ntmps348 (rs:=[.tmp 6]) rfl (by kernel_rfl) (by simp) (by kernel_rfl) ?_
 simp
 refine V.forI (σ:=Unit) c.parts.length [1,2,3,6] (by simp;exact rfl) (fun n _=>[(7,aI n)]) (fun _ _=>[]) (fun n _=>NoF (drvB c.parts ns i) (List.range n)) () (by simp) (by simp) ⟨by simp;exact rfl,by simp⟩ ?_ ?_
 ·rintro n ⟨⟩ hn hI
  obtain⟨x,hx⟩:∃x,c.parts[n]=x:=⟨_,rfl⟩
  have hxo:c.parts[n]?=some x:=by rw[List.getElem?_eq_getElem hn,hx]
  have hkx:=hk x (List.mem_of_getElem? hxo)
  have hkn:=kindOf_at hxo
  obtain⟨s1,s2⟩:=hst n hn hI
  have hb:drvB c.parts ns i n=((kindOf c.parts n==2||kindOf c.parts n==3)&&(pairZ ns i n [50]&&pairZ ns i n [52])):=rfl
  rw[hb]at s1 s2
  have h2:=hp2 n
  have h4:=hp4 n
  generalize pairZ ns i n [50]=P2 at *
  generalize pairZ ns i n [52]=P4 at *
  simp[hn,hx,hxo]
  by_cases hkk:x.kind=2∨x.kind=3
  ·have hk1:(kindOf c.parts n==2||kindOf c.parts n==3)=true:=by
    rw[hkn]
    simp only[Bool.or_eq_true,beq_iff_eq]
    omega
   rw[hk1,Bool.true_and]at s1 s2
   refine GCall.fn (aB P2) (fun h=>⟨h,h2⟩) ?_
   cases P2
   ·simp[hkk]
    refine GCall.never (by simp) (aB false) ?_
    simp[hkk]
    exact⟨⟨by omega,by omega⟩,s1 rfl⟩
   ·simp[hkk]
    refine GCall.fn (aB P4) (fun h=>⟨h,h4⟩) ?_
    cases P4
    ·simp[hkk]
     exact⟨⟨by omega,by omega⟩,s1 rfl⟩
    ·simp[hkk]
     exact⟨by rw[s2 rfl];rfl,fun a b=>absurd hkk (by simp[a,b])⟩
  ·have hk1:(kindOf c.parts n==2||kindOf c.parts n==3)=false:=by
    rw[hkn,Bool.or_eq_false_iff]
    simp only[beq_eq_false_iff_ne,ne_eq]
    omega
   rw[hk1,Bool.false_and]at s1 s2
   refine GCall.never hkk (aB false) ?_
   simp[hkk]
   refine GCall.never (by simp) (aB false) ?_
   simp[hkk]
   exact⟨⟨by omega,by omega⟩,s1 rfl⟩
 ·rintro⟨⟩ hI
  rw[hno hI]
  simp[idxI]
abbrev rDr (d:Drv):List A:=[.dat (.int .i64 (d.1:Nat)),.dat (.int .i64 (d.2:Nat))]
theorem rowsD_Dr (xs:List Drv):rowsD (xs.map rDr)=xs.map encDr:=by unfold rowsD;rw[List.map_map];rfl
theorem allD_Dr (xs:List Drv):allD (xs.map rDr)=true:=by simp[allD,isD]
def pairE (c:Cir):Int:=if cirE c≠0 then cirE c else drvE c.parts (netsZ c)
structure PlS.Raw (s:PlS) (c:Cir):Prop where
 ok:s.OK
 ps:s.ps=c.parts
 ns:s.ns=netsZ c
 dr:s.dr=.dat (.sl ((drvN c.parts (netsZ c) c.parts.length).map encDr))
 od:s.od=.nils
 bu:s.bu=.nils
 va:s.va=.nils
 lE:s.lE=[]
abbrev pS (c:Cir) (m1 m2 b:Nat) (dr:A) (oE:List (KeyK×List L)):PlS:=⟨c.parts,c.pipes,netsZ c,m1,m2,b,dr,.nils,.nils,.nils,oE,[]⟩
theorem pS_ok {c:Cir}(hr:CirR c) {oE:List (KeyK×List L)}(h:OfD (netsZ c) (netsZ c).length 0 oE) (m1 m2 b:Nat) (dr:A):(pS c m1 m2 b dr oE).OK:=
 ⟨hr.few,fun p hp=>part_kind (hr.part p hp),netsZ_few hr,netsZ_net hr,h.all hr⟩
abbrev drE (v:Value) (l:List Drv):Nat×Ent:=(173,.seq v 76 2 (l.map rDr))
theorem CallS.frzOr {P:Program}{g:FuncId}{az:List A}{H:Heap}{K K':A->Heap->Prop}(h:CallS P g az H K)
  (hk:∀r H',K r H'->K' r H'∨∃(q τ b j t:Nat) (hd:Value) (e sz:Nat) (rows:List (List A)) (cs:List A),hget q (hdel τ H')=some (.box b cs)∧hget τ H'=some (.seq hd e sz rows)∧allD rows=true∧cs[j]?=some (.own t hd) ∧
   K' r (hset q (.box b (cs.set j (.dat (.sl (rowsD rows))))) (hdel τ H'))):CallS P g az H K':=by
 refine⟨h.1,fun x args H0 hi hd=>(h.2 x args H0 hi hd).mono ?_⟩
 rintro _ _ ⟨y,v,r,H',rfl,rfl,hle,hi',hv,hkk⟩
 rcases hk r H' hkk with h0 | ⟨q,τ,b,j,t,hd,e,sz,rows,cs,h1,h2,h3,h4,h5⟩
 ·exact⟨y,v,r,H',rfl,rfl,hle,hi',hv,h0⟩
 ·obtain⟨z,hw,hle2,hi2,hrd⟩:=freeze1 h2 h3 hi'
  have hi3:=hi2.swap (e':=.box b (cs.set j (.dat (.sl (rowsD rows))))) h1 (fun ⟨c,ty,k1,k2⟩=>⟨c,ty,k1,Ds_set (fun v hv=>by simp only[D]at hv ⊢;rw[hv.1];exact hrd) h4 k2⟩) (fun b hb=>hb)
  exact⟨z,v,r,_,rfl,hw,hle.trans hle2,hi3,hv.mono hle2,h5⟩
abbrev PrK (c:Cir) (m1 m2 b:Nat) (r:A) (H':Heap):Prop:=if drvE c.parts (netsZ c)=0 then ∃v oE,r=.tuple [.ptr 170 b 0,aI 0]∧subP ((pS c m1 m2 b (.own 173 v) oE).hp++[drE v (drvN c.parts (netsZ c) c.parts.length)]) H'∧OfD (netsZ c) (netsZ c).length 0 oE else r=.tuple [.nilp,aI (drvE c.parts (netsZ c))]
abbrev prE (c:Cir) (b:Nat):List (Nat×A):=[(1,.rptr (encCi c)),(2,.nilp),(3,aI 0),(4,aNets (netsZ c)),(6,.ptr 170 b 0)]
abbrev prF (c:Cir) (b:Nat):List (Nat×A):=[(1,.rptr (encCi c)),(2,.nilp),(3,aI 0),(6,.ptr 170 b 0)]
theorem paired_b {c:Cir}(hr:CirR c) (m1 m2 b:Nat) (q:List (KeyK×List L)) (hq:OfD (netsZ c) (netsZ c).length 0 q):V ⟨Tryz.prog,none,83⟩ (restC Tryz.f74 5) (hdE (prF c b) []) ((pS c m1 m2 b (.own 173 (.slice none 0 0)) q).hp++[drE (.slice none 0 0) []]) (RetV Tryz.prog [.tmp 2,.tmp 3] fun r H'=>∃m1 m2 b,PrK c m1 m2 b r H'):=by
 refine V.rest rfl ?_
 refine V.of_vcN 1 ?_
 have hfew:=hr.few
 simp
 refine V.forI (σ:=Value) c.parts.length [2,3,6,50] (by simp;exact rfl) (fun i _=>[(51,aI i)]) (fun i v=>(pS c m1 m2 b (.own 173 v) q).hp++[drE v (drvN c.parts (netsZ c) i)]) (fun i _=>∀j,j<i->kindOf c.parts j=1->(valveZ c.parts (netsZ c) j).isSome=true) (.slice none 0 0) (by simp) (by simp) ⟨by simp;exact rfl,by simp[drvN,cylsN]⟩ ?_ ?_
 ·rintro i v hi hI
  have hok:=pS_ok hr hq m1 m2 b (.own 173 v)
  have hk:=kind_s hok (i:=i) hi
  have hdl:=drvN_len c.parts (netsZ c) i
  simp[hi]
  refine (hk.mid [] [_]).mono ?_
  rintro r H' ⟨rfl,rfl⟩
  by_cases h1:kindOf c.parts i=1
  ·have hv:=valve_s hok (i:=i) h1
   simp[h1]
   refine (hv.mid [] [_]).mono ?_
   rintro r H' ⟨rfl,rfl⟩
   cases hz:valveZ c.parts (netsZ c) i with
   | none=>
    simp[idxI]
    refine⟨m1,m2,b,?_⟩
    unfold PrK
    rw[drvE_bad hi h1 hz,if_neg (by decide)]
   | some k=>
    simp[idxI]
    refine⟨fun hh=>by omega,by omega,⟨by omega,by omega⟩,fun j hj hk1=>?_,?_⟩
    ·by_cases e:j=i
     ·rw[e,hz];rfl
     ·exact hI j (by omega) hk1
    ·rw[drvN_succ,if_pos h1,hz]
     simp
  ·have h1':¬((kindOf c.parts i:Nat):Int)=1:=by omega
   simp[h1']
   refine⟨⟨by omega,by omega⟩,fun j hj hk1=>?_,?_⟩
   ·by_cases e:j=i
    ·rw[e]at hk1;exact absurd hk1 h1
    ·exact hI j (by omega) hk1
   ·rw[drvN_succ,if_neg h1]
    simp
 ·rintro v hI
  simp
  refine V.of_vc ?_
  have he:=drvE_end hI
  simp
  refine⟨fun h0=>?_,fun h0=>?_⟩
  ·refine⟨m1,m2,b,?_⟩
   unfold PrK
   rw[he,if_pos h0,if_neg (by decide)]
  ·refine⟨m1,m2,b,?_⟩
   unfold PrK
   rw[he,if_neg h0,if_pos rfl]
   exact⟨v,q,rfl,subP.refl _,hq⟩
theorem paired_a {c:Cir}(hr:CirR c) (m1 m2 b:Nat):V ⟨Tryz.prog,none,83⟩ (restC Tryz.f74 4) (hdE (prE c b) []) ((pS c m1 m2 b (.own 173 (.slice none 0 0)) []).hp++[drE (.slice none 0 0) []]) (RetV Tryz.prog [.tmp 2,.tmp 3] fun r H'=>∃m1 m2 b,PrK c m1 m2 b r H'):=by
 refine V.rest rfl ?_
 refine V.of_vcN 1 ?_
 have hfew:=netsZ_few hr
 simp
 refine V.forI (σ:=List (KeyK×List L)) (netsZ c).length [1,2,3,6,27,28] (by simp;exact rfl) (fun i _=>[(29,aI i)]) (fun _ q=>(pS c m1 m2 b (.own 173 (.slice none 0 0)) q).hp++[drE (.slice none 0 0) []]) (fun i q=>OfD (netsZ c) i 0 q) [] (OfD.zero _) (by simp) ⟨by simp;exact rfl,by simp⟩ ?_ ?_
 ·rintro i q hi hI
  obtain⟨l,hl⟩:∃l,(netsZ c)[i]=l:=⟨_,rfl⟩
  have hlo:(netsZ c)[i]?=some l:=by rw[List.getElem?_eq_getElem hi,hl]
  obtain⟨n1,n2,n3⟩:=netsZ_net hr l (List.mem_of_getElem? hlo)
  simp[hi,hl,hlo]
  refine V.forI (σ:=List (KeyK×List L)) l.length [1,2,3,6,7,8,27,28,29,34,35] (by simp;exact rfl) (fun j _=>[(36,aI j)]) (fun _ q=>(pS c m1 m2 b (.own 173 (.slice none 0 0)) q).hp++[drE (.slice none 0 0) []]) (fun j q=>OfD (netsZ c) i j q) q hI (by simp) ⟨by simp;exact rfl,by simp⟩ ?_ ?_
  ·rintro j q hj hI
   obtain⟨x,hx⟩:∃x,l[j]=x:=⟨_,rfl⟩
   have hxo:l[j]?=some x:=by rw[List.getElem?_eq_getElem hj,hx]
   have hok:=okK_port (ps:=c.parts) (by have:=hr.few;omega) (n3 x (List.mem_of_getElem? hxo))
   simp[hj,hx,hxo]
   intro b10
   refine V.drawX (fun _=>none) (by kernel_rfl) (by kernel_rfl) (by simp) ?_
   simp
   exact⟨hok,⟨by omega,by omega⟩,hI.put hlo hxo⟩
  ·rintro q hI
   simp
   exact⟨⟨by omega,by omega⟩,hI.next hlo⟩
 ·rintro q hI
  simp
  exact V.cutV (Hs:=(pS c m1 m2 b (.own 173 (.slice none 0 0)) q).hp++[drE (.slice none 0 0) []]) (prF c b) (by simp) (by simp) (V.of_rest rfl (paired_b hr m1 m2 b q hI))
theorem paired_s (c:Cir) (hs:c.parts.length<=64->∀p∈c.parts,p.name.length<=1000) (hl:Sh c.parts) (hl2:Sh c.pipes) :
  CallS Tryz.prog 74 [aCi c] [] fun r H'=>if pairE c=0 then ∃s:PlS,r=.tuple [.ptr 170 s.b 0,aI 0]∧H'=s.hp∧s.Raw c else r=.tuple [.nilp,aI (pairE c)]∧H'=[]:=by
 have hn:=Nets_fn c hs hl hl2
 by_cases h0:cirE c=0
 ·have hr:=cirR_of h0
  have hpe:pairE c=drvE c.parts (netsZ c):=by unfold pairE;rw[if_neg (by simp[h0])]
  rw[hpe]
  rw[h0]at hn
  refine CallS.frzOr (CallS.dropP (callS_cut 4 Tryz.func74 rfl Tryz.ntmps74 (rs:=[.tmp 2,.tmp 3]) rfl (by kernel_rfl) (by simp) (by kernel_rfl) (K:=fun r H'=>∃m1 m2 b,PrK c m1 m2 b r H') ?_) (K':=fun r H'=>if drvE c.parts (netsZ c)=0 then ∃m1 m2 b v oE,r=.tuple [.ptr 170 b 0,aI 0]∧H'=(pS c m1 m2 b (.own 173 v) oE).hp++[drE v (drvN c.parts (netsZ c) c.parts.length)]∧OfD (netsZ c) (netsZ c).length 0 oE else r=.tuple [.nilp,aI (drvE c.parts (netsZ c))]∧H'=[]) ?_) ?_
  ·simp
   refine hn.s ?_
   simp
   intro m1 m2 b
   refine V.cutIN 0 (Hs:=(pS c m1 m2 b (.own 173 (.slice none 0 0)) []).hp++[drE (.slice none 0 0) []]) (prE c b) ?_ ?_ ?_
   ·intro p hp x v hv
    simp only[List.mem_cons,List.not_mem_nil,or_false]at hp
    rcases hp with rfl | rfl | rfl | rfl | rfl
    ·simpa using hv
    ·simpa using hv
    ·simpa using hv
    ·simpa using hv
    ·simpa [D]using hv
   ·intro x H0 hi
    have h0:=hi.perm (H':=[(26,Ent.box b [.dat (.sl (c.parts.map encPa)),.dat (.sl (c.pipes.map encPi)),aNets (netsZ c),.map 23 m1,.nils,.nils,.nils,.nils,.map 24 m2]),(23,.mapK m1 false []),(24,.map m2 (.int .i64) [])]++H0) ((List.Perm.cons _ (List.Perm.swap _ _ _)))
    have h1:Inv x ([(170,Ent.box b [.dat (.sl (c.parts.map encPa)),.dat (.sl (c.pipes.map encPi)),aNets (netsZ c),.map 23 m1,.nils,.nils,.nils,.nils,.map 24 m2]),(171,.mapK m1 false []),(172,.map m2 (.int .i64) [])]++H0):=h0.ents (by simp)
    have h2:=Inv.swap (g:=170) (e':=.box b (pS c m1 m2 b (.own 173 (.slice none 0 0)) []).cells) rfl (box_sat (Ds_c D_i (Ds_c D_i (Ds_c D_i (Ds_c D_mtag (Ds_c D_nilo (Ds_c D_i (Ds_c D_i (Ds_c D_i (Ds_c D_mtag Ds_i)))))))))) (fun _ h=>h) h1
    have h3:=Inv.nil (t:=173) (e:=.seq (.slice none 0 0) 76 2 []) h2 ⟨rfl,rfl⟩
    refine h3.perm ?_
    rw[List.append_assoc]
    exact List.perm_middle (l₁:=[_,_,_])
   ·exact paired_a hr m1 m2 b
  ·rintro r H' ⟨m1,m2,b,hk⟩
   unfold PrK at hk
   by_cases hd:drvE c.parts (netsZ c)=0
   ·rw[if_pos hd]at hk
    obtain⟨v,oE,h1,h2,h3⟩:=hk
    refine⟨_,h2,?_⟩
    rw[if_pos hd]
    exact⟨m1,m2,b,v,oE,h1,rfl,h3⟩
   ·rw[if_neg hd]at hk
    refine⟨[],⟨[],List.nil_sublist _,List.Perm.refl _⟩,?_⟩
    rw[if_neg hd]
    exact⟨hk,rfl⟩
  ·intro r H' hk
   by_cases hd:drvE c.parts (netsZ c)=0
   ·rw[if_pos hd]at hk ⊢
    obtain⟨m1,m2,b,v,oE,rfl,rfl,h3⟩:=hk
    refine .inr ⟨170,173,b,4,173,v,76,2,(drvN c.parts (netsZ c) c.parts.length).map rDr,(pS c m1 m2 b (.own 173 v) oE).cells,rfl,rfl,allD_Dr _,rfl,?_⟩
    rw[if_pos hd]
    refine⟨pS c m1 m2 b (.dat (.sl ((drvN c.parts (netsZ c) c.parts.length).map encDr))) oE,rfl,?_,⟨pS_ok hr h3 _ _ _ _,rfl,rfl,rfl,rfl,rfl,rfl,rfl⟩⟩
    rw[rowsD_Dr]
    rfl
   ·rw[if_neg hd]at hk ⊢
    exact .inl hk
 ·have hpe:pairE c=cirE c:=by unfold pairE;rw[if_pos h0]
  rw[hpe]
  refine callS_of Tryz.func74 rfl Tryz.ntmps74 (rs:=[.tmp 2,.tmp 3]) rfl (by kernel_rfl) (by simp) (by kernel_rfl) ?_
  simp
  refine hn.s ?_
  simp[h0]
theorem vars_right {n:Int}:∀(N:Nat) (x:Expr),SizeOf.sizeOf x<N->RightE n x->∀k∈varsE x,0<=k∧k<n
 | 0,_,h,_,_,_=>absurd h (Nat.not_lt_zero _)
 | N+1,x,hN,hr,k,hk=>by
  rw[varsE_eq]at hk
  rcases List.mem_append.1 hk with hk | hk
  ·split at hk
   ·rename_i hop
    simp only[List.mem_singleton]at hk
    subst hk
    have:=hr.node
    unfold nodeR at this
    simp only[hop]at this
    split at this<;>try omega
    split at this<;>try omega
    simp at this
    omega
   ·simp at hk
  ·have hL:∀l:List Expr,(∀y∈l,y∈x.args)->k∈varsL l->0<=k∧k<n:=by
    intro l
    induction l with
    | nil=>intro _ h;simp[varsL]at h
    | cons y l ih=>
     intro hl h
     simp only[varsL,List.mem_append]at h
     rcases h with h | h
     ·have hm:=hl y (by simp)
      exact vars_right N y (by have:=Expr.lt_of_mem hm;omega) (hr.args y hm) k h
     ·exact ih (fun z hz=>hl z (by simp[hz])) h
   exact hL x.args (fun _ h=>h) hk
theorem vars_check {x:Expr}{n:Int}(h:checkE x n=0):∀k∈varsE x,0<=k∧k<n:=vars_right (SizeOf.sizeOf x+1) x (by omega) (right_of_check h).1
theorem line_notin {c:Control}{k:Nat}(h:(k:Int)<2*c.actuators) (ha:c.actuators<=6):namedC c k∉namesB c k:=by
 intro hm
 obtain⟨j,hj,e⟩:=List.mem_map.1 hm
 simp only[List.mem_range]at hj
 rw[named_line (c:=c) (k:=j) (by omega),named_line h]at e
 have:=lineName_inj (by omega) (by omega) e
 omega
theorem check_s (c:Control) (hc:OkC c):CallS Tryz.prog 167 [aC c] [] fun r H'=>(checkC c=0->∃m,r=.tuple [.map 30 m,aI 0]∧H'=[chkMap m (namesB c (countC c).toNat)])∧(checkC c≠0->r=.tuple [.any,aI (checkC c)]∧H'=[]):=by
 refine CallS.dropP (callS_of Tryz.func167 rfl Tryz.ntmps167 (rs:=[.tmp 2,.tmp 3]) rfl (by kernel_rfl) (by simp) (by kernel_rfl) (K:=fun r H'=>(checkC c=0->∃m,r=.tuple [.map 30 m,aI 0]∧subP [chkMap m (namesB c (countC c).toNat)] H')∧(checkC c≠0->r=.tuple [.any,aI (checkC c)])) ?_) ?_
 ·by_cases ha:c.actuators<1∨c.actuators>6
  ·have e:checkC c=2:=by simp[checkC,ha]
   rw[e]
   simp
   intro h1 h2
   omega
  ·have ha':1<=c.actuators∧c.actuators<=6∧¬c.actuators<1∧¬ 6<c.actuators:=by omega
   by_cases hm:c.inputs.length>16∨c.signals.length>64
   ·have e:checkC c=5:=by simp only[checkC];rw[if_neg ha,if_pos hm]
    rw[e]
    simp[ha'.1,ha'.2]
    intro h1 h2
    omega
   ·have hsm:Sm c:=⟨by omega,by omega,by omega⟩
    obtain⟨N,hN⟩:∃N:Nat,c.actuators=N:=⟨c.actuators.toNat,by omega⟩
    have hNN:c.actuators.toNat=N:=by omega
    have hm':(c.inputs.length:Int)<=16∧(c.signals.length:Int)<=64∧¬ 16<(c.inputs.length:Int)∧¬ 64<(c.signals.length:Int):=by omega
    have hcn:countC c=2*c.actuators+c.inputs.length+c.signals.length:=rfl
    have e:checkC c=if firstErr (inpE c) (List.range c.inputs.length)≠0 then firstErr (inpE c) (List.range c.inputs.length)
      else if firstErr (sigE c) (List.range c.signals.length)≠0 then firstErr (sigE c) (List.range c.signals.length) else pilotE c:=by
     simp only[checkC];rw[if_neg ha,if_neg hm]
    simp[ha'.1,ha'.2,hm'.1,hm'.2]
    intro m b
    refine⟨by omega,?_⟩
    refine V.forI (σ:=Unit) (2*N) [1,2,3,4,45] (by simp;exact rfl) (fun i _=>[(46,aI i)]) (fun i _=>[chkMap m (namesB c i)]) (fun _ _=>True) () trivial (by simp) ⟨by simp;exact rfl,by simp[namesB,mapOf]⟩ ?_ ?_
    ·rintro i-hi -
     have hin:(i:Int)<2*c.actuators:=by omega
     simp[hin]
     refine V.draw (fun t=>if t=55 then some (.fn (aT (namedC c i))) else none) (by kernel_rfl) (by kernel_rfl) (by simp) ?_
     have e1:=named_fn c hsm ⟨by omega,by omega⟩ i (by omega) (by omega)
     have e2:=mput_of (line_notin (c:=c) (k:=i) hin (by omega))
     simp at e1 e2 ⊢
     rw[e2,<- namesB_succ]
     exact⟨e1,by omega,rfl⟩
    ·rintro - -
     have hin:¬((N:Int)<c.actuators)∧c.actuators<=N:=by omega
     simp[hin.1,hin.2]
     refine V.forI (σ:=Unit) c.inputs.length [1,4,59,60] (by simp;exact rfl) (fun i _=>[(61,aI i)]) (fun i _=>[chkMap m (namesB c (2*N+i))]) (fun i _=>NoE (inpE c) i) () (NoE.zero _) (by simp) ⟨by simp;exact rfl,by simp⟩ ?_ ?_
     ·rintro i-hi hI
      obtain⟨y,hy⟩:∃y,c.inputs[i]=y:=⟨_,rfl⟩
      have hn:namedC c (2*N+i:Nat)=y:=by
       refine named_inp (by omega) (by simp only[firstC];omega) ?_
       rw[<- hy,show ((2*N+i:Nat)-2*c.actuators:Int).toNat=i by omega]
       exact List.getElem?_eq_getElem hi
      have hin:inpE c i=nameE y (namesB c (2*N+i)):=by rw[inpE,hNN,hn]
      simp[hi,hy]
      refine ((cname_s b m c y (hc.names y (hy▸List.getElem_mem hi)) (namesB c (2*N+i)) (by simp;omega)).perm (List.Perm.swap _ _ _)).mono ?_
      rintro rr H' ⟨rfl,rfl⟩
      rw[<- hin]
      by_cases hz:inpE c i=0
      ·have hs:=namesB_succ c (2*N+i)
       rw[hn]at hs
       simp[hz]
       exact⟨by omega,hI.succ hz,by rw[<- hs];rfl⟩
      ·have hf:=firstErr_at hI hi hz
       have e':checkC c=inpE c i:=by rw[e,hf,if_pos hz]
       simp[hz,e']
     ·rintro-hI
      have hf:=firstErr_all hI
      rw[hf]at e
      simp at e
      simp
      refine V.forI (σ:=Unit) c.signals.length [1,4,74] (by simp;exact rfl) (fun i _=>[(75,aI i)]) (fun i _=>[chkMap m (namesB c (2*N+c.inputs.length+i))]) (fun i _=>NoE (sigE c) i) () (NoE.zero _) (by simp) ⟨by simp;exact rfl,by simp⟩ ?_ ?_
      ·rintro i-hi hI2
       obtain⟨y,hy⟩:∃y,c.signals[i]=y:=⟨_,rfl⟩
       have hyo:c.signals[i]?=some y:=by rw[List.getElem?_eq_getElem hi,hy]
       have hn:namedC c (2*N+c.inputs.length+i:Nat)=y.name:=by
        refine named_sig (s:=y) (by simp only[firstC];omega) (by simp only[firstC];omega) ?_
        rw[show ((2*N+c.inputs.length+i:Nat)-firstC c:Int).toNat=i by simp only[firstC];omega]
        exact hyo
       have hsE:sigE c i=signalE c i y (namesB c (2*N+c.inputs.length+i)):=by simp only[sigE,hyo,hNN]
       simp[hi]
       refine ((signal_s b m c hsm i y hyo (hc.sigs y (hy▸List.getElem_mem hi)) (namesB c (2*N+c.inputs.length+i)) (by simp;omega) (fun h=>vars_check h)).perm (List.Perm.swap _ _ _)).mono ?_
       rintro rr H' ⟨rfl,rfl⟩
       rw[<- hsE]
       by_cases hz:sigE c i=0
       ·have hs:=namesB_succ c (2*N+c.inputs.length+i)
        rw[hn]at hs
        have hne:nameE y.name (namesB c (2*N+c.inputs.length+i))=0:=by
         rw[hsE]at hz
         by_cases h0:nameE y.name (namesB c (2*N+c.inputs.length+i))=0
         ·exact h0
         ·simp[signalE,h0]at hz
        simp[hz,hne]
        exact⟨by omega,hI2.succ hz,by rw[<- hs];rfl⟩
       ·have hf:=firstErr_at hI2 hi hz
        have e':checkC c=sigE c i:=by rw[e,hf,if_neg hz]
        simp[hz,e']
      ·rintro-hI2
       have hf:=firstErr_all hI2
       rw[hf]at e
       simp at e
       by_cases hpl:(c.plus.length:Int)≠c.actuators∨(c.minus.length:Int)≠c.actuators
       ·have e':checkC c=8:=by rw[e,pilotE,if_pos hpl]
        rw[e']
        simp
        intro h1 h2
        omega
       ·have h1:(c.plus.length:Int)=c.actuators:=by omega
        have h2:(c.minus.length:Int)=c.actuators:=by omega
        have e':checkC c=if (c.plus++c.minus).any (fun l=>decide (l<0)||decide (countC c<=l)) then 6 else 0:=by rw[e,pilotE,if_neg hpl]
        have hcc:=concat_fn [c.plus,c.minus] (by simp[sumL];omega) (by simp)
        simp at hcc
        simp[h1,h2]
        refine hcc.s ?_
        simp
        refine (containsF_fn (c.plus++c.minus) (fun l=>decide (l<0)||decide (countC c<=l)) 245 [] [.rptr (encC c)] (by simp;omega) (fun n _=>by simpa using closure1_fn c hsm n)).s ?_
        cases hany:(c.plus++c.minus).any (fun l=>decide (l<0)||decide (countC c<=l))
        ·rw[hany]at e'
         simp at e'
         rw[e']
         simp
         rw[show (countC c).toNat=2*N+c.inputs.length+c.signals.length by omega]
         exact⟨_,List.singleton_sublist.2 (List.mem_cons_self),List.Perm.refl _⟩
        ·rw[hany]at e'
         simp at e'
         rw[e']
         simp
 ·rintro r H' ⟨h1,h2⟩
  by_cases hz:checkC c=0
  ·obtain⟨m,e1,e2⟩:=h1 hz
   exact⟨_,e2,fun _=>⟨m,e1,rfl⟩,fun h=>absurd hz h⟩
  ·exact⟨[],⟨[],List.nil_sublist _,List.Perm.refl _⟩,fun h=>absurd h hz,fun _=>⟨h2 hz,rfl⟩⟩
theorem Check_fn (c:Control) (hc:OkC c):CallFn Tryz.prog 102 [aC c] (aI (checkC c)):=by
 refine callFz_of Tryz.func102 rfl Tryz.ntmps102 (rs:=[.tmp 2]) rfl (by kernel_rfl) (by simp) (by kernel_rfl) ?_
 simp
 refine (CallS.frame (H1:=[]) (check_s c hc)).mono ?_
 rintro r H' ⟨H2,⟨h1,h2⟩,rfl⟩
 by_cases hz:checkC c=0
 ·obtain⟨m,rfl,rfl⟩:=h1 hz
  simp[hz]
 ·obtain⟨rfl,rfl⟩:=h2 hz
  simp
structure PlS.Srt (s:PlS) (c:Cir):Prop where
 ok:s.OK
 ps:s.ps=c.parts
 ns:s.ns=netsZ c
 dr:s.dr=.dat (.sl ((drvN c.parts (netsZ c) c.parts.length).map encDr))
 od:s.od=aNs (orderN c.parts (drvN c.parts (netsZ c) c.parts.length) (netsZ c) (manyC c.parts (netsZ c)))
 bu:s.bu=.nils
 va:s.va=.nils
 lE:s.lE=[]
theorem sorted_s (c:Cir) (hs:c.parts.length<=64->∀p∈c.parts,p.name.length<=1000) (hl:Sh c.parts) (hl2:Sh c.pipes) :
  CallS Tryz.prog 144 [aCi c] [] fun r H'=>if pairE c=0 then ∃s:PlS,r=.tuple [.ptr 170 s.b 0,aI (sortE c.parts (drvN c.parts (netsZ c) c.parts.length) (netsZ c))]∧H'=s.hp∧s.Srt c else r=.tuple [.nilp,aI (pairE c)]∧H'=[]:=by
 have hp:=paired_s c hs hl hl2
 by_cases h0:pairE c=0
 ·simp only[h0,if_true]at hp ⊢
  have hd0:cirE c=0:=by
   unfold pairE at h0
   split at h0
   ·exact h0
   ·rename_i h;exact Classical.not_not.1 h
  have hr:=cirR_of hd0
  have hdl:(drvN c.parts (netsZ c) c.parts.length).length<=1000:=by
   have:=drvN_len c.parts (netsZ c) c.parts.length
   have:=hr.few
   omega
  refine callS_of Tryz.func144 rfl Tryz.ntmps144 (rs:=[.tmp 2,.tmp 3]) rfl (by kernel_rfl) (by simp) (by kernel_rfl) ?_
  simp
  refine hp.mono ?_
  rintro r H' ⟨s,rfl,rfl,hs⟩
  have hso:=sort_s hs.ok hs.od hs.dr hdl
  simp
  refine hso.mono ?_
  rintro r H' ⟨rfl,rfl⟩
  simp
  exact⟨{ s with od:=aNs (orderN s.ps (drvN c.parts (netsZ c) c.parts.length) s.ns (manyC s.ps s.ns)) },⟨rfl,by rw[hs.ps,hs.ns]⟩,⟨⟨rfl,rfl,rfl,rfl,rfl,rfl,rfl,rfl,rfl,rfl⟩,⟨rfl,rfl⟩,rfl,rfl⟩,
   ⟨hs.ok.od _,hs.ps,hs.ns,hs.dr,by show aNs _=aNs _;rw[hs.ps,hs.ns],hs.bu,hs.va,hs.lE⟩⟩
 ·simp only[h0,if_false]at hp ⊢
  refine callS_of Tryz.func144 rfl Tryz.ntmps144 (rs:=[.tmp 2,.tmp 3]) rfl (by kernel_rfl) (by simp) (by kernel_rfl) ?_
  simp
  refine hp.mono ?_
  rintro r H' ⟨rfl,rfl⟩
  simp[h0]
def buildE (c:Cir):Int:=if planE c≠0 then planE c else checkC (planZ c).ctl
theorem planE_eq (c:Cir):planE c=if pairE c≠0 then pairE c else sortE c.parts (drvN c.parts (netsZ c) c.parts.length) (netsZ c):=by
 unfold planE pairE sortE
 by_cases h:cirE c=0
 ·simp[h]
 ·simp[h]
theorem build_s (c:Cir) (hs:c.parts.length<=64->∀p∈c.parts,p.name.length<=1000) (hl:Sh c.parts) (hl2:Sh c.pipes) :
  CallS Tryz.prog 72 [aCi c] [] fun r H'=>if buildE c=0 then ∃s:PlS,r=.tuple [.ptr 170 s.b 0,aC (planZ c).ctl,aI 0]∧H'=s.hp∧s.At (planZ c) else r=.tuple [.nilp,aC ⟨0,[],[],[],[]⟩,aI (buildE c)]∧H'=[]:=by
 have hp:=sorted_s c hs hl hl2
 by_cases h0:pairE c=0
 ·simp only[h0,if_true]at hp
  have hb:buildE c=if sortE c.parts (drvN c.parts (netsZ c) c.parts.length) (netsZ c)≠0 then sortE c.parts (drvN c.parts (netsZ c) c.parts.length) (netsZ c) else checkC (planZ c).ctl:=by
   unfold buildE
   rw[planE_eq]
   simp[h0]
  have hd0:cirE c=0:=by
   unfold pairE at h0
   split at h0
   ·exact h0
   ·rename_i h;exact Classical.not_not.1 h
  have hde:drvE c.parts (netsZ c)=0:=by
   unfold pairE at h0
   rw[if_neg (by simp[hd0])]at h0
   exact h0
  have hr:=cirR_of hd0
  have hB:=planZ_B hr
  have hD:=planZ_D hde
  have hch:=Check_fn (planZ c).ctl (hB.okC fun d hd=>(mem_drvN hde hd).2.2.2.1)
  rw[hb]
  generalize hso:sortE c.parts (drvN c.parts (netsZ c) c.parts.length) (netsZ c)=so at *
  refine CallS.dropP (callS_of Tryz.func72 rfl Tryz.ntmps72 (rs:=[.tmp 2,.cell 3 26,.tmp 4]) rfl (by kernel_rfl) (by simp) (by kernel_rfl) (K:=fun r H'=>if so=0∧checkC (planZ c).ctl=0 then ∃s:PlS,r=.tuple [.ptr 170 s.b 0,aC (planZ c).ctl,aI 0]∧subP s.hp H'∧s.At (planZ c) else r=.tuple [.nilp,aC ⟨0,[],[],[],[]⟩,aI (if so≠0 then so else checkC (planZ c).ctl)]) ?_) ?_
  ·simp
   intro b3
   refine (hp.frameL (H1:=[(3,_)])).mono ?_
   rintro r H' ⟨_,⟨s,rfl,rfl,hs⟩,rfl⟩
   by_cases hz:so=0
   ·subst hz
    simp
    have hpre:s.Pre (planZ c):=⟨hs.ok,hs.ps,hs.ns,hs.dr,hB.dl,fun d hd=>(mem_drvN hde hd).1,hs.od,hB.ol,hB.names,planZ_lim hr⟩
    refine ((place_s hpre hs.bu hs.va hs.lE).frameL (H1:=[(3,_)])).mono ?_
    rintro r H' ⟨_,⟨s2,rfl,rfl,hA,hbb⟩,rfl⟩
    rw[<- hbb]
    simp
    refine ((control_s hA hD hB).mid [(3,_)] []).mono ?_
    rintro r H' ⟨rfl,rfl⟩
    generalize (planZ c).ctl=ct at *
    simp
    intro b7
    refine hch.s ?_
    by_cases hc0:checkC ct=0
    ·rw[hc0]
     simp
     refine V.drawX (fun _=>none) (by kernel_rfl) (by kernel_rfl) (by simp) ?_
     simp
     exact⟨s2,rfl,((subP.refl _).c _).c _,hA⟩
    ·simp[hc0]
   ·simp[hz]
  ·rintro r H' hk
   by_cases hz:so=0∧checkC (planZ c).ctl=0
   ·rw[if_pos hz]at hk
    obtain⟨s,h1,h2,h3⟩:=hk
    refine⟨_,h2,?_⟩
    rw[if_pos (by rw[if_neg (by simp[hz.1])];exact hz.2)]
    exact⟨s,h1,rfl,h3⟩
   ·rw[if_neg hz]at hk
    refine⟨[],⟨[],List.nil_sublist _,List.Perm.refl _⟩,?_⟩
    have:¬(if so≠0 then so else checkC (planZ c).ctl)=0:=by
     by_cases e:so=0
     ·simp only[e,ne_eq,not_true,if_false]
      exact fun h=>hz ⟨e,h⟩
     ·simp[e]
    rw[if_neg this]
    exact⟨hk,rfl⟩
 ·simp only[h0,if_false]at hp
  have hb:buildE c=pairE c:=by
   unfold buildE
   rw[planE_eq]
   simp[h0]
  rw[hb]
  simp only[h0,if_false]
  refine CallS.dropP (callS_of Tryz.func72 rfl Tryz.ntmps72 (rs:=[.tmp 2,.cell 3 26,.tmp 4]) rfl (by kernel_rfl) (by simp) (by kernel_rfl) (K:=fun r H'=>r=.tuple [.nilp,aC ⟨0,[],[],[],[]⟩,aI (pairE c)]) ?_) (fun r H' h=>⟨[],⟨[],List.nil_sublist _,List.Perm.refl _⟩,h,rfl⟩)
  simp
  intro b3
  refine (hp.frameL (H1:=[(3,_)])).mono ?_
  rintro r H' ⟨_,⟨rfl,rfl⟩,rfl⟩
  simp[h0]
def drivesQ (c:Cir):List Drv×Int:=if pairE c=0 then (drvN c.parts (netsZ c) c.parts.length,0) else ([],pairE c)
theorem Drives_fn (c:Cir) (hc:OkCir c):CallFn Tryz.prog 29 [aCi c] (.tuple [.dat (.sl ((drivesQ c).1.map encDr)),aI (drivesQ c).2]):=by
 have hp:=paired_s c hc.names hc.parts hc.pipes
 unfold drivesQ
 by_cases h0:pairE c=0
 ·simp only[h0,if_true]at hp ⊢
  refine callFz_of Tryz.func29 rfl Tryz.ntmps29 (rs:=[.tmp 2,.tmp 3]) rfl (by kernel_rfl) (by simp) (by kernel_rfl) ?_
  simp
  refine hp.mono ?_
  rintro r H' ⟨s,rfl,rfl,hs⟩
  simp[hs.dr]
 ·simp only[h0,if_false]at hp ⊢
  refine callFz_of Tryz.func29 rfl Tryz.ntmps29 (rs:=[.tmp 2,.tmp 3]) rfl (by kernel_rfl) (by simp) (by kernel_rfl) ?_
  simp
  refine hp.mono ?_
  rintro r H' ⟨rfl,rfl⟩
  simp[h0]
def noCtl:Control:=⟨0,[],[],[],[]⟩
def controlQ (c:Cir):Control×Int:=if buildE c=0 then ((planZ c).ctl,0) else (noCtl,buildE c)
theorem kind_of {c:Cir}(hr:CirR c) {i:Nat}{x:Prt}(hx:c.parts[i]?=some x):x.kind=(kindOf c.parts i:Nat)∧kindOf c.parts i<14:=by
 have:=part_kind (hr.part x (List.mem_of_getElem? hx))
 rw[kindOf_at hx]
 omega
theorem idxI_3 (o:Option Nat):(idxI o==3)=(o==some 3):=by
 cases o with
 | none=>rfl
 | some k=>
  rw[Bool.eq_iff_iff]
  simp only[idxI,beq_iff_eq,Option.some.injEq]
  omega
theorem CountsR_fn {c:Cir}(hr:CirR c) {l:List PortZ}(hl:l.length<=448) (hne:l≠[]) (hp:∀p∈l,p∈allP c.parts):CallFn Tryz.prog 275 [aCi c,.dat (.sl (l.map encPo))] (aB (countsZ c.parts l)):=by
 cases l with
 | nil=>exact absurd rfl hne
 | cons q l=>
  obtain⟨j,x,hj,hx,hq1,_⟩:=mem_allN.1 (hp q (by simp))
  obtain⟨q1,q2⟩:=q
  simp only at hq1
  subst hq1
  obtain⟨hk,hk14⟩:=kind_of hr hx
  have hpl:=Plays_fn (kindOf c.parts j) hk14 q2
  have hz:countsZ c.parts (((j:Int),q2)::l)=(decide (1<l.length+1)||roleK (kindOf c.parts j) q2==some 3):=by
   unfold countsZ
   rw[List.length_cons]
   simp only[Int.toNat_natCast]
  rw[hz]
  obtain⟨x1,x2,x3⟩:=x
  simp only at hk
  subst hk
  obtain⟨hjl,hxe⟩:=List.getElem?_eq_some_iff.1 hx
  simp at hl
  generalize kindOf c.parts j=k at *
  refine callFz_of Tryz.func275 rfl Tryz.ntmps275 (rs:=[.tmp 4]) rfl (by kernel_rfl) (by simp) (by kernel_rfl) ?_
  simp
  refine V.drawX (fun t=>if t=22 then some (.fn (aI (idxI (roleK k q2)))) else none) (by kernel_rfl) (by kernel_rfl) (by simp) ?_
  simp[hjl,hx,hxe]
  refine⟨fun h=>⟨h,hpl⟩,?_⟩
  rw[idxI_3]
  congr 1
  rw[Bool.eq_iff_iff]
  simp only[decide_eq_true_eq]
  omega
theorem Buttons_o {c:Cir}(hr:CirR c):CallFn Tryz.prog 199 [aCi c] (aNs (buttN c.parts c.parts.length)):=by
 have hf:=hr.few
 refine callFz_of Tryz.func199 rfl Tryz.ntmps199 (rs:=[.tmp 2]) rfl (by kernel_rfl) (by simp) (by kernel_rfl) ?_
 simp
 refine V.forI (σ:=Value) c.parts.length [1,2] (by simp;exact rfl) (fun i g=>[(3,.own 50 g),(4,aI i)]) (fun i g=>[(50,.seq g 3 1 ((buttN c.parts i).map rN))]) (fun _ _=>True) (.slice none 0 0) trivial (by simp) ⟨by simp;exact rfl,by simp[buttN]⟩ ?_ ?_
 ·rintro i g hi -
  obtain⟨x,hx⟩:∃x,c.parts[i]=x:=⟨_,rfl⟩
  have hxo:c.parts[i]?=some x:=by rw[List.getElem?_eq_getElem hi,hx]
  obtain⟨hk,hk14⟩:=kind_of hr hxo
  have hbl:=buttN_len c.parts i
  rw[buttN_succ]
  simp[hi,hx,hxo]
  refine⟨fun h7=>⟨by omega,⟨by omega,by omega⟩,?_⟩,fun h7=>⟨⟨by omega,by omega⟩,by omega⟩⟩
  rw[if_pos (by omega)]
  rfl
 ·rintro g -
  simp
theorem Valves_fn {c:Cir}(hr:CirR c) {d:List Drv}(hd:d.length<=1000):CallFn Tryz.prog 201 [aCi c,.dat (.sl (d.map encDr))] (aNs (valvN c.parts d c.parts.length)):=by
 have hf:=hr.few
 have hdf:=fun i:Nat=>drives_fn d i (by unfold Sh;omega)
 refine callFz_of Tryz.func201 rfl Tryz.ntmps201 (rs:=[.tmp 4]) rfl (by kernel_rfl) (by simp) (by kernel_rfl) ?_
 simp
 refine V.forI (σ:=Value) c.parts.length [1,2,4] (by simp;exact rfl) (fun i g=>[(5,.own 50 g),(6,aI i)]) (fun i g=>[(50,.seq g 3 1 ((valvN c.parts d i).map rN))]) (fun _ _=>True) (.slice none 0 0) trivial (by simp) ⟨by simp;exact rfl,by simp[valvN]⟩ ?_ ?_
 ·rintro i g hi -
  obtain⟨x,hx⟩:∃x,c.parts[i]=x:=⟨_,rfl⟩
  have hxo:c.parts[i]?=some x:=by rw[List.getElem?_eq_getElem hi,hx]
  obtain⟨hk,hk14⟩:=kind_of hr hxo
  have hpi:=Piloted_fn (kindOf c.parts i) hk14
  have hvl:=valvN_len c.parts d i
  have hdi:=hdf i
  rw[valvN_succ]
  rw[<- hk]at hpi
  simp[hi,hx,hxo]
  refine hpi.s ?_
  simp
  by_cases hpl:plusK (kindOf c.parts i)=[]
  ·refine GCall.never (by simp[hpl]) (aB false) ?_
   simp[hpl]
   omega
  ·refine GCall.fn (aB (drivenZ d i).isSome) (fun h=>⟨h,hdi⟩) ?_
   cases hz:drivenZ d i with
   | none=>
    simp[hpl]
    omega
   | some k=>
    simp[hpl]
    omega
 ·rintro g -
  simp
def allQ (c:Cir):List Drv×Int:=if drvE c.parts (netsZ c)=0 then (drvN c.parts (netsZ c) c.parts.length,0) else ([],drvE c.parts (netsZ c))
theorem AllD_fn {c:Cir}(hr:CirR c):CallFn Tryz.prog 274 [aCi c] (.tuple [.dat (.sl ((allQ c).1.map encDr)),aI (allQ c).2]):=by
 have hf:=hr.few
 have hj:=Joined_fn c hr
 have hv:=fun i hi=>valveR_fn hr (fun p hp=>part_kind (hr.part p hp)) (i:=i) hi
 have hbad:=fun i=>drvE_bad (ps:=c.parts) (ns:=netsZ c) (i:=i)
 have hend:=drvE_end (ps:=c.parts) (ns:=netsZ c)
 have hsc:=drvN_succ c.parts (netsZ c)
 have hdl:=drvN_len c.parts (netsZ c)
 have h0:drvN c.parts (netsZ c) 0=[]:=rfl
 generalize hR:allQ c=R
 unfold allQ at hR
 generalize drvN c.parts (netsZ c)=DN at *
 generalize drvE c.parts (netsZ c)=DE at *
 generalize valveZ c.parts (netsZ c)=VZ at *
 generalize netsZ c=ns at *
 refine callFz_of Tryz.func274 rfl Tryz.ntmps274 (rs:=[.tmp 2,.tmp 3]) rfl (by kernel_rfl) (by simp) (by kernel_rfl) ?_
 simp
 refine hj.s ?_
 simp
 refine V.forI (σ:=Value) c.parts.length [1,2,3,4] (by simp;exact rfl) (fun i g=>[(5,.own 50 g),(6,aB (decide (DN i≠[]))),(7,aI i)]) (fun i g=>[(50,.seq g 277 2 ((DN i).map rDr))]) (fun i _=>∀j,j<i->kindOf c.parts j=1->(VZ j).isSome=true) (.slice none 0 0) (by simp) (by simp[h0]) ⟨by simp;exact rfl,by simp[h0]⟩ ?_ ?_
 ·rintro i g hi hI
  obtain⟨x,hx⟩:∃x,c.parts[i]=x:=⟨_,rfl⟩
  have hxo:c.parts[i]?=some x:=by rw[List.getElem?_eq_getElem hi,hx]
  obtain⟨hk,hk14⟩:=kind_of hr hxo
  have hdi:=hdl i
  rw[hsc]
  by_cases h1:kindOf c.parts i=1
  ·have hx1:x.kind=1:=by omega
   have hvi:=hv i h1
   simp[hi,hx,hxo,hx1]
   refine hvi.s ?_
   cases hz:VZ i with
   | none=>
    simp[idxI]
    rw[<- hR,hbad i hi h1 hz]
    simp
   | some k=>
    simp[idxI]
    refine⟨fun h=>by omega,fun u=>⟨by omega,⟨by omega,by omega⟩,fun j hj hk1=>?_,u,⟨rfl,.inr h1⟩,rfl,?_⟩⟩
    ·by_cases e:j=i
     ·rw[e,hz];rfl
     ·exact hI j (by omega) hk1
    ·rw[if_pos h1]
     rfl
  ·have hx1:¬x.kind=1:=by omega
   rw[if_neg h1]
   simp[hi,hx,hxo,hx1]
   refine⟨⟨by omega,by omega⟩,fun j hj hk1=>?_⟩
   by_cases e:j=i
   ·rw[e]at hk1;exact absurd hk1 h1
   ·exact hI j (by omega) hk1
 ·rintro g hI
  have he:=hend hI
  rw[<- hR,he]
  simp
  by_cases hd0:DN c.parts.length=[]
  ·simp[hd0]
  ·simp[hd0,allD_Dr,rowsD_Dr]
end Go.Proofs.YtafamcbdaeppoaaGreatDoor
