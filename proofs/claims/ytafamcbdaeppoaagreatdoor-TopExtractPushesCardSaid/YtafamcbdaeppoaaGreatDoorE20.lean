/- Texts joined by a program: Kg,Kh,Ki,Kj,Ku,Kv,Kw,Sdl. -/
import Derived.Shelf.Slices.Delete
import Derived.Test.YtafamcbdaeppoaaGreatDoorProg
import Derived.KernelRfl
import Derived.Test.YtafamcbdaeppoaaGreatDoorE19
import Derived.Test.YtafamcbdaeppoaaGreatDoorE15
import Derived.Test.YtafamcbdaeppoaaGreatDoorE16
import Derived.Test.YtafamcbdaeppoaaGreatDoorE12
set_option linter.unusedSimpArgs false
set_option linter.unusedVariables false
set_option maxHeartbeats 8000000
set_option maxRecDepth 100000
namespace Go.Proofs.YtafamcbdaeppoaaGreatDoor
def ventK (k pos:Nat):List UInt8:=
 if k=2∨k=3 then (if pos=1 then [50] else [52])
 else if k=4∨k=6∨k=7∨k=12∨k=13 then (if pos=1 then [] else [50])
 else if k=5 then (if pos=1 then [50] else [])
 else []
def toK (k pos:Nat):List UInt8:=match passK k pos with
 | p::_=>p.to
 | []=>[]
theorem Open_fn (k:Nat) (hk:k<14) (pos:Nat) (hp:pos<=1000):CallFn Tryz.prog 406 [aI k,aI pos] (.tuple [aT (toK k pos),aT (ventK k pos)]):=by
 refine callFz_of Tryz.func406 rfl Tryz.ntmps406 (rs:=[.tmp 4,.tmp 5]) rfl (by kernel_rfl) (by simp) (by kernel_rfl) ?_
 have:k=0∨k=1∨k=2∨k=3∨k=4∨k=5∨k=6∨k=7∨k=8∨k=9∨k=10∨k=11∨k=12∨k=13:=by omega
 by_cases e:pos=1
 ·subst e
  rcases this with rfl | rfl | rfl | rfl | rfl | rfl | rfl | rfl | rfl | rfl | rfl | rfl | rfl | rfl<;>simp[toK,ventK,passK]
 ·have e2:¬(pos:Int)=1:=by omega
  rcases this with rfl | rfl | rfl | rfl | rfl | rfl | rfl | rfl | rfl | rfl | rfl | rfl | rfl | rfl<;>simp[toK,ventK,passK,e,e2]
abbrev encPs (p:PassP):List L:=[.str p.to,.sl (p.src.map encT),.bool p.all]
theorem passK_one:∀k,k<14->∀pos,pos<2->(toK k pos=[]∧passK k pos=[])∨(toK k pos≠[]∧passK k pos=[⟨toK k pos,(rolesK k).getD 0 [],k==9⟩]):=by decide
theorem Passed_fn (k:Nat) (hk:k<14) (pos:Nat) (hp:pos<2):CallFn Tryz.prog 394 [aI k,aI pos] (.dat (.sl ((passK k pos).map encPs))):=by
 obtain⟨w,l,p0,p1,p2,p3,p4,h1,h3,⟨l0,l1,l2,l3,l4⟩,-⟩:=row_ex k hk
 have hr:=Rows_fn
 have hrl:=rowsL_len
 have h7:=rowsL_rl
 have hk':(k:Int)<14:=by omega
 have hop:=Open_fn k hk pos (by omega)
 have hone:=passK_one k hk pos hp
 generalize rowsL=R at *
 obtain⟨hil,hi1⟩:=List.getElem?_eq_some_iff.1 h1
 have n0:=names_fn p0 (by omega)
 rw[h3]at hone
 simp only[List.getD_cons_zero]at hone
 generalize namesT p0=r0 at *
 generalize toK k pos=t at *
 generalize ventK k pos=v at *
 refine callFz_of Tryz.func394 rfl Tryz.ntmps394 (rs:=[.tmp 4]) rfl (by kernel_rfl) (by simp) (by kernel_rfl) ?_
 simp
 refine hop.s ?_
 rcases hone with⟨e1,e2⟩|⟨e1,e2⟩
 ·simp[e1,e2]
 ·simp[e1]
  refine hr.s ?_
  simp[hk,hk',hrl,hi1,h1,rowL,h7]
  refine n0.s ?_
  simp[e2]
  rw[Bool.eq_iff_iff]
  simp only[beq_iff_eq]
  omega
theorem Piloted_fn (k:Nat) (hk:k<14):CallFn Tryz.prog 282 [aI k] (.tuple [aT (plusK k),aT (minusK k)]):=by
 refine callFz_of Tryz.func282 rfl Tryz.ntmps282 (rs:=[.tmp 2,.tmp 3]) rfl (by kernel_rfl) (by simp) (by kernel_rfl) ?_
 have:k=0∨k=1∨k=2∨k=3∨k=4∨k=5∨k=6∨k=7∨k=8∨k=9∨k=10∨k=11∨k=12∨k=13:=by omega
 rcases this with rfl | rfl | rfl | rfl | rfl | rfl | rfl | rfl | rfl | rfl | rfl | rfl | rfl | rfl<;>simp[plusK,minusK]
theorem IndexR_fn (c:Cir) (t:List UInt8) (hs:Sh c.parts):CallFn Tryz.prog 410 [aCi c,aT t] (aI (idxI (findN c.parts t))):=by
 obtain⟨ps,l⟩:=c
 simp only at hs
 unfold findN
 refine callFz_of Tryz.func410 rfl Tryz.ntmps410 (rs:=[.tmp 4]) rfl (by kernel_rfl) (by simp) (by kernel_rfl) ?_
 simp
 refine V.forI (σ:=Unit) ps.length [1,2] (by simp;exact rfl) (fun i _=>[(4,aI 0),(5,aI i)]) (fun _ _=>[]) (fun i _=>NoF (fun p:Prt=>p.name==t) (ps.take i)) () (by simp) (by simp) ⟨by simp;exact rfl,by simp⟩ ?_ ?_
 ·rintro i-hi hI
  obtain⟨x,hx⟩:∃x,ps[i]=x:=⟨_,rfl⟩
  have hxo:ps[i]?=some x:=by rw[List.getElem?_eq_getElem hi,hx]
  have hst:=findIdx_step (p:=fun p:Prt=>p.name==t) hI hxo
  simp[hi,hx,hxo]
  by_cases e:x.name=t
  ·rw[hst.2 (by simp[e])]
   simp[e,idxI]
  ·simp[e]
   exact⟨by omega,hst.1 (by simp[e])⟩
 ·rintro-hI
  rw[findIdx_none hI]
  simp[idxI]
def cylN (ps:List Prt) (t:List UInt8):Bool:=match findN ps t with
 | some j=>(ps[j]?).any fun q=>q.kind==1
 | none=>false
theorem findN_lt {ps:List Prt}{t:List UInt8}{j:Nat}(h:findN ps t=some j):∃q,ps[j]?=some q∧q.name=t:=by
 unfold findN at h
 obtain⟨hj,h1,_⟩:=List.findIdx?_eq_some_iff_getElem.1 h
 exact⟨ps[j],List.getElem?_eq_getElem hj,by simpa using h1⟩
theorem cylinderR_fn (c:Cir) (t:List UInt8) (hs:Sh c.parts):CallFn Tryz.prog 405 [aCi c,aT t] (aB (cylN c.parts t)):=by
 have hf:=IndexR_fn c t hs
 have hlt:=@findN_lt c.parts t
 obtain⟨ps,l⟩:=c
 simp only at hs hf hlt
 unfold cylN
 refine callFz_of Tryz.func405 rfl Tryz.ntmps405 (rs:=[.tmp 4]) rfl (by kernel_rfl) (by simp) (by kernel_rfl) ?_
 simp
 refine hf.s ?_
 cases h:findN ps t with
 | none=>cases h0:ps[0]?<;>simp[idxI,h0]
 | some j=>
  obtain⟨q,hq,_⟩:=hlt h
  obtain⟨hj,hq1⟩:=List.getElem?_eq_some_iff.1 hq
  simp[idxI,hq,hq1,hj]
theorem belongsR_fn (c:Cir) (t:List UInt8) (hs:Sh c.parts) (ht:t.length<=1000) (hne:∀p∈c.parts,p.name≠[]):CallFn Tryz.prog 386 [aCi c,aT t] (aB (ownN c.parts t)):=by
 have hcy:=fun u=>cylinderR_fn c u hs
 have hnil:findN c.parts []=none:=by
  unfold findN
  rw[List.findIdx?_eq_none_iff]
  intro p hp
  simpa using hne p hp
 have ho:ownN c.parts t=((t.getLast? == some 48||t.getLast? == some 49)&&cylN c.parts t.dropLast):=rfl
 rw[ho]
 obtain⟨ps,l⟩:=c
 simp only at hs hcy hnil
 refine callFz_of Tryz.func386 rfl Tryz.ntmps386 (rs:=[.tmp 4]) rfl (by kernel_rfl) (by simp) (by kernel_rfl) ?_
 rcases List.eq_nil_or_concat t with rfl | ⟨q,x,rfl⟩
 ·simp
  refine V.drawX (fun t=>if t=30 then some (.fn (aB false)) else none) (by kernel_rfl) (by kernel_rfl) (by simp) ?_
  simp
 ·rw[List.concat_eq_append]at *
  have hcq:=hcy q
  have e1:(q++[x])[q.length]?=some x:=by simp
  have e2:List.take q.length (q++[x])=q:=by simp
  rw[show (q++[x]).dropLast=q by simp,show (q++[x]).getLast? = some x by simp]
  simp at ht
  by_cases hq:q=[]
  ·subst hq
   have:cylN ps []=false:=by unfold cylN;rw[hnil]
   rw[this]
   simp
   refine V.drawX (fun t=>if t=30 then some (.fn (aB false)) else none) (by kernel_rfl) (by kernel_rfl) (by simp) ?_
   simp
  ·have hql:0<q.length:=List.length_pos_iff.2 hq
   simp
   refine V.drawX (fun t=>if t=30 then some (.fn (aB (cylN ps q))) else none) (by kernel_rfl) (by kernel_rfl) (by simp) ?_
   have h1l:(1:Int)<(q.length:Int)+1:=by omega
   have hb:∀n:UInt8,((x.toNat:Int)==(n.toNat:Int))=(x==n):=fun n=>by
    rw[Bool.eq_iff_iff]
    simp only[beq_iff_eq]
    exact⟨fun h=>UInt8.toNat.inj (by omega),fun h=>by rw[h]⟩
   have b1:=hb 48
   have b2:=hb 49
   simp only[show ((48:UInt8).toNat:Int)=48 from rfl,show ((49:UInt8).toNat:Int)=49 from rfl]at b1 b2
   simp[e1,e2,hql,h1l,b1,b2]
   exact⟨by omega,by omega,fun h=>⟨h,by omega⟩,fun h=>⟨h,by omega⟩,fun h=>⟨h,by omega⟩,fun h=>⟨h,hcq⟩⟩
theorem BeforeR_fn (a b:PortZ):CallFn Tryz.prog 388 [.record (encPo a),.record (encPo b)] (aB (beforeZ a b)):=by
 obtain⟨a1,a2⟩:=a
 obtain⟨b1,b2⟩:=b
 refine callFz_of Tryz.func388 rfl Tryz.ntmps388 (rs:=[.tmp 4]) rfl (by kernel_rfl) (by simp) (by kernel_rfl) ?_
 unfold beforeZ lexB
 by_cases e:a1=b1
 ·subst e
  simp
 ·simp[e]
theorem EarlierR_fn (a b:PipeZ):CallFn Tryz.prog 347 [.record (encPi a),.record (encPi b)] (aB (earlierZ a b)):=by
 obtain⟨⟨a1,a2⟩,a3,a4⟩:=a
 obtain⟨⟨b1,b2⟩,b3,b4⟩:=b
 have h1:=BeforeR_fn (a1,a2) (b1,b2)
 have h2:=BeforeR_fn (a3,a4) (b3,b4)
 refine callFz_of Tryz.func347 rfl Tryz.ntmps347 (rs:=[.tmp 4]) rfl (by kernel_rfl) (by simp) (by kernel_rfl) ?_
 unfold earlierZ
 rw[lexB]
 by_cases e1:a1=b1
 ·by_cases e2:a2=b2
  ·subst e1 e2
   simp
   refine h2.s ?_
   simp
  ·subst e1
   simp[e2]
   refine h1.s ?_
   simp[e2]
 ·simp[e1]
  refine h1.s ?_
  simp[e1]
theorem roleK_lt (k:Nat) (t:List UInt8):(idxI (roleK k t)<0)↔hasK k t=false:=by
 unfold roleK hasK
 rw[<- List.findIdx?_isSome]
 cases (rolesK k).findIdx? fun l=>l.any (t==·) with
 | none=>simp[idxI]
 | some j=>simp[idxI]
def KindsOK (ps:List Prt):Prop:=∀p∈ps,0<=p.kind∧p.kind<14
theorem portR_fn (c:Cir) (q:PortZ) (hk:KindsOK c.parts) (hs:c.parts.length<=1000000):CallFn Tryz.prog 387 [aCi c,.record (encPo q)] (.tuple [aI (if inPort c.parts q=true then 0 else 2),aI (if inPort c.parts q=true∧hasPort c.parts q=false then 6 else 0)]):=by
 obtain⟨q1,q2⟩:=q
 obtain⟨ps,l⟩:=c
 unfold inPort hasPort
 simp only at hk hs
 refine callFz_of Tryz.func387 rfl Tryz.ntmps387 (rs:=[.tmp 4,.tmp 5]) rfl (by kernel_rfl) (by simp) (by kernel_rfl) ?_
 by_cases h1:q1<0
 ·have:¬ 0<=q1:=by omega
  simp[h1,this]
 ·by_cases h2:(ps.length:Int)<=q1
  ·have:¬q1<ps.length:=by omega
   simp[h1,h2,this]
  ·obtain⟨n,rfl⟩:∃n:Nat,q1=n:=⟨q1.toNat,by omega⟩
   have hn:n<ps.length:=by omega
   obtain⟨p,hp⟩:∃p,ps[n]=p:=⟨_,rfl⟩
   have hpo:ps[n]?=some p:=by rw[List.getElem?_eq_getElem hn,hp]
   have hkp:=hk p (List.mem_of_getElem? hpo)
   obtain⟨pk,pn,pd⟩:=p
   simp only at hkp
   obtain⟨k,rfl⟩:∃k:Nat,pk=k:=⟨pk.toNat,by omega⟩
   have hpl:=Plays_fn k (by omega) q2
   have hlt:=roleK_lt k q2
   have h3:¬((ps.length:Int)<=n):=h2
   have h4:¬((n:Int)<0):=h1
   have h5:(n:Int)<ps.length:=by omega
   generalize idxI (roleK k q2)=r at *
   simp[h3,h4,h5,hpo,hp,hn]
   refine V.drawX (fun t=>if t=26 then some (.fn (aI r)) else none) (by kernel_rfl) (by kernel_rfl) (by simp) ?_
   simp[hpo,hp,hn]
   exact⟨hpl,hlt.1,fun h=>by
    cases hh:hasK k q2 with
    | true=>rfl
    | false=>have:=hlt.2 hh;omega⟩
def pipe1 (ps:List Prt) (x:PipeZ):Int:=
 if inPort ps x.1=false∨inPort ps x.2=false then 2
 else if hasPort ps x.1=false∨hasPort ps x.2=false then 6
 else if beforeZ x.1 x.2=false then 9 else 0
theorem pipeR_fn (c:Cir) (x:PipeZ) (hk:KindsOK c.parts) (hs:c.parts.length<=1000000):CallFn Tryz.prog 346 [aCi c,.record (encPi x)] (aI (pipe1 c.parts x)):=by
 obtain⟨⟨a1,a2⟩,b1,b2⟩:=x
 have h1:=portR_fn c (a1,a2) hk hs
 have h2:=portR_fn c (b1,b2) hk hs
 have h3:=BeforeR_fn (a1,a2) (b1,b2)
 unfold pipe1
 obtain⟨ps,l⟩:=c
 simp only at h1 h2 h3 ⊢
 generalize inPort ps (a1,a2)=i1 at *
 generalize inPort ps (b1,b2)=i2 at *
 generalize hasPort ps (a1,a2)=p1 at *
 generalize hasPort ps (b1,b2)=p2 at *
 generalize beforeZ (a1,a2) (b1,b2)=bf at *
 refine callFz_of Tryz.func346 rfl Tryz.ntmps346 (rs:=[.tmp 4]) rfl (by kernel_rfl) (by simp) (by kernel_rfl) ?_
 cases i1
 ·simp at h1 ⊢
  refine h1.s ?_
  simp
  refine h2.s ?_
  simp
 ·cases i2
  ·simp at h1 h2 ⊢
   refine h1.s ?_
   simp
   refine h2.s ?_
   simp
  ·simp at h1 h2 ⊢
   refine h1.s ?_
   simp
   refine h2.s ?_
   cases p1
   ·simp
   ·cases p2
    ·simp
    ·simp
     refine h3.s ?_
     cases bf<;>simp
def partsZ (ps:List Prt):Int:=
 if 64<ps.length then 5
 else if firstE (stepE ps) ps.length≠0 then firstE (stepE ps) ps.length
 else firstE (limE ps) ps.length
theorem cirE_eq (c:Cir):cirE c=if partsZ c.parts≠0 then partsZ c.parts else if 256<c.pipes.length then 5 else firstE (pipeE c) c.pipes.length:=by
 unfold cirE partsZ
 by_cases h1:64<c.parts.length
 ·simp[h1]
 ·by_cases h2:firstE (stepE c.parts) c.parts.length=0
  ·simp[h1,h2]
  ·simp[h1,h2]
theorem stepE_eq {ps:List Prt}{i:Nat}{p:Prt}(h:ps[i]?=some p) (h0:partE p=0):(i=0->stepE ps i=0)∧(∀j q,i=j+1->ps[j]?=some q->stepE ps i=if ltB q.name p.name=true then 0 else 9):=by
 constructor
 ·rintro rfl
  simp[stepE,h,h0]
 ·rintro j q rfl hq
  simp[stepE,h,h0,hq]
theorem stepE_err {ps:List Prt}{i:Nat}{p:Prt}(h:ps[i]?=some p) (h0:partE p≠0):stepE ps i=partE p:=by
 simp[stepE,h,h0]
theorem step_part {ps:List Prt}{n:Nat}(h:firstE (stepE ps) n=0):∀i p,i<n->ps[i]?=some p->partE p=0:=by
 intro i p hi hp
 have:=firstE_zero n h i hi
 by_cases h0:partE p=0
 ·exact h0
 ·rw[stepE_err hp h0]at this
  exact absurd this h0
theorem partE_kind {p:Prt}(h:partE p=0):0<=p.kind∧p.kind<14:=by
 unfold partE at h
 split at h
 ·cases h
 ·rename_i h1
  exact Classical.not_not.1 h1
theorem partE_name {p:Prt}(h:partE p=0):p.name≠[]∧p.name.length<=24:=by
 unfold partE at h
 split at h
 ·cases h
 ·split at h
  ·rename_i h1;exact absurd h h1
  ·rename_i h1
   have h2:=Classical.not_not.1 h1
   unfold wordE at h2
   split at h2
   ·cases h2
   ·rename_i h3
    split at h2
    ·cases h2
    ·split at h2
     ·cases h2
     ·refine⟨?_,by omega⟩
      intro e
      rw[e]at h3
      simp at h3
theorem partsR_fn (c:Cir) (hs:c.parts.length<=64->∀p∈c.parts,p.name.length<=1000) (hl:Sh c.parts):CallFn Tryz.prog 345 [aCi c] (aI (partsZ c.parts)):=by
 have hbel:=fun t h1 h2=>belongsR_fn c t hl h1 h2
 obtain⟨ps,l⟩:=c
 simp only at hs hl hbel ⊢
 unfold partsZ
 refine callFz_of Tryz.func345 rfl Tryz.ntmps345 (rs:=[.tmp 2]) rfl (by kernel_rfl) (by simp) (by kernel_rfl) ?_
 simp
 refine⟨fun h1 h2=>absurd h1 (by omega),fun h64=>?_⟩
 have hs:=hs (by omega)
 have h64':¬ 64<ps.length:=by omega
 rw[if_neg h64']
 refine V.forI (σ:=Unit) ps.length [1] (by simp;exact rfl) (fun i _=>[(2,aI 0),(3,aI i)]) (fun _ _=>[]) (fun i _=>firstE (stepE ps) i=0) () rfl (by simp) ⟨by simp;exact rfl,by simp⟩ ?_ ?_
 ·rintro i-hi hI
  obtain⟨p,hp⟩:∃p,ps[i]=p:=⟨_,rfl⟩
  have hpo:ps[i]?=some p:=by rw[List.getElem?_eq_getElem hi,hp]
  have hc:=CheckP_fn p (by have:=hs p (List.mem_of_getElem? hpo);omega)
  have h1:=firstE_step hI
  have h2:=firstE_hit hI hi
  by_cases h0:partE p=0
  ·rw[h0]at hc
   obtain⟨e0,es⟩:=stepE_eq hpo h0
   cases i with
   | zero=>
    simp[hi,hp,hpo]
    refine hc.s ?_
    simp
    refine V.drawX (fun _=>none) (by kernel_rfl) (by kernel_rfl) (by simp) ?_
    simp[hpo,hp,hi]
    rw[show (0+1:Nat)=1 from rfl]at h1
    rw[h1,e0 rfl]
   | succ j=>
    have hj:j<ps.length:=by omega
    obtain⟨q,hq⟩:∃q,ps[j]=q:=⟨_,rfl⟩
    have hqo:ps[j]?=some q:=by rw[List.getElem?_eq_getElem hj,hq]
    have e1:=es j q rfl hqo
    have hi':(j:Int)+1<ps.length:=by omega
    have h01:(0:Int)<=j+1:=by omega
    simp[hi,hi',h01,hp,hpo]
    refine hc.s ?_
    simp
    refine V.drawX (fun _=>none) (by kernel_rfl) (by kernel_rfl) (by simp) ?_
    simp[hpo,hp,hi,hi',h01,hqo,hq,hj]
    rw[h1,e1]
    rw[e1]at h2
    cases hlt:ltB q.name p.name
    ·rw[hlt]at h2
     have h9:=h2 (by simp)
     simp only[Bool.false_eq_true,if_false]at h9
     rw[h9]
     refine⟨by omega,fun _=>by simp,fun a b=>?_⟩
     exact absurd (ltB_total hlt a) (fun e=>b e.symm)
    ·have h3:Go.Op.bytesLess p.name q.name=false:=ltB_asymm hlt
     have h4:¬p.name=q.name:=fun e=>by rw[e,ltB_irrefl]at hlt;cases hlt
     refine⟨by omega,fun h=>?_,fun _ _=>⟨by omega,by simp⟩⟩
     rcases h with h | h
     ·rw[h3]at h;cases h
     ·exact absurd h h4
  ·simp[hi,hp,hpo]
   refine hc.s ?_
   have e1:=stepE_err hpo h0
   rw[e1]at h2
   simp[h0,h2 h0]
 ·rintro-hI
  rw[hI]
  have hpart:=step_part hI
  have hne:∀p∈ps,p.name≠[]:=fun p hp=>by
   obtain⟨i,hi,e⟩:=List.getElem_of_mem hp
   exact (partE_name (hpart i p hi (by rw[List.getElem?_eq_getElem hi,e]))).1
  simp
  refine V.forI (σ:=Unit) ps.length [1] (by simp;exact rfl) (fun i _=>[(2,aI 0),(5,aI i)]) (fun _ _=>[]) (fun i _=>firstE (limE ps) i=0) () rfl (by simp) ⟨by simp;exact rfl,by simp⟩ ?_ ?_
  ·rintro i-hi hI2
   obtain⟨p,hp⟩:∃p,ps[i]=p:=⟨_,rfl⟩
   have hpo:ps[i]?=some p:=by rw[List.getElem?_eq_getElem hi,hp]
   have hpm:=List.mem_of_getElem? hpo
   have hc:=hbel p.name (hs p hpm) hne
   have h1:=firstE_step hI2
   have h2:=firstE_hit hI2 hi
   have e1:limE ps i=if p.kind=6∧ownN ps p.name=false then 6 else 0:=by simp[limE,hpo]
   simp[hi,hp,hpo]
   refine V.drawX (fun t=>if t=66 then some (.fn (aB (ownN ps p.name))) else none) (by kernel_rfl) (by kernel_rfl) (by simp) ?_
   simp[hpo,hp,hi]
   rw[h1,e1]
   rw[e1]at h2
   exact⟨fun h=>⟨h,hc⟩,fun h6 ho=>by rw[h2 (by simp[h6,ho])];simp[h6,ho],fun h=>⟨by omega,if_neg (fun ⟨a,b⟩=>by rw[h a]at b;cases b)⟩⟩
  ·rintro-hI2
   rw[hI2]
   simp
theorem pipeE_eq {c:Cir}{i:Nat}{x:PipeZ}(h:c.pipes[i]?=some x) (h0:pipe1 c.parts x=0):(i=0->pipeE c i=0)∧(∀j y,i=j+1->c.pipes[j]?=some y->pipeE c i=if earlierZ y x=true then 0 else 9):=by
 unfold pipe1 at h0
 by_cases h1:inPort c.parts x.1=false∨inPort c.parts x.2=false
 ·rw[if_pos h1]at h0;cases h0
 rw[if_neg h1]at h0
 by_cases h2:hasPort c.parts x.1=false∨hasPort c.parts x.2=false
 ·rw[if_pos h2]at h0;cases h0
 rw[if_neg h2]at h0
 by_cases h3:beforeZ x.1 x.2=false
 ·rw[if_pos h3]at h0;cases h0
 constructor
 ·rintro rfl
  simp[pipeE,h,h1,h2,h3]
 ·rintro j y rfl hy
  simp[pipeE,h,h1,h2,h3,hy]
theorem pipeE_err {c:Cir}{i:Nat}{x:PipeZ}(h:c.pipes[i]?=some x) (h0:pipe1 c.parts x≠0):pipeE c i=pipe1 c.parts x:=by
 unfold pipe1 at h0 ⊢
 unfold pipeE
 rw[h]
 simp only
 by_cases h1:inPort c.parts x.1=false∨inPort c.parts x.2=false
 ·rw[if_pos h1,if_pos h1]
 rw[if_neg h1]at h0
 rw[if_neg h1,if_neg h1]
 by_cases h2:hasPort c.parts x.1=false∨hasPort c.parts x.2=false
 ·rw[if_pos h2,if_pos h2]
 rw[if_neg h2]at h0
 rw[if_neg h2,if_neg h2]
 by_cases h3:beforeZ x.1 x.2=false
 ·rw[if_pos h3,if_pos h3]
 ·rw[if_neg h3]at h0
  exact absurd rfl h0
theorem CirCheckR_fn (c:Cir) (hs:c.parts.length<=64->∀p∈c.parts,p.name.length<=1000) (hl:Sh c.parts) (hl2:Sh c.pipes):CallFn Tryz.prog 273 [aCi c] (aI (cirE c)):=by
 have hp:=partsR_fn c hs hl
 rw[cirE_eq]
 have hpi:partsZ c.parts=0->KindsOK c.parts∧c.parts.length<=64:=by
  intro h
  unfold partsZ at h
  by_cases h1:64<c.parts.length
  ·rw[if_pos h1]at h;cases h
  ·rw[if_neg h1]at h
   by_cases h2:firstE (stepE c.parts) c.parts.length=0
   ·refine⟨fun p hp=>?_,by omega⟩
    obtain⟨i,hi,e⟩:=List.getElem_of_mem hp
    exact partE_kind (step_part h2 i p hi (by rw[List.getElem?_eq_getElem hi,e]))
   ·rw[if_pos h2]at h
    exact absurd h h2
 have hpp:=fun x hk hn=>pipeR_fn c x hk hn
 obtain⟨ps,l⟩:=c
 simp only at hp hpi hpp hl2 ⊢
 refine callFz_of Tryz.func273 rfl Tryz.ntmps273 (rs:=[.tmp 2]) rfl (by kernel_rfl) (by simp) (by kernel_rfl) ?_
 simp
 refine hp.s ?_
 by_cases h0:partsZ ps=0
 ·obtain⟨hk,h64⟩:=hpi h0
  simp[h0]
  refine⟨fun h1 h2=>absurd h1 (by omega),fun h256=>?_⟩
  have h256':¬ 256<l.length:=by omega
  rw[if_neg h256']
  refine V.forI (σ:=Unit) l.length [1] (by simp;exact rfl) (fun i _=>[(2,aI 0),(4,aI i)]) (fun _ _=>[]) (fun i _=>firstE (pipeE ⟨ps,l⟩) i=0) () rfl (by simp) ⟨by simp;exact rfl,by simp⟩ ?_ ?_
  ·rintro i-hi hI
   obtain⟨x,hx⟩:∃x,l[i]=x:=⟨_,rfl⟩
   have hxo:l[i]?=some x:=by rw[List.getElem?_eq_getElem hi,hx]
   have hc:=hpp x hk (by omega)
   have h1:=firstE_step hI
   have h2:=firstE_hit hI hi
   by_cases hp1:pipe1 ps x=0
   ·rw[hp1]at hc
    obtain⟨e0,es⟩:=pipeE_eq (c:=⟨ps,l⟩) hxo hp1
    cases i with
    | zero=>
     rw[h1,e0 rfl]
     simp[hi,hx,hxo]
     refine V.drawX (fun t=>if t=28 then some (.fn (aI 0)) else none) (by kernel_rfl) (by kernel_rfl) (by simp) ?_
     simp[hi,hx,hxo]
     refine⟨hc,?_⟩
     refine V.drawX (fun t=>if t=46 then some (.fn (aB true)) else none) (by kernel_rfl) (by kernel_rfl) (by simp) ?_
     simp[hi,hx,hxo]
    | succ j=>
     have hj:j<l.length:=by omega
     obtain⟨y,hy⟩:∃y,l[j]=y:=⟨_,rfl⟩
     have hyo:l[j]?=some y:=by rw[List.getElem?_eq_getElem hj,hy]
     have e1:=es j y rfl hyo
     have hi':(j:Int)+1<l.length:=by omega
     have h01:(0:Int)<=j+1:=by omega
     have hear:=EarlierR_fn y x
     rw[h1,e1]
     rw[e1]at h2
     generalize earlierZ y x=ea at *
     simp[hi,hi',h01,hx,hxo]
     refine V.drawX (fun t=>if t=28 then some (.fn (aI 0)) else none) (by kernel_rfl) (by kernel_rfl) (by simp) ?_
     simp[hi,hi',h01,hx,hxo]
     refine⟨hc,?_⟩
     refine V.drawX (fun t=>if t=46 then some (.fn (aB ea)) else none) (by kernel_rfl) (by kernel_rfl) (by simp) ?_
     simp[hi,hi',h01,hx,hxo,hj,hy,hyo]
     refine⟨by omega,hear,fun h=>?_,fun h=>⟨by omega,h⟩⟩
     subst h
     rw[h2 (by simp),h0]
     simp
   ·have e1:=pipeE_err (c:=⟨ps,l⟩) hxo hp1
    rw[e1]at h2
    simp[hi,hx,hxo]
    refine V.drawX (fun t=>if t=28 then some (.fn (aI (pipe1 ps x))) else none) (by kernel_rfl) (by kernel_rfl) (by simp) ?_
    simp[hi,hx,hxo]
    refine⟨hc,?_⟩
    simp[hp1,h2 hp1,h0]
  ·rintro-hI
   rw[hI]
   simp[h0]
 ·simp[h0]
def fewB (c:Cir):Bool:=
 ((c.parts.take 12).all fun p=>decide (p.name.length<=60))&&((c.pipes.take 24).all fun x=>decide (x.1.2.length<=60)&&decide (x.2.2.length<=60)) &&
 (decide (c.parts.length<=12)||decide (64<c.parts.length)&&decide (c.parts.length<128))&&(decide (c.pipes.length<=24)||decide (256<c.pipes.length)&&decide (c.pipes.length<512))
theorem all_take {α:Type}{l:List α}{p:α->Bool}{i n:Nat}{x:α}(h:l[i]?=some x) (hi:i<n) (hx:p x=false):(l.take n).all p=false:=by
 rw[List.all_eq_false]
 refine⟨x,List.mem_of_getElem? (i:=i) ?_,by simp[hx]⟩
 rw[List.getElem?_take,if_pos hi,h]
theorem all_min {α:Type}{l:List α}{p:α->Bool}{n:Nat}(h:(l.take (min l.length n)).all p=true):(l.take n).all p=true:=by
 have:l.take n=l.take (min l.length n):=by
  by_cases h:l.length<=n
  ·rw[Nat.min_eq_left h,List.take_of_length_le h,List.take_length]
  ·rw[Nat.min_eq_right (by omega)]
 rw[this]
 exact h
theorem all_snoc {α:Type}{l:List α}{p:α->Bool}{i:Nat}{x:α}(h:l[i]?=some x) (h1:(l.take i).all p=true) (hx:p x=true):(l.take (i+1)).all p=true:=by
 rw[List.take_add_one,h,List.all_append,h1]
 simp[hx]
theorem CirFew_fn (c:Cir) (hl:Sh c.parts) (hl2:Sh c.pipes):CallFn Tryz.prog 69 [aCi c] (aB (fewB c)):=by
 obtain⟨ps,l⟩:=c
 unfold fewB
 simp only at hl hl2 ⊢
 have A1:=fun i x=>all_take (l:=ps) (p:=fun p=>decide (p.name.length<=60)) (i:=i) (n:=12) (x:=x)
 have A2:=fun i x=>all_take (l:=l) (p:=fun x=>decide (x.1.2.length<=60)&&decide (x.2.2.length<=60)) (i:=i) (n:=24) (x:=x)
 have B1:=all_min (l:=ps) (p:=fun p=>decide (p.name.length<=60)) (n:=12)
 have B2:=all_min (l:=l) (p:=fun x=>decide (x.1.2.length<=60)&&decide (x.2.2.length<=60)) (n:=24)
 generalize ((ps.take 12).all fun p=>decide (p.name.length<=60))=a1 at *
 generalize ((l.take 24).all fun x=>decide (x.1.2.length<=60)&&decide (x.2.2.length<=60))=a2 at *
 refine callFz_of Tryz.func69 rfl Tryz.ntmps69 (rs:=[.tmp 2]) rfl (by kernel_rfl) (by simp) (by kernel_rfl) ?_
 simp
 refine V.forI (σ:=Unit) (min ps.length 12) [1] (by simp;exact rfl) (fun i _=>[(2,aB false),(3,aI i)]) (fun _ _=>[]) (fun i _=>((ps.take i).all fun p=>decide (p.name.length<=60))=true) () (by simp) (by simp) ⟨by simp;exact rfl,by simp⟩ ?_ ?_
 ·rintro i-hi hI
  have hi1:i<ps.length:=by omega
  have hi2:(i:Int)<12:=by omega
  obtain⟨p,hp⟩:∃p,ps[i]=p:=⟨_,rfl⟩
  have hpo:ps[i]?=some p:=by rw[List.getElem?_eq_getElem hi1,hp]
  by_cases h60:p.name.length<=60
  ·have h2:¬(60:Int)<p.name.length:=by omega
   have h3:=all_snoc hpo hI (by simp[h60])
   generalize ((ps.take (i+1)).all fun p=>decide (p.name.length<=60))=z at *
   simp[hi1,hi2,hp,hpo,h2,h3]
   omega
  ·have h2:(60:Int)<p.name.length:=by omega
   have:=A1 i p hpo (by omega) (by simp;omega)
   generalize ((ps.take (i+1)).all fun p=>decide (p.name.length<=60))=z at *
   simp[hi1,hi2,hp,hpo,h2,this]
 ·rintro-hI
  have ha1:=B1 hI
  subst ha1
  have hcase:min ps.length 12=ps.length∨(min ps.length 12=12∧(12:Int)<ps.length∧12<ps.length):=by omega
  rcases hcase with e | ⟨e,e2,e3⟩
  all_goals
   rw[e]
   first | simp[e2,e3] | simp
   refine V.forI (σ:=Unit) (min l.length 24) [1] (by simp;exact rfl) (fun i _=>[(2,aB false),(4,aI i)]) (fun _ _=>[]) (fun i _=>((l.take i).all fun x=>decide (x.1.2.length<=60)&&decide (x.2.2.length<=60))=true) () (by simp) (by simp) ⟨by simp;exact rfl,by simp⟩ ?_ ?_
   ·rintro i-hi hI
    have hi1:i<l.length:=by omega
    have hi2:(i:Int)<24:=by omega
    obtain⟨x,hx⟩:∃x,l[i]=x:=⟨_,rfl⟩
    have hxo:l[i]?=some x:=by rw[List.getElem?_eq_getElem hi1,hx]
    by_cases h60:x.1.2.length<=60
    ·have g1:¬(60:Int)<x.1.2.length:=by omega
     by_cases h61:x.2.2.length<=60
     ·have g2:¬(60:Int)<x.2.2.length:=by omega
      have h3:=all_snoc hxo hI (by simp[h60,h61])
      generalize ((l.take (i+1)).all fun x=>decide (x.1.2.length<=60)&&decide (x.2.2.length<=60))=z at *
      simp[hi1,hi2,hx,hxo,g1,g2,h3]
      omega
     ·have g2:(60:Int)<x.2.2.length:=by omega
      have:=A2 i x hxo (by omega) (by simp;omega)
      generalize ((l.take (i+1)).all fun x=>decide (x.1.2.length<=60)&&decide (x.2.2.length<=60))=z at *
      simp[hi1,hi2,hx,hxo,g1,g2,this]
    ·have g1:(60:Int)<x.1.2.length:=by omega
     have:=A2 i x hxo (by omega) (by simp;omega)
     generalize ((l.take (i+1)).all fun x=>decide (x.1.2.length<=60)&&decide (x.2.2.length<=60))=z at *
     simp[hi1,hi2,hx,hxo,g1,this]
   ·rintro-hI2
    have ha2:=B2 hI2
    subst ha2
    have hcase2:min l.length 24=l.length∨(min l.length 24=24∧(24:Int)<l.length∧24<l.length):=by omega
    rcases hcase2 with f | ⟨f,f2,f3⟩
    all_goals
     rw[f]
     first | simp[e2,e3,f2,f3] | simp[e2,e3] | simp[f2,f3] | simp
     repeat' apply And.intro
     all_goals
      first
      | omega
      | (rw[Bool.eq_iff_iff]
         simp only[Bool.and_eq_true,Bool.or_eq_true,decide_eq_true_eq]
         omega)
def arS (xs:List PortZ) (x:PipeZ):List PortZ:=
 if x.2∈(if x.1∈xs∧x.2∉xs then xs++[x.2] else xs)∧x.1∉(if x.1∈xs∧x.2∉xs then xs++[x.2] else xs) then (if x.1∈xs∧x.2∉xs then xs++[x.2] else xs)++[x.1] else (if x.1∈xs∧x.2∉xs then xs++[x.2] else xs)
def arP (l:List PipeZ) (xs:List PortZ):List PortZ:=l.foldl arS xs
theorem arS_eq (xs:List PortZ) (x:PipeZ):arS xs x=if x.1∈xs∧x.2∉xs then xs++[x.2] else if x.2∈xs∧x.1∉xs then xs++[x.1] else xs:=by
 unfold arS
 by_cases h1:x.1∈xs
 ·by_cases h2:x.2∈xs
  ·simp[h1,h2]
  ·simp[h1,h2]
 ·by_cases h2:x.2∈xs
  ·simp[h1,h2]
  ·simp[h1,h2]
theorem arS_sub (xs:List PortZ) (x:PipeZ):∀q∈xs,q∈arS xs x:=by
 intro q hq
 rw[arS_eq]
 (repeat' split)<;>simp[hq]
theorem arS_len (xs:List PortZ) (x:PipeZ):(arS xs x=xs∧(x.1∈xs↔x.2∈xs))∨((arS xs x).length=xs.length+1∧∃y,(y=x.1∨y=x.2)∧y∉xs∧y∈arS xs x):=by
 rw[arS_eq]
 by_cases h1:x.1∈xs
 ·by_cases h2:x.2∈xs
  ·simp[h1,h2]
  ·refine .inr ?_
   rw[if_pos ⟨h1,h2⟩]
   exact⟨by simp,x.2,.inr rfl,h2,by simp⟩
 ·by_cases h2:x.2∈xs
  ·refine .inr ?_
   rw[if_neg (fun h=>h1 h.1),if_pos ⟨h2,h1⟩]
   exact⟨by simp,x.1,.inl rfl,h1,by simp⟩
  ·simp[h1,h2]
theorem arP_sub:∀(l:List PipeZ) (xs:List PortZ),∀q∈xs,q∈arP l xs
 | [],_,_,h=>h
 | x::l,xs,q,h=>arP_sub l _ q (arS_sub xs x q h)
theorem arP_len:∀(l:List PipeZ) (xs:List PortZ),(arP l xs=xs∧∀x∈l,x.1∈xs↔x.2∈xs)∨(xs.length<(arP l xs).length∧∃y,(∃x∈l,y=x.1∨y=x.2)∧y∉xs∧y∈arP l xs)
 | [],xs=>.inl ⟨rfl,by simp⟩
 | x::l,xs=>by
  show (arP l (arS xs x)=xs∧_)∨(xs.length<(arP l (arS xs x)).length∧∃y,(∃z∈x::l,y=z.1∨y=z.2)∧y∉xs∧y∈arP l (arS xs x))
  rcases arS_len xs x with⟨h1,h2⟩|⟨h1,y,h0,h2,h3⟩
  ·rw[h1]
   rcases arP_len l xs with⟨h3,h4⟩|h3
   ·refine .inl ⟨h3,fun z hz=>?_⟩
    rcases List.mem_cons.1 hz with rfl | hz
    ·exact h2
    ·exact h4 z hz
   ·obtain⟨k1,y,⟨z,k2,k3⟩,k4⟩:=h3
    exact .inr ⟨k1,y,⟨z,by simp[k2],k3⟩,k4⟩
  ·refine .inr ?_
   rcases arP_len l (arS xs x) with⟨h4,_⟩|⟨h4,_⟩
   ·rw[h4]
    exact⟨by omega,y,⟨x,by simp,h0⟩,h2,h3⟩
   ·exact⟨by omega,y,⟨x,by simp,h0⟩,h2,arP_sub l _ y h3⟩
theorem arP_snoc {l:List PipeZ}{i:Nat}{x:PipeZ}(h:l[i]?=some x) (xs:List PortZ):arP (l.take (i+1)) xs=arS (arP (l.take i) xs) x:=by
 unfold arP
 exact foldl_take h
theorem arS_of {xs:List PortZ}{x:PipeZ}{C:PortZ->Prop}(h:∀q∈xs,C q) (hx:C x.1↔C x.2):∀q∈arS xs x,C q:=by
 intro q hq
 rw[arS_eq]at hq
 split at hq
 ·rename_i h1
  rcases List.mem_append.1 hq with hq | hq
  ·exact h q hq
  ·simp only[List.mem_singleton]at hq
   subst hq
   exact hx.1 (h _ h1.1)
 ·split at hq
  ·rename_i h1
   rcases List.mem_append.1 hq with hq | hq
   ·exact h q hq
   ·simp only[List.mem_singleton]at hq
    subst hq
    exact hx.2 (h _ h1.1)
  ·exact h q hq
theorem arP_of {C:PortZ->Prop}:∀ {l:List PipeZ}{xs:List PortZ},(∀q∈xs,C q)->(∀x∈l,C x.1↔C x.2)->∀q∈arP l xs,C q
 | [],_,h,_=>h
 | x::l,xs,h,hx=>arP_of (l:=l) (arS_of h (hx x (by simp))) (fun y hy=>hx y (by simp[hy]))
def outC (all xs:List PortZ):Nat:=(all.filter fun q=>!(xs.any (q==·))).length
theorem any_mem (xs:List PortZ) (q:PortZ):xs.any (q==·)=true↔q∈xs:=by
 rw[List.any_eq_true]
 constructor
 ·rintro⟨y,hy,e⟩
  rw[beq_iff_eq.1 e]
  exact hy
 ·intro h
  exact⟨q,h,by simp⟩
theorem outC_lt {all xs ys:List PortZ}(h:∀q∈xs,q∈ys) {y:PortZ}(h1:y∈all) (h2:y∉xs) (h3:y∈ys):outC all ys<outC all xs:=by
 unfold outC
 refine filter_lt (fun q hq=>?_) h1 ?_ ?_
 ·simp only[Bool.not_eq_true',<- Bool.not_eq_true,any_mem]at hq ⊢
  exact fun h4=>hq (h q h4)
 ·simp only[Bool.not_eq_false',any_mem]
  exact h3
 ·simp only[Bool.not_eq_true',<- Bool.not_eq_true,any_mem]
  exact h2
theorem arP_bound {all:List PortZ}:∀(l:List PipeZ) (xs:List PortZ),(∀x∈l,x.1∈all∧x.2∈all)->(arP l xs).length+outC all (arP l xs)<=xs.length+outC all xs
 | [],_,_=>Nat.le_refl _
 | x::l,xs,h=>by
  have ih:=arP_bound l (arS xs x) fun y hy=>h y (by simp[hy])
  have h2:(arS xs x).length+outC all (arS xs x)<=xs.length+outC all xs:=by
   rcases arS_len xs x with⟨h1,_⟩|⟨h1,y,h0,h2,h3⟩
   ·rw[h1]
    omega
   ·have hy:y∈all:=by
     rcases h0 with rfl | rfl
     ·exact (h x (by simp)).1
     ·exact (h x (by simp)).2
    have:=outC_lt (all:=all) (arS_sub xs x) hy h2 h3
    omega
  exact Nat.le_trans ih h2
theorem any_dec (xs:List PortZ) (q:PortZ):xs.any (q==·)=decide (q∈xs):=by
 rw[Bool.eq_iff_iff,any_mem]
 simp
theorem HasP_fn (xs:List PortZ) (p:PortZ) (hl:Sh xs):CallFn Tryz.prog 353 [.dat (.sl (xs.map encPo)),.record (encPo p)] (aB (xs.any (p==·))):=by
 obtain⟨p1,p2⟩:=p
 refine callFz_of Tryz.func353 rfl Tryz.ntmps353 (rs:=[.tmp 4]) rfl (by kernel_rfl) (by simp) (by kernel_rfl) ?_
 simp
 refine V.forI (σ:=Unit) xs.length [0,3] (by simp;exact rfl) (fun i _=>[(4,aB false),(5,aI i)]) (fun _ _=>[]) (fun i _=>NoF ((p1,p2)==·) (xs.take i)) () (by simp) (by simp) ⟨by simp;exact rfl,by simp⟩ ?_ ?_
 ·rintro i-hi hI
  obtain⟨x,hx⟩:∃x,xs[i]=x:=⟨_,rfl⟩
  have hxo:xs[i]?=some x:=by rw[List.getElem?_eq_getElem hi,hx]
  have hs:=findIdx_step (p:=((p1,p2)==·)) hI hxo
  obtain⟨x1,x2⟩:=x
  simp[hi,hx,hxo]
  refine V.drawX (fun _=>none) (by kernel_rfl) (by kernel_rfl) (by simp) ?_
  simp[hi,hx,hxo]
  by_cases e:x1=p1∧x2=p2
  ·obtain⟨rfl,rfl⟩:=e
   have:xs.any ((x1,x2)==·)=true:=List.any_eq_true.2 ⟨(x1,x2),List.mem_of_getElem? hxo,by simp⟩
   simp
   exact List.mem_of_getElem? hxo
  ·have e2:((p1,p2)==(x1,x2))=false:=by
    simp only[beq_eq_false_iff_ne,ne_eq,Prod.mk.injEq]
    exact fun h=>e ⟨h.1.symm,h.2.symm⟩
   exact⟨fun a b=>absurd ⟨a,b⟩ e,fun _=>⟨by omega,hs.1 e2⟩⟩
 ·rintro-hI
  have:xs.any ((p1,p2)==·)=false:=by
   rw[List.any_eq_false]
   intro y hy
   rw[List.take_length]at hI
   simpa using hI y hy
  simp[this]
theorem Which_fn (ns:List (List PortZ)) (p:PortZ) (hl:Sh ns) (hm:∀l∈ns,Sh l):CallFn Tryz.prog 285 [aNets ns,.record (encPo p)] (aI (idxI (ns.findIdx? fun l=>l.any (p==·)))):=by
 have hh:=fun l hx=>HasP_fn l p (hm l hx)
 obtain⟨p1,p2⟩:=p
 refine callFz_of Tryz.func285 rfl Tryz.ntmps285 (rs:=[.tmp 4]) rfl (by kernel_rfl) (by simp) (by kernel_rfl) ?_
 simp
 refine V.forI (σ:=Unit) ns.length [0,3] (by simp;exact rfl) (fun i _=>[(4,aI 0),(5,aI i)]) (fun _ _=>[]) (fun i _=>NoF (fun l:List PortZ=>l.any ((p1,p2)==·)) (ns.take i)) () (by simp) (by simp) ⟨by simp;exact rfl,by simp⟩ ?_ ?_
 ·rintro i-hi hI
  obtain⟨x,hx⟩:∃x,ns[i]=x:=⟨_,rfl⟩
  have hxo:ns[i]?=some x:=by rw[List.getElem?_eq_getElem hi,hx]
  have hs:=findIdx_step (p:=fun l:List PortZ=>l.any ((p1,p2)==·)) hI hxo
  have hc:=hh x (List.mem_of_getElem? hxo)
  generalize x.any ((p1,p2)==·)=z at *
  simp[hi,hx,hxo]
  refine V.drawX (fun t=>if t=17 then some (.fn (aB z)) else none) (by kernel_rfl) (by kernel_rfl) (by simp) ?_
  simp[hi,hx,hxo]
  refine⟨hc,?_⟩
  cases z
  ·simp
   exact⟨by omega,hs.1 rfl⟩
  ·simp
   rw[hs.2 rfl]
   simp[idxI]
 ·rintro-hI
  rw[findIdx_none hI]
  simp[idxI]
theorem AllR_fn (c:Cir) (hk:∀p∈c.parts,0<=p.kind∧p.kind<14) (h64:c.parts.length<=64):CallFn Tryz.prog 278 [aCi c] (.dat (.sl ((allP c.parts).map encPo))):=by
 obtain⟨ps,l⟩:=c
 simp only at hk h64 ⊢
 unfold allP
 have hal:=allN_len ps
 refine callFz_of Tryz.func278 rfl Tryz.ntmps278 (rs:=[.tmp 2]) rfl (by kernel_rfl) (by simp) (by kernel_rfl) ?_
 simp
 refine V.forI (σ:=Value) ps.length [1,2] (by simp;exact rfl) (fun i g=>[(3,.own 50 g),(4,aI i)]) (fun i g=>[(50,.seq g 50 2 ((allN ps i).map rPo))]) (fun _ _=>True) (.slice none 0 0) trivial (by simp) ⟨by simp;exact rfl,by simp[allN]⟩ ?_ ?_
 ·rintro i g hi -
  obtain⟨p,hp⟩:∃p,ps[i]=p:=⟨_,rfl⟩
  have hpo:ps[i]?=some p:=by rw[List.getElem?_eq_getElem hi,hp]
  have hkp:=hk p (List.mem_of_getElem? hpo)
  obtain⟨pk,pn,pd⟩:=p
  simp only at hkp
  obtain⟨k,rfl⟩:∃k:Nat,pk=k:=⟨pk.toNat,by omega⟩
  have hr:=RightK_fn k
  rw[if_pos hkp]at hr
  have hpf:=AllK_fn k (by omega)
  have hlen:=portsK_len k
  have hle:=hal i
  rw[allN_succ,show portsOf ps i=(portsK k).map fun t=>((i:Int),t) by simp[portsOf,hpo]]
  generalize portsK k=F at *
  generalize allN ps i=W at *
  simp[hi,hp,hpo]
  refine hr.s ?_
  simp[hi,hp,hpo]
  refine hpf.s ?_
  simp
  refine V.forI (σ:=Value) F.length [1,2,4,5] (by simp;exact rfl) (fun j g=>[(3,.own 50 g),(6,aI j)]) (fun j g=>[(50,.seq g 50 2 ((W++(F.take j).map fun t=>((i:Int),t)).map rPo))]) (fun _ _=>True) g trivial (by simp) ⟨by simp;exact rfl,by simp⟩ ?_ ?_
  ·rintro j g2 hj -
   obtain⟨x,hx⟩:∃x,F[j]=x:=⟨_,rfl⟩
   have hxo:F[j]?=some x:=by rw[List.getElem?_eq_getElem hj,hx]
   rw[List.take_add_one,hxo]
   simp[hj,hx,hxo]
   omega
  ·rintro g2 -
   simp
   omega
 ·rintro g -
  simp
def aroundZ (c:Cir) (p:PortZ):List PortZ:=(allP c.parts).filter fun q=>rootF c.pipes q==rootF c.pipes p
theorem ar_round {ps:List Prt}{l:List PipeZ}{Q:PostQ}{g:Value}{i:Nat}{x:PipeZ}{zs:List PortZ}{mo:Bool}
  (hhas:∀(xs:List PortZ) (q:PortZ),xs.length<=1000000->CallFn Tryz.prog 353 [.dat (.sl (xs.map encPo)),.record (encPo q)] (aB (xs.any (q==·))))
  (hxo:l[i]?=some x) (hi:i<l.length) (hi2:l.length<=1000000) (hz:zs.length<=1000)
  (hQ:∀g' E' H',(∀z∈[(5,.own 13 g'),(6,aB (mo||decide (zs.length<(arS zs x).length))),(7,aI (i+1:Nat))],wk (E' z.1) z.2)->(∀z∈[(2,A.rptr (encCi ⟨ps,l⟩)),(4,.nils),(14,aB true)],E' z.1=z.2)->subN [(13,.seq g' 50 2 ((arS zs x).map rPo))] H'->Q .normal E' H') :
  vcC ⟨Tryz.prog,none,81⟩ (loopC Tryz.f279 1) (hdE [(2,.rptr (encCi ⟨ps,l⟩)),(4,.nils),(14,aB true)] [(5,.own 13 g),(6,aB mo),(7,aI i)]) [(13,.seq g 50 2 (zs.map rPo))] Q:=by
 obtain⟨hil,hx⟩:=List.getElem?_eq_some_iff.1 hxo
 have q1:=hhas zs x.1 (by omega)
 have q2:=hhas zs x.2 (by omega)
 have q3:=hhas (zs++[x.2]) x.2 (by simp;omega)
 have q4:=hhas (zs++[x.2]) x.1 (by simp;omega)
 rw[arS_eq]at hQ
 obtain⟨⟨x1,x2⟩,x3,x4⟩:=x
 simp only at q1 q2 q3 q4 hQ
 rw[any_dec]at q1 q2 q3 q4
 have lv1:∀(H:Heap) (g:Value) (e sz:Nat) (zs:List PortZ) (q:PortZ),hget 13 H=some (.seq g e sz (zs.map rPo))->(frzs H [.own 13 g,.record (encPo q)]).1∧(frzs H [.own 13 g,.record (encPo q)]).2=[.dat (.sl (zs.map encPo)),.record (encPo q)]:=by
  intro H g e sz zs q h
  simp[h]
 have lv2:∀(H:Heap) (g:Value) (e sz:Nat) (zs:List PortZ) (y q:PortZ),hget 13 H=some (.seq g e sz (zs.map rPo++[[.dat (.int .i64 y.1),.dat (.str y.2)]]))->(frzs H [.own 13 g,.record (encPo q)]).1∧(frzs H [.own 13 g,.record (encPo q)]).2=[.dat (.sl ((zs++[y]).map encPo)),.record (encPo q)]:=by
  intro H g e sz zs y q h
  have:=lv1 H g e sz (zs++[y]) q (by simpa using h)
  exact this
 refine vc_part rfl ?_
 by_cases b1:(x1,x2)∈zs
 ·by_cases b2:(x3,x4)∈zs
  ·simp[b1,b2]at q1 q2
   simp only[b1,b2,not_true,and_false,if_false]at hQ
   simp[hi,hx,hxo]
   intro b8
   refine q1.lend (lv1 _ _ _ _ zs (x1,x2) rfl) (by simp) ?_
   simp
   refine GCall.ways (fun _=>⟨trivial,q2.lend (lv1 _ _ _ _ zs (x3,x4) rfl) (by simp) ?_⟩) (fun h=>absurd trivial h)
   simp
   refine q2.lend (lv1 _ _ _ _ zs (x3,x4) rfl) (by simp) ?_
   simp
   refine GCall.ways (fun _=>⟨trivial,q1.lend (lv1 _ _ _ _ zs (x1,x2) rfl) (by simp) ?_⟩) (fun h=>absurd trivial h)
   simp
   exact⟨by omega,hQ g _ _ (by simp) (by simp) (by simp)⟩
  ·simp only[b1,b2,decide_true,decide_false,List.mem_append,List.mem_singleton,or_true,true_or]at q1 q2 q3 q4
   simp only[b1,b2,not_false_eq_true,and_self,if_true]at hQ
   simp[hi,hx,hxo]
   intro b8
   refine q1.lend (lv1 _ _ _ _ zs (x1,x2) rfl) (by simp) ?_
   simp
   refine GCall.ways (fun _=>⟨trivial,q2.lend (lv1 _ _ _ _ zs (x3,x4) rfl) (by simp) ?_⟩) (fun h=>absurd trivial h)
   simp
   intro u
   refine⟨by omega,?_⟩
   refine q3.lend (lv2 _ _ _ _ zs (x3,x4) (x3,x4) rfl) (by simp) ?_
   simp
   refine GCall.ways (fun _=>⟨trivial,q4.lend (lv2 _ _ _ _ zs (x3,x4) (x1,x2) rfl) (by simp) ?_⟩) (fun h=>absurd trivial h)
   simp
   exact⟨by omega,hQ u _ _ (by simp) (by simp) (by simp)⟩
 ·by_cases b2:(x3,x4)∈zs
  ·simp[b1,b2]at q1 q2
   simp only[b1,b2,false_and,if_false,not_false_eq_true,and_self,if_true]at hQ
   simp[hi,hx,hxo]
   intro b8
   refine q1.lend (lv1 _ _ _ _ zs (x1,x2) rfl) (by simp) ?_
   simp
   refine GCall.ways (fun h=>absurd h (by simp)) (fun _=>⟨aB false,?_⟩)
   simp
   refine q2.lend (lv1 _ _ _ _ zs (x3,x4) rfl) (by simp) ?_
   simp
   refine GCall.ways (fun _=>⟨trivial,q1.lend (lv1 _ _ _ _ zs (x1,x2) rfl) (by simp) ?_⟩) (fun h=>absurd trivial h)
   simp
   intro u
   exact⟨by omega,by omega,hQ u _ _ (by simp) (by simp) (by simp)⟩
  ·simp[b1,b2]at q1 q2
   simp only[b1,b2,false_and,if_false]at hQ
   simp[hi,hx,hxo]
   intro b8
   refine q1.lend (lv1 _ _ _ _ zs (x1,x2) rfl) (by simp) ?_
   simp
   refine GCall.ways (fun h=>absurd h (by simp)) (fun _=>⟨aB false,?_⟩)
   simp
   refine q2.lend (lv1 _ _ _ _ zs (x3,x4) rfl) (by simp) ?_
   simp
   refine GCall.ways (fun h=>absurd h (by simp)) (fun _=>⟨aB false,?_⟩)
   simp
   exact⟨by omega,hQ g _ _ (by simp) (by simp) (by simp)⟩
theorem Around_fn (c:Cir) (hc:CirR c) (p:PortZ) (hp:p∈allP c.parts):CallFn Tryz.prog 279 [aCi c,.record (encPo p)] (.dat (.sl ((aroundZ c p).map encPo))):=by
 have hkinds:∀p∈c.parts,0<=p.kind∧p.kind<14:=fun p hp=>partE_kindZ (hc.part p hp)
 have hallf:=AllR_fn c hkinds hc.few
 obtain⟨ps,l⟩:=c
 have hfew:=hc.few
 have hmany:=hc.many
 have hroot:=rootF_ok l
 have hinall:∀x∈l,x.1∈allP ps∧x.2∈allP ps:=fun x hx=>⟨mem_allP.2 ⟨(hc.inp x hx).1,(hc.has x hx).1⟩,mem_allP.2 ⟨(hc.inp x hx).2,(hc.has x hx).2⟩⟩
 have hall448:(allP ps).length<=448:=by
  have:=allN_len ps ps.length
  simp only at hfew
  unfold allP
  omega
 simp only at hfew hmany hallf hp
 unfold aroundZ
 simp only
 have hhas:=fun xs q (h:List.length xs<=1000000)=>HasP_fn xs q (by unfold Sh;omega)
 obtain⟨p1,p2⟩:=p
 refine callFz_cut 1 Tryz.func279 rfl Tryz.ntmps279 (rs:=[.tmp 4]) rfl (by kernel_rfl) (by simp) (by kernel_rfl) ?_
 simp
 refine V.seqV (V.regF (fun t=>if t=13 then some .bld else none) [] ?_)
 simp
 intro g0
 refine V.of_vc ?_
 simp
 obtain⟨f,hf⟩:∃f,rootF l=f:=⟨_,rfl⟩
 rw[hf]at hroot ⊢
 refine V.for' [2,4] (fun s:List PortZ×Bool×Value=>[(5,.own 13 s.2.2),(6,aB s.2.1)]) (fun s=>[(13,.seq s.2.2 50 2 (s.1.map rPo))])
  (fun s=>(p1,p2)∈s.1∧(∀q∈s.1,q∈allP ps∧f q=f (p1,p2))∧s.1.length+outC (allP ps) s.1<=449∧(s.2.1=false->∀x∈l,x.1∈s.1↔x.2∈s.1))
  (fun s=>2*outC (allP ps) s.1+(if s.2.1=true then 1 else 0)) ([(p1,p2)],true,g0) ⟨⟨by simp,fun q hq=>?_,?_,by simp⟩,by simp,by simp;exact subP.refl _⟩ ?_
 ·simp only[List.mem_singleton]at hq
  subst hq
  exact⟨hp,rfl⟩
 ·have:outC (allP ps) [(p1,p2)]<=(allP ps).length:=List.length_filter_le _ _
  simp
  omega
 ·rintro⟨xs,more,g⟩ ⟨h1,h2,h3,h4⟩
  simp only at h1 h2 h3 h4
  cases more
  ·simp
   refine hallf.s ?_
   simp
   have hx449:xs.length<=1000:=by omega
   have hcls:∀q,q∈allP ps->(q∈xs↔f q=f (p1,p2)):=by
    intro q hq
    constructor
    ·intro h
     exact (h2 q h).2
    ·intro h
     have hcl:=hroot.closed (fun q=>q∈xs) (h4 rfl)
     exact (hcl q).2 (by rw[h];exact (hcl (p1,p2)).1 h1)
   generalize hA:allP ps=all at *
   refine V.forI (σ:=Value) all.length [4,5,10] (by simp;exact rfl) (fun i g2=>[(9,.own 50 g2),(11,aI i)]) (fun i g2=>[(50,.seq g2 50 2 (((all.take i).filter fun q=>f q==f (p1,p2)).map rPo)),(13,.seq g 50 2 (xs.map rPo))]) (fun _ _=>True) (.slice none 0 0) trivial (by simp) ⟨by simp;exact rfl,by simp⟩ ?_ ?_
   ·rintro i g2 hi -
    obtain⟨x,hx⟩:∃x,all[i]=x:=⟨_,rfl⟩
    have hxo:all[i]?=some x:=by rw[List.getElem?_eq_getElem hi,hx]
    have hxc:=hcls x (List.mem_of_getElem? hxo)
    have hh:=hhas xs x (by omega)
    rw[any_dec]at hh
    have hle:((all.take i).filter fun q=>f q==f (p1,p2)).length<=448:=by
     refine Nat.le_trans (List.length_filter_le _ _) ?_
     rw[List.length_take]
     omega
    rw[take_snoc hxo,List.filter_append]
    generalize (all.take i).filter (fun q=>f q==f (p1,p2))=W at *
    obtain⟨x1,x2⟩:=x
    by_cases hm:(x1,x2)∈xs
    ·have he:=hxc.1 hm
     simp only[hm,decide_true]at hh
     simp[hi,hx,hxo,he]
     refine hh.lend ?_ (by simp) ?_
     ·simp
     simp[hi,hx,hxo]
     exact⟨by omega,by omega,by simp[he]⟩
    ·have he:¬f (x1,x2)=f (p1,p2):=fun h=>hm (hxc.2 h)
     simp only[hm,decide_false]at hh
     simp[hi,hx,hxo,he]
     refine hh.lend ?_ (by simp) ?_
     ·simp
     simp
     exact⟨by omega,he⟩
   ·rintro g2 -
    simp
  ·simp
   refine V.forI (σ:=Value) l.length [2,4,14] (by simp;exact rfl) (fun i g=>[(5,.own 13 g),(6,aB (decide (xs.length<(arP (l.take i) xs).length))),(7,aI i)]) (fun i g=>[(13,.seq g 50 2 ((arP (l.take i) xs).map rPo))]) (fun _ _=>True) g trivial (by simp[arP]) ⟨by simp;exact rfl,by simp[arP]⟩ ?_ ?_
   ·rintro i g2 hi -
    obtain⟨x,hx⟩:∃x,l[i]=x:=⟨_,rfl⟩
    have hxo:l[i]?=some x:=by rw[List.getElem?_eq_getElem hi,hx]
    have hbd:=arP_bound (all:=allP ps) (l.take i) xs fun y hy=>hinall y (List.mem_of_mem_take hy)
    have hge:xs.length<=(arP (l.take i) xs).length:=by
     rcases arP_len (l.take i) xs with⟨h,_⟩|⟨h,_⟩
     ·rw[h]
      omega
     ·omega
    have hge2:(arP (l.take i) xs).length<=(arS (arP (l.take i) xs) x).length:=by
     rcases arS_len (arP (l.take i) xs) x with⟨h,_⟩|⟨h,_⟩
     ·rw[h]
      omega
     ·omega
    rw[arP_snoc hxo]
    refine vc_of_part rfl (ar_round hhas hxo hi (by omega) (by omega) fun g' E' H' q1 q2 q3=>⟨g',trivial,?_,q2,q3⟩)
    rw[show decide (xs.length<(arS (arP (l.take i) xs) x).length)=(decide (xs.length<(arP (l.take i) xs).length)||decide ((arP (l.take i) xs).length<(arS (arP (l.take i) xs) x).length)) by
     rw[Bool.eq_iff_iff];simp only[Bool.or_eq_true,decide_eq_true_eq];omega]
    exact q1
   ·rintro g2 -
    simp
    have hbd:=arP_bound (all:=allP ps) l xs hinall
    have hin2:∀q∈arP l xs,q∈allP ps∧f q=f (p1,p2):=arP_of h2 fun x hx=>⟨fun ⟨_,b⟩=>⟨(hinall x hx).2,by rw[<- hroot.pipe x hx];exact b⟩,fun ⟨_,b⟩=>⟨(hinall x hx).1,by rw[hroot.pipe x hx];exact b⟩⟩
    have hs1:=arP_sub l xs _ h1
    rcases arP_len l xs with⟨h5,h6⟩|⟨h5,y,⟨z,h6,h7⟩,h8,h9⟩
    ·refine⟨xs,.inl ⟨⟨h1,fun a b hab=>h2 _ hab,h3,fun a b a2 b2 hab=>h6 _ hab⟩,by omega,g2,⟨rfl,by rw[h5];omega⟩,?_⟩⟩
     rw[h5]
     exact subP.refl _
    ·have hy:y∈allP ps:=by
      rcases h7 with rfl | rfl
      ·exact (hinall z h6).1
      ·exact (hinall z h6).2
     exact⟨arP l xs,.inr ⟨⟨hs1,fun a b hab=>hin2 _ hab,by omega⟩,outC_lt (arP_sub l xs) hy h8 h9,g2,⟨rfl,h5⟩,subP.refl _⟩⟩
theorem head_around {c:Cir}{p:PortZ}(hc:CirR c) (hp:p∈allP c.parts):∃r rest,aroundZ c p=r::rest∧(r=p↔rootF c.pipes p=p):=by
 have hro:=rootF_ok c.pipes
 have hm:rootF c.pipes p∈aroundZ c p:=List.mem_filter.2 ⟨(root_all hc).1 hp,by simp[hro.idem]⟩
 have hpm:p∈aroundZ c p:=List.mem_filter.2 ⟨hp,by simp⟩
 have hs:(aroundZ c p).Pairwise fun a b=>beforeZ a b=true:=(allN_sorted c.parts _).sublist List.filter_sublist
 cases h:aroundZ c p with
 | nil=>rw[h]at hm;cases hm
 | cons r rest=>
  refine⟨r,rest,rfl,?_⟩
  have hr:rootF c.pipes r=rootF c.pipes p:=by
   have:r∈aroundZ c p:=by rw[h];simp
   simpa using (List.mem_filter.1 this).2
  have hle:=hro.le r
  rw[hr]at hle
  rw[h]at hm hs
  have hrr:rootF c.pipes p=r:=by
   rcases List.mem_cons.1 hm with e | hm
   ·exact e
   ·have:=(List.pairwise_cons.1 hs).1 _ hm
    rw[this]at hle
    cases hle
  rw[hrr]
theorem Joined_fn (c:Cir) (hc:CirR c):CallFn Tryz.prog 197 [aCi c] (aNets (netsZ c)):=by
 have hkinds:∀p∈c.parts,0<=p.kind∧p.kind<14:=fun p hp=>partE_kindZ (hc.part p hp)
 have hallf:=AllR_fn c hkinds hc.few
 have haf:=fun p hp=>Around_fn c hc p hp
 have hhd:=fun p hp=>@head_around c p hc hp
 have hfew:=hc.few
 have hall448:(allP c.parts).length<=448:=by
  have:=allN_len c.parts c.parts.length
  unfold allP
  omega
 have hz:netsZ c=((allP c.parts).filter fun r=>rootF c.pipes r==r).map (aroundZ c):=by
  unfold netsZ netsF
  apply List.map_congr_left
  intro r hr
  have:=(List.mem_filter.1 hr).2
  simp only[beq_iff_eq]at this
  unfold aroundZ
  rw[this]
 rw[hz]
 obtain⟨ps,l⟩:=c
 simp only at hallf haf hhd hall448 ⊢
 generalize allP ps=all at *
 refine callFz_of Tryz.func197 rfl Tryz.ntmps197 (rs:=[.tmp 2]) rfl (by kernel_rfl) (by simp) (by kernel_rfl) ?_
 simp
 refine hallf.s ?_
 simp
 refine V.forI (σ:=Value) all.length [1,2,4] (by simp;exact rfl) (fun i g=>[(3,.own 50 g),(5,aI i)]) (fun i g=>[(50,.seq g 54 1 ((((all.take i).filter fun r=>rootF l r==r).map (aroundZ ⟨ps,l⟩)).map fun l=>[.dat (.sl (l.map encPo))]))]) (fun _ _=>True) (.slice none 0 0) trivial (by simp) ⟨by simp;exact rfl,by simp⟩ ?_ ?_
 ·rintro i g hi -
  obtain⟨x,hx⟩:∃x,all[i]=x:=⟨_,rfl⟩
  have hxo:all[i]?=some x:=by rw[List.getElem?_eq_getElem hi,hx]
  have ha:=haf x (List.mem_of_getElem? hxo)
  obtain⟨r,rest,h1,h2⟩:=hhd x (List.mem_of_getElem? hxo)
  have hle:(((all.take i).filter fun r=>rootF l r==r).map (aroundZ ⟨ps,l⟩)).length<=448:=by
   rw[List.length_map]
   refine Nat.le_trans (List.length_filter_le _ _) ?_
   rw[List.length_take]
   omega
  rw[take_snoc hxo,List.filter_append,List.map_append]
  generalize ((all.take i).filter fun r=>rootF l r==r).map (aroundZ ⟨ps,l⟩)=W at *
  obtain⟨x1,x2⟩:=x
  obtain⟨r1,r2⟩:=r
  rw[h1]at ha
  simp[hi,hx,hxo]
  refine V.drawX (fun t=>if t=20 then some (.fn (.dat (.sl (((r1,r2)::rest).map encPo)))) else none) (by kernel_rfl) (by kernel_rfl) (by simp) ?_
  simp[hi,hx,hxo]
  refine⟨ha,?_⟩
  refine V.drawX (fun _=>none) (by kernel_rfl) (by kernel_rfl) (by simp) ?_
  simp[hi,hx,hxo]
  by_cases hr:rootF l (x1,x2)=(x1,x2)
  ·have e:=h2.2 hr
   simp only[Prod.mk.injEq]at e
   obtain⟨rfl,rfl⟩:=e
   simp[hr,h1]
   omega
  ·have e:¬(r1=x1∧r2=x2):=fun h=>hr (h2.1 (by rw[h.1,h.2]))
   simp[hr]
   exact⟨fun a b=>e ⟨a,b⟩,fun _=>by omega⟩
 ·rintro g -
  rw[List.take_length]
  generalize (all.filter fun r=>rootF l r==r).map (aroundZ ⟨ps,l⟩)=W
  simp
def deRen:Go.Shelf.Ren:=⟨fun | 23=>291 | n=>n,fun | 0=>0 | 3=>3 | 4=>4 | 22=>24 | n=>n,fun n=>n⟩
theorem deLays:Go.Proofs.Lays2.n23 Tryz.prog deRen:={ 
 mixed:=by kernel_rfl,
 f23:=by kernel_rfl,
 t0:=Tryz.underlying0,
 a0:=Tryz.isAgg0,
 z0:=Tryz.sizeOf0,
 v0:=Tryz.zeroValue0,
 t3:=Tryz.underlying3,
 a3:=Tryz.isAgg3,
 z3:=Tryz.sizeOf3,
 v3:=Tryz.zeroValue3,
 t4:=Tryz.underlying4,
 a4:=Tryz.isAgg4,
 z4:=Tryz.sizeOf4,
 v4:=Tryz.zeroValue4,
 t22:=Tryz.underlying24,
 a22:=Tryz.isAgg24,
 z22:=Tryz.sizeOf24,
 v22:=Tryz.zeroValue24,
 i3:=by kernel_rfl }
end Go.Proofs.YtafamcbdaeppoaaGreatDoor
