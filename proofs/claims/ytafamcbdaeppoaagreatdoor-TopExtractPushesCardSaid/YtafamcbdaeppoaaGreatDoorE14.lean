/- Texts joined by a program: Iea,Ka,Kb,Kc,Sib,Kd,Kk. -/
import Derived.Lib.ItoaNum
import Derived.Shelf.Small.Strs
import Derived.Test.YtafamcbdaeppoaaGreatDoorProg
import Derived.KernelRfl
import Derived.Test.YtafamcbdaeppoaaGreatDoorE13
import Derived.Test.YtafamcbdaeppoaaGreatDoorE11
import Derived.Test.YtafamcbdaeppoaaGreatDoorE12
set_option linter.unusedSimpArgs false
set_option linter.unusedVariables false
set_option maxHeartbeats 8000000
set_option maxRecDepth 100000
namespace Go.Proofs.YtafamcbdaeppoaaGreatDoor
theorem Compare_fnT (a b:List UInt8):CallFn Tryz.prog 111 [.dat (.str a),.dat (.str b)] (aI (Go.Lib.compareBytes a b)):=by
 refine⟨⟨_,Tryz.func111,by kernel_rfl,by kernel_rfl⟩,fun x args H0 hi hd=>?_⟩
 obtain⟨u,v,e,hu,hv⟩:=Ds.two hd
 simp only[D,RdL]at hu hv
 subst hu hv
 have ha:args=#[.string ⟨a.toArray⟩,.string ⟨b.toArray⟩]:=by
  rcases args with⟨l⟩
  simp only at e
  rw[e]
 subst ha
 refine (Any.strings_Compare scLays ⟨a.toArray⟩ ⟨b.toArray⟩ x.w).mono ?_
 rintro _ _ ⟨rfl,rfl⟩
 refine⟨x,_,_,[],rfl,rfl,.refl x,by simpa using hi,?_,rfl,rfl⟩
 simp only[D,RdL]
theorem cmpOr_fn (a b:Int):CallFn Tryz.prog 115 [aIs [a,b]] (aI (if a≠0 then a else b)):=by
 refine callFz_of Tryz.func115 rfl Tryz.ntmps115 (rs:=[.tmp 2]) rfl (by kernel_rfl) (by simp) (by kernel_rfl) ?_
 simp
 refine V.forI (σ:=Unit) 2 [3,6,7] (by simp;exact rfl) (fun i _=>[(2,aI 0),(8,aI i)]) (fun _ _=>[]) (fun i _=>(1<=i->a=0)∧(2<=i->b=0)) () (by simp) (by simp) ⟨by simp;exact rfl,by simp⟩ ?_ ?_
 ·rintro i-hi ⟨h1,h2⟩
  have hc:i=0∨i=1:=by omega
  rcases hc with rfl | rfl
  ·simp
   by_cases h:a=0<;>simp[h]
  ·have:=h1 (by omega)
   simp
   by_cases h:b=0<;>simp[h,this]
 ·rintro-⟨h1,h2⟩
  have:=h1 (by omega)
  have:=h2 (by omega)
  simp[*]
theorem nanI_fn (n:Int):CallFn Tryz.prog 237 [aI n] (aB false):=by
 refine callFz_of Tryz.func237 rfl Tryz.ntmps237 (rs:=[.tmp 2]) rfl (by kernel_rfl) (by simp) (by kernel_rfl) ?_
 simp
def cmpI (a b:Int):Int:=if a<b then -1 else if b<a then 1 else 0
theorem cmpI_fn (a b:Int):CallFn Tryz.prog 166 [aI a,aI b] (aI (cmpI a b)):=by
 have n1:=nanI_fn a
 have n2:=nanI_fn b
 refine callFz_of Tryz.func166 rfl Tryz.ntmps166 (rs:=[.tmp 4]) rfl (by kernel_rfl) (by simp) (by kernel_rfl) ?_
 simp
 refine n1.s ?_
 simp
 refine n2.s ?_
 simp
 unfold cmpI
 by_cases h:a<b
 ·simp[h]
  omega
 ·by_cases h2:b<a<;>simp[h,h2]
structure Prt where
 kind:Int
 name:List UInt8
 delay:Int
 deriving DecidableEq
abbrev PortZ:=Int×List UInt8
abbrev PipeZ:=PortZ×PortZ
structure Cir where
 parts:List Prt
 pipes:List PipeZ
abbrev encPa (p:Prt):List L:=[.int .i64 p.kind,.str p.name,.int .i64 p.delay]
abbrev encPo (p:PortZ):List L:=[.int .i64 p.1,.str p.2]
abbrev encPi (p:PipeZ):List L:=[.int .i64 p.1.1,.str p.1.2,.int .i64 p.2.1,.str p.2.2]
abbrev encCi (c:Cir):List L:=[.sl (c.parts.map encPa),.sl (c.pipes.map encPi)]
abbrev aCi (c:Cir):A:=.record (encCi c)
def firstE (f:Nat->Int):Nat->Int
 | 0=>0
 | n+1=>if firstE f n≠0 then firstE f n else f n
theorem firstE_step {f:Nat->Int}{i:Nat}(h:firstE f i=0):firstE f (i+1)=f i:=by simp[firstE,h]
theorem firstE_stop {f:Nat->Int}{i:Nat}(h:firstE f i≠0):∀n,i<=n->firstE f n=firstE f i
 | 0,hn=>by rw[show i=0 by omega]
 | n+1,hn=>by
  by_cases e:i=n+1
  ·rw[e]
  ·have:=firstE_stop h n (by omega)
   simp[firstE,this,h]
theorem firstE_hit {f:Nat->Int}{i n:Nat}(h:firstE f i=0) (hi:i<n) (hf:f i≠0):firstE f n=f i:=by
 have h1:=firstE_step h
 rw[firstE_stop (i:=i+1) (by rw[h1];exact hf) n (by omega),h1]
theorem firstE_zero {f:Nat->Int}:∀n,firstE f n=0->∀i,i<n->f i=0
 | 0,_,i,hi=>by omega
 | n+1,h,i,hi=>by
  simp only[firstE]at h
  by_cases h0:firstE f n=0
  ·rw[if_neg (by simp[h0])]at h
   by_cases e:i=n
   ·rw[e];exact h
   ·exact firstE_zero n h0 i (by omega)
  ·rw[if_pos h0]at h
   exact absurd h h0
def letC (n:Nat):Bool:=decide (97<=n∧n<=122)||decide (65<=n∧n<=90)
def digQ (n:Nat):Bool:=decide (48<=n∧n<=57)
def innC (n:Nat):Bool:=letC n||digQ n||decide (n=95)
def wordE (s:List UInt8):Int:=
 if (s.head?.any fun b=>letC b.toNat)=false then 3
 else if (s.all fun b=>innC b.toNat)=false then 3
 else if 24<s.length then 17 else 0
def partE (p:Prt):Int:=
 if ¬(0<=p.kind∧p.kind<14) then 1
 else if wordE p.name≠0 then wordE p.name
 else if (p.kind=12∧(p.delay<1∨1000000<p.delay))∨(p.kind≠12∧p.delay≠0) then 2 else 0
def stepE (ps:List Prt) (i:Nat):Int:=match ps[i]? with
 | none=>0
 | some p=>if partE p≠0 then partE p else match i with
  | 0=>0
  | j+1=>match ps[j]? with
   | some q=>if ltB q.name p.name=true then 0 else 9
   | none=>0
def findN (ps:List Prt) (t:List UInt8):Option Nat:=ps.findIdx? fun p=>p.name==t
def ownN (ps:List Prt) (t:List UInt8):Bool:=(t.getLast? == some 48||t.getLast? == some 49)&&match findN ps t.dropLast with
 | some j=>(ps[j]?).any fun q=>q.kind==1
 | none=>false
def limE (ps:List Prt) (i:Nat):Int:=match ps[i]? with
 | some p=>if p.kind=6∧ownN ps p.name=false then 6 else 0
 | none=>0
def rolesK:Nat->List (List (List UInt8))
 | 0=>[[],[[49]],[],[],[]]
 | 1=>[[],[],[],[],[[50],[52]]]
 | 2=>[[[49]],[[50],[52]],[[51],[53]],[[49,50],[49,52]],[]]
 | 3=>[[[49]],[[50],[52]],[[51],[53]],[[49,52]],[]]
 | 4=>[[[49]],[[50]],[[51]],[[49,50]],[]]
 | 5=>[[[49]],[[50]],[[51]],[[49,48]],[]]
 | 6=>[[[49]],[[50]],[[51]],[],[]]
 | 7=>[[[49]],[[50]],[[51]],[],[]]
 | 8=>[[[49],[49,49]],[[50]],[],[],[]]
 | 9=>[[[49],[49,49]],[[50]],[],[],[]]
 | 10=>[[[49]],[[50]],[[51]],[],[]]
 | 11=>[[[49]],[[50]],[],[],[]]
 | 12=>[[[49]],[[50]],[[51]],[[49,50]],[]]
 | 13=>[[[49]],[[50]],[[51]],[[49,50]],[]]
 | _=>[]
def hasK (k:Nat) (t:List UInt8):Bool:=(rolesK k).any fun l=>l.any (t==·)
def hasPort (ps:List Prt) (q:PortZ):Bool:=(ps[q.1.toNat]?).any fun p=>hasK p.kind.toNat q.2
def inPort (ps:List Prt) (q:PortZ):Bool:=decide (0<=q.1∧q.1<ps.length)
def beforeZ:PortZ->PortZ->Bool:=lexB (fun a b=>decide (a<b)) ltB
def earlierZ:PipeZ->PipeZ->Bool:=lexB beforeZ beforeZ
theorem int_tot:TotB fun a b:Int=>decide (a<b):=⟨fun a=>by simp,fun a b c h1 h2=>by simp at *;omega,fun a b h1 h2=>by simp at *;omega⟩
theorem beforeZ_tot:TotB beforeZ:=lexB_tot int_tot ltB_tot
def pipeE (c:Cir) (i:Nat):Int:=match c.pipes[i]? with
 | none=>0
 | some x=>if inPort c.parts x.1=false∨inPort c.parts x.2=false then 2
  else if hasPort c.parts x.1=false∨hasPort c.parts x.2=false then 6
  else if beforeZ x.1 x.2=false then 9
  else match i with
   | 0=>0
   | j+1=>match c.pipes[j]? with
    | some y=>if earlierZ y x=true then 0 else 9
    | none=>0
def cirE (c:Cir):Int:=
 if 64<c.parts.length then 5
 else if firstE (stepE c.parts) c.parts.length≠0 then firstE (stepE c.parts) c.parts.length
 else if firstE (limE c.parts) c.parts.length≠0 then firstE (limE c.parts) c.parts.length
 else if 256<c.pipes.length then 5
 else firstE (pipeE c) c.pipes.length
structure CirR (c:Cir):Prop where
 few:c.parts.length<=64
 part:∀p∈c.parts,partE p=0
 asc:∀i p q,c.parts[i]?=some p->c.parts[i+1]?=some q->ltB p.name q.name=true
 own:∀p∈c.parts,p.kind=6->ownN c.parts p.name=true
 many:c.pipes.length<=256
 inp:∀x∈c.pipes,inPort c.parts x.1=true∧inPort c.parts x.2=true
 has:∀x∈c.pipes,hasPort c.parts x.1=true∧hasPort c.parts x.2=true
 dir:∀x∈c.pipes,beforeZ x.1 x.2=true
theorem cirR_of {c:Cir}(h:cirE c=0):CirR c:=by
 unfold cirE at h
 by_cases h1:64<c.parts.length
 ·rw[if_pos h1]at h;simp at h
 rw[if_neg h1]at h
 by_cases h2':¬firstE (stepE c.parts) c.parts.length=0
 ·rw[if_pos h2']at h;exact absurd h h2'
 have h2:=Classical.not_not.1 h2'
 rw[if_neg (by simp[h2])]at h
 by_cases h3':¬firstE (limE c.parts) c.parts.length=0
 ·rw[if_pos h3']at h;exact absurd h h3'
 have h3:=Classical.not_not.1 h3'
 rw[if_neg (by simp[h3])]at h
 by_cases h4:256<c.pipes.length
 ·rw[if_pos h4]at h;simp at h
 rw[if_neg h4]at h
 have k2:=firstE_zero _ h2
 have k3:=firstE_zero _ h3
 have k5:=firstE_zero _ h
 have hpart:∀p∈c.parts,partE p=0:=by
  intro p hp
  obtain⟨i,hi,e⟩:=List.getElem_of_mem hp
  have:=k2 i hi
  unfold stepE at this
  rw[List.getElem?_eq_getElem hi,e]at this
  simp only at this
  by_cases e0:partE p=0
  ·exact e0
  ·rw[if_pos e0]at this;exact absurd this e0
 have hpipe:∀x∈c.pipes,(inPort c.parts x.1=true∧inPort c.parts x.2=true)∧(hasPort c.parts x.1=true∧hasPort c.parts x.2=true)∧beforeZ x.1 x.2=true:=by
  intro x hx
  obtain⟨i,hi,e⟩:=List.getElem_of_mem hx
  have:=k5 i hi
  unfold pipeE at this
  rw[List.getElem?_eq_getElem hi,e]at this
  simp only at this
  by_cases e1:inPort c.parts x.1=false∨inPort c.parts x.2=false
  ·rw[if_pos e1]at this;simp at this
  rw[if_neg e1]at this
  by_cases e2:hasPort c.parts x.1=false∨hasPort c.parts x.2=false
  ·rw[if_pos e2]at this;simp at this
  rw[if_neg e2]at this
  by_cases e3:beforeZ x.1 x.2=false
  ·rw[if_pos e3]at this;simp at this
  simp only[not_or,Bool.not_eq_false]at e1 e2 e3
  exact⟨e1,e2,e3⟩
 refine⟨by omega,hpart,fun i p q hp hq=>?_,fun p hp h6=>?_,by omega,fun x hx=>(hpipe x hx).1,fun x hx=>(hpipe x hx).2.1,fun x hx=>(hpipe x hx).2.2⟩
 ·have hi:=(List.getElem?_eq_some_iff.1 hq).1
  have:=k2 (i+1) hi
  unfold stepE at this
  rw[hq]at this
  simp only at this
  rw[if_neg (by simp[hpart q (List.mem_of_getElem? hq)]),hp]at this
  simp only at this
  by_cases e:ltB p.name q.name=true
  ·exact e
  ·rw[if_neg e]at this;simp at this
 ·obtain⟨i,hi,e⟩:=List.getElem_of_mem hp
  have:=k3 i hi
  unfold limE at this
  rw[List.getElem?_eq_getElem hi,e]at this
  simp only at this
  by_cases e0:ownN c.parts p.name=true
  ·exact e0
  ·rw[if_pos ⟨h6,by simpa using e0⟩]at this;simp at this
def loP (a b:PortZ):PortZ:=if beforeZ b a=true then b else a
def hiP (a b:PortZ):PortZ:=if beforeZ b a=true then a else b
def mergeF (f:PortZ->PortZ) (x:PipeZ) (p:PortZ):PortZ:=if f p=hiP (f x.1) (f x.2) then loP (f x.1) (f x.2) else f p
def rootF (xs:List PipeZ):PortZ->PortZ:=xs.foldl mergeF id
theorem rootF_snoc (xs:List PipeZ) (x:PipeZ):rootF (xs++[x])=mergeF (rootF xs) x:=by simp[rootF,List.foldl_append]
theorem rootF_take {xs:List PipeZ}{i:Nat}{x:PipeZ}(h:xs[i]?=some x):rootF (xs.take (i+1))=mergeF (rootF (xs.take i)) x:=by
 rw[List.take_add_one,h]
 exact rootF_snoc _ _
theorem hiP_or (a b:PortZ):(hiP a b=a∧loP a b=b)∨(hiP a b=b∧loP a b=a):=by
 unfold hiP loP
 by_cases h:beforeZ b a=true<;>simp[h]
theorem leZ_trans {a b c:PortZ}(h1:beforeZ b a=false) (h2:beforeZ c b=false):beforeZ c a=false:=by
 cases h3:beforeZ c a with
 | false=>rfl
 | true=>
  cases h4:beforeZ a b with
  | true=>rw[beforeZ_tot.trans _ _ _ h3 h4]at h2;cases h2
  | false=>rw[beforeZ_tot.tot _ _ h4 h1]at h3;rw[h3]at h2;cases h2
theorem loP_le (a b:PortZ):beforeZ (hiP a b) (loP a b)=false:=by
 unfold hiP loP
 cases h:beforeZ b a with
 | true=>simp[beforeZ_tot.asymm h]
 | false=>simp[h]
theorem loP_ne {a b:PortZ}(h:a≠b):beforeZ (loP a b) (hiP a b)=true:=by
 unfold hiP loP
 cases h2:beforeZ b a with
 | true=>simp[h2]
 | false=>
  cases h3:beforeZ a b with
  | true=>simp[h3]
  | false=>exact absurd (beforeZ_tot.tot _ _ h3 h2) h
structure RootP (xs:List PipeZ) (f:PortZ->PortZ):Prop where
 le:∀p,beforeZ p (f p)=false
 idem:∀p,f (f p)=f p
 pipe:∀x∈xs,f x.1=f x.2
 closed:∀C:PortZ->Prop,(∀x∈xs,C x.1↔C x.2)->∀p,C p↔C (f p)
theorem merge_root {xs:List PipeZ}{f:PortZ->PortZ}(h:RootP xs f) (x:PipeZ):RootP (xs++[x]) (mergeF f x):=by
 have hl:=loP_le (f x.1) (f x.2)
 have ho:=hiP_or (f x.1) (f x.2)
 have hlo:f (loP (f x.1) (f x.2))=loP (f x.1) (f x.2):=by
  rcases ho with⟨_,e⟩|⟨_,e⟩<;>rw[e,h.idem]
 refine⟨fun p=>?_,fun p=>?_,fun y hy=>?_,fun C hC p=>?_⟩
 ·unfold mergeF
  split
  ·rename_i e
   have:=h.le p
   rw[e]at this
   exact leZ_trans hl this
  ·exact h.le p
 ·unfold mergeF
  by_cases e:f p=hiP (f x.1) (f x.2)
  ·rw[if_pos e,hlo]
   split<;>rfl
  ·rw[if_neg e,h.idem,if_neg e]
 ·rcases List.mem_append.1 hy with hy | hy
  ·unfold mergeF
   rw[h.pipe y hy]
  ·simp only[List.mem_singleton]at hy
   subst hy
   unfold mergeF
   rcases ho with⟨e1,e2⟩|⟨e1,e2⟩
   ·rw[e1,e2,if_pos rfl]
    split
    ·rfl
    ·rfl
   ·rw[e1,e2,if_pos (rfl:f y.2=f y.2)]
    split
    ·rfl
    ·rfl
 ·have h1:=h.closed C (fun y hy=>hC y (by simp[hy]))
  have hx:=hC x (by simp)
  unfold mergeF
  by_cases e:f p=hiP (f x.1) (f x.2)
  ·rw[if_pos e,h1 p,e]
   rcases ho with⟨e1,e2⟩|⟨e1,e2⟩
   ·rw[e1,e2,<- h1,<- h1,hx]
   ·rw[e1,e2,<- h1,<- h1,hx]
  ·rw[if_neg e]
   exact h1 p
theorem rootF_ok (xs:List PipeZ):RootP xs (rootF xs):=by
 have:∀n,RootP (xs.take n) (rootF (xs.take n)):=by
  intro n
  induction n with
  | zero=>exact⟨fun p=>beforeZ_tot.irr p,fun p=>rfl,by simp,fun C _ p=>Iff.rfl⟩
  | succ n ih=>
   cases h:xs[n]? with
   | none=>
    rw[List.take_add_one,h]
    simpa using ih
   | some x=>
    rw[rootF_take h,List.take_add_one,h]
    exact merge_root ih x
 have h:=this xs.length
 rwa [List.take_length]at h
def portsK:Nat->List (List UInt8)
 | 0=>[[49]]
 | 1=>[[50],[52]]
 | 2=>[[49],[49,50],[49,52],[50],[51],[52],[53]]
 | 3=>[[49],[49,52],[50],[51],[52],[53]]
 | 4=>[[49],[49,50],[50],[51]]
 | 5=>[[49],[49,48],[50],[51]]
 | 6=>[[49],[50],[51]]
 | 7=>[[49],[50],[51]]
 | 8=>[[49],[49,49],[50]]
 | 9=>[[49],[49,49],[50]]
 | 10=>[[49],[50],[51]]
 | 11=>[[49],[50]]
 | 12=>[[49],[49,50],[50],[51]]
 | 13=>[[49],[49,50],[50],[51]]
 | _=>[]
theorem k_cases {Q:Nat->Prop}(h:Q 0∧Q 1∧Q 2∧Q 3∧Q 4∧Q 5∧Q 6∧Q 7∧Q 8∧Q 9∧Q 10∧Q 11∧Q 12∧Q 13):∀k,k<14->Q k:=by
 obtain⟨h0,h1,h2,h3,h4,h5,h6,h7,h8,h9,h10,h11,h12,h13⟩:=h
 intro k hk
 have:k=0∨k=1∨k=2∨k=3∨k=4∨k=5∨k=6∨k=7∨k=8∨k=9∨k=10∨k=11∨k=12∨k=13:=by omega
 rcases this with rfl | rfl | rfl | rfl | rfl | rfl | rfl | rfl | rfl | rfl | rfl | rfl | rfl | rfl<;>assumption
theorem portsK_sorted (k:Nat):(portsK k).Pairwise fun a b=>ltB a b=true:=by
 by_cases hk:k<14
 ·revert k
  refine k_cases ⟨?_,?_,?_,?_,?_,?_,?_,?_,?_,?_,?_,?_,?_,?_⟩<;>decide
 ·unfold portsK
  split<;>first | omega | simp
theorem portsK_len (k:Nat):(portsK k).length<=7:=by
 unfold portsK
 split<;>simp
theorem portsK_short (k:Nat):∀t∈portsK k,t.length<=2:=by
 by_cases hk:k<14
 ·revert k
  refine k_cases ⟨?_,?_,?_,?_,?_,?_,?_,?_,?_,?_,?_,?_,?_,?_⟩<;>decide
 ·unfold portsK
  split<;>first | omega | simp
theorem hasK_mem (k:Nat) (t:List UInt8):hasK k t=true↔t∈portsK k:=by
 by_cases hk:k<14
 ·revert k
  refine k_cases ⟨?_,?_,?_,?_,?_,?_,?_,?_,?_,?_,?_,?_,?_,?_⟩<;>(simp[hasK,rolesK,portsK]<;>grind)
 ·have h1:rolesK k=[]:=by
   unfold rolesK
   split<;>first | omega | rfl
  have h2:portsK k=[]:=by
   unfold portsK
   split<;>first | omega | rfl
  simp[hasK,h1,h2]
def portsOf (ps:List Prt) (i:Nat):List PortZ:=match ps[i]? with
 | some p=>(portsK p.kind.toNat).map fun t=>((i:Int),t)
 | none=>[]
def allN (ps:List Prt) (n:Nat):List PortZ:=(List.range n).flatMap (portsOf ps)
def allP (ps:List Prt):List PortZ:=allN ps ps.length
theorem allN_succ (ps:List Prt) (n:Nat):allN ps (n+1)=allN ps n++portsOf ps n:=by simp[allN,List.range_succ]
theorem portsOf_len (ps:List Prt) (i:Nat):(portsOf ps i).length<=7:=by
 unfold portsOf
 split
 ·rw[List.length_map];exact portsK_len _
 ·simp
theorem allN_len (ps:List Prt):∀n,(allN ps n).length<=7*n
 | 0=>by simp[allN]
 | n+1=>by
  have:=allN_len ps n
  have:=portsOf_len ps n
  rw[allN_succ,List.length_append]
  omega
theorem mem_portsOf {ps:List Prt}{i:Nat}{q:PortZ}:q∈portsOf ps i↔∃p,ps[i]?=some p∧q.1=i∧q.2∈portsK p.kind.toNat:=by
 unfold portsOf
 cases h:ps[i]? with
 | none=>simp
 | some p=>
  simp only[List.mem_map,Option.some.injEq]
  constructor
  ·rintro⟨t,ht,rfl⟩
   exact⟨p,rfl,rfl,ht⟩
  ·rintro⟨_,rfl,h1,h2⟩
   exact⟨q.2,h2,by rw[<- h1]⟩
theorem mem_allN {ps:List Prt}{n:Nat}{q:PortZ}:q∈allN ps n↔∃i p,i<n∧ps[i]?=some p∧q.1=i∧q.2∈portsK p.kind.toNat:=by
 simp only[allN,List.mem_flatMap,List.mem_range,mem_portsOf]
 constructor
 ·rintro⟨i,hi,p,h⟩;exact⟨i,p,hi,h⟩
 ·rintro⟨i,p,hi,h⟩;exact⟨i,hi,p,h⟩
theorem mem_allP {ps:List Prt}{q:PortZ}:q∈allP ps↔inPort ps q=true∧hasPort ps q=true:=by
 unfold allP
 rw[mem_allN]
 unfold inPort hasPort
 constructor
 ·rintro⟨i,p,hi,hp,h1,h2⟩
  refine⟨by simp;omega,?_⟩
  rw[h1,Int.toNat_natCast,hp]
  simpa [hasK_mem]using h2
 ·rintro⟨h1,h2⟩
  simp only[decide_eq_true_eq]at h1
  cases hp:ps[q.1.toNat]? with
  | none=>rw[hp]at h2;simp at h2
  | some p=>
   rw[hp]at h2
   simp only[Option.any_some,hasK_mem]at h2
   exact⟨q.1.toNat,p,by omega,hp,by omega,h2⟩
theorem allN_sorted (ps:List Prt):∀n,(allN ps n).Pairwise fun a b=>beforeZ a b=true
 | 0=>by simp[allN]
 | n+1=>by
  rw[allN_succ,List.pairwise_append]
  refine⟨allN_sorted ps n,?_,fun a ha b hb=>?_⟩
  ·unfold portsOf
   split
   ·rw[List.pairwise_map]
    refine (portsK_sorted _).imp ?_
    intro a b hab
    simp[beforeZ,lexB,hab]
   ·simp
  ·obtain⟨i,p,hi,_,h1,_⟩:=mem_allN.1 ha
   obtain⟨p2,_,h2,_⟩:=mem_portsOf.1 hb
   unfold beforeZ lexB
   rw[if_neg (by omega)]
   simp
   omega
def netsF (f:PortZ->PortZ) (all:List PortZ):List (List PortZ):=(all.filter fun r=>f r==r).map fun r=>all.filter fun q=>f q==r
def netsZ (c:Cir):List (List PortZ):=netsF (rootF c.pipes) (allP c.parts)
theorem root_all {c:Cir}(h:CirR c) {p:PortZ}:p∈allP c.parts↔rootF c.pipes p∈allP c.parts:=by
 refine (rootF_ok c.pipes).closed (fun q=>q∈allP c.parts) (fun x hx=>?_) p
 obtain⟨a1,a2⟩:=h.inp x hx
 obtain⟨b1,b2⟩:=h.has x hx
 exact⟨fun _=>mem_allP.2 ⟨a2,b2⟩,fun _=>mem_allP.2 ⟨a1,b1⟩⟩
structure PassP where
 to:List UInt8
 src:List (List UInt8)
 all:Bool
 deriving DecidableEq
def manyK:Nat->Nat
 | 2=>2 | 3=>2 | 4=>2 | 5=>2 | 6=>2 | 7=>2 | 12=>2 | 13=>2
 | _=>1
def passK (k pos:Nat):List PassP:=
 if k=2∨k=3 then [⟨if pos=1 then [52] else [50],[[49]],false⟩]
 else if k=4∨k=6∨k=7∨k=12∨k=13 then (if pos=1 then [⟨[50],[[49]],false⟩] else [])
 else if k=5 then (if pos=1 then [] else [⟨[50],[[49]],false⟩])
 else if k=8∨k=9 then [⟨[50],[[49],[49,49]],k==9⟩]
 else if k=10∨k=11 then [⟨[50],[[49]],false⟩]
 else []
def roleK (k:Nat) (t:List UInt8):Option Nat:=(rolesK k).findIdx? fun l=>l.any (t==·)
def plusK:Nat->List UInt8
 | 2=>[49,52] | 3=>[49,52] | 4=>[49,50] | 5=>[49,48] | 12=>[49,50] | 13=>[49,50]
 | _=>[]
def minusK:Nat->List UInt8
 | 2=>[49,50]
 | _=>[]
def kindOf (ps:List Prt) (i:Nat):Nat:=match ps[i]? with
 | some p=>p.kind.toNat
 | none=>0
def netW (nets:List (List PortZ)) (p:PortZ):Nat:=nets.findIdx fun l=>l.any (p==·)
def pairZ (nets:List (List PortZ)) (a b:Nat) (t:List UInt8):Bool:=
 decide ((nets.getD (netW nets ((a:Int),t)) []).length=2)&&(nets.getD (netW nets ((a:Int),t)) []).any (((b:Int),t)==·)
def drvB (ps:List Prt) (nets:List (List PortZ)) (i v:Nat):Bool:=(kindOf ps v==2||kindOf ps v==3)&&(pairZ nets i v [50]&&pairZ nets i v [52])
def valveZ (ps:List Prt) (nets:List (List PortZ)) (i:Nat):Option Nat:=(List.range ps.length).findIdx? (drvB ps nets i)
abbrev Drv:=Nat×Nat
def cylsN (ps:List Prt) (n:Nat):List Nat:=(List.range n).filter fun i=>kindOf ps i==1
def drvE (ps:List Prt) (nets:List (List PortZ)):Int:=
 if ((cylsN ps ps.length).any fun i=>(valveZ ps nets i).isNone)=true then 14 else if cylsN ps ps.length=[] then 13 else 0
def drvN (ps:List Prt) (nets:List (List PortZ)) (n:Nat):List Drv:=(cylsN ps n).map fun i=>(i,(valveZ ps nets i).getD 0)
def drivenZ (d:List Drv) (i:Nat):Option Nat:=d.findIdx? fun q=>q.2==i
def countsZ (ps:List Prt) (l:List PortZ):Bool:=decide (1<l.length)||match l with
 | q::_=>roleK (kindOf ps q.1.toNat) q.2==some 3
 | []=>false
structure Gift where
 part:Nat
 pos:Nat
 pass:PassP
 deriving DecidableEq
def givenZ (ps:List Prt) (x:PortZ):List Gift:=(List.range (manyK (kindOf ps x.1.toNat))).flatMap fun pos=>((passK (kindOf ps x.1.toNat) pos).filter fun y=>y.to==x.2).map fun y=>⟨x.1.toNat,pos,y⟩
def giftsZ (ps:List Prt) (d:List Drv) (x:PortZ):List Gift:=if (drivenZ d x.1.toNat).isSome=true then [] else givenZ ps x
def takesZ (ps:List Prt) (nets:List (List PortZ)) (order:List Nat) (g:Gift) (t:List UInt8):Bool:=
 countsZ ps (nets.getD (netW nets ((g.part:Int),t)) []) && !(order.any (netW nets ((g.part:Int),t)==·))
def readyZ (ps:List Prt) (d:List Drv) (nets:List (List PortZ)) (order:List Nat) (net:Nat):Bool:=
 (nets.getD net []).all fun x=>(giftsZ ps d x).all fun g=>g.pass.src.all fun t=>!takesZ ps nets order g t
def countsI (ps:List Prt) (nets:List (List PortZ)) (i:Nat):Bool:=countsZ ps (nets.getD i [])
def restZ (ps:List Prt) (nets:List (List PortZ)) (order:List Nat):List Nat:=(List.range nets.length).filter fun i=>countsI ps nets i && !(order.any (i==·))
def nextZ (ps:List Prt) (d:List Drv) (nets:List (List PortZ)) (order:List Nat):Option Nat:=(restZ ps nets order).find? (readyZ ps d nets order)
def orderN (ps:List Prt) (d:List Drv) (nets:List (List PortZ)):Nat->List Nat
 | 0=>[]
 | n+1=>match nextZ ps d nets (orderN ps d nets n) with
  | some i=>orderN ps d nets n++[i]
  | none=>orderN ps d nets n
def manyC (ps:List Prt) (nets:List (List PortZ)):Nat:=(restZ ps nets []).length
structure Pln where
 ps:List Prt
 nets:List (List PortZ)
 drives:List Drv
 order:List Nat
def planE (c:Cir):Int:=
 if cirE c≠0 then cirE c
 else if drvE c.parts (netsZ c)≠0 then drvE c.parts (netsZ c)
 else if (orderN c.parts (drvN c.parts (netsZ c) c.parts.length) (netsZ c) (manyC c.parts (netsZ c))).length=manyC c.parts (netsZ c) then 0 else 20
def planZ (c:Cir):Pln:=⟨c.parts,netsZ c,drvN c.parts (netsZ c) c.parts.length,orderN c.parts (drvN c.parts (netsZ c) c.parts.length) (netsZ c) (manyC c.parts (netsZ c))⟩
def buttN (ps:List Prt) (n:Nat):List Nat:=(List.range n).filter fun i=>kindOf ps i==7
def valvN (ps:List Prt) (d:List Drv) (n:Nat):List Nat:=(List.range n).filter fun i=>(plusK (kindOf ps i) != [])&&(drivenZ d i).isNone
def Pln.butt (p:Pln):List Nat:=buttN p.ps p.ps.length
def Pln.valv (p:Pln):List Nat:=valvN p.ps p.drives p.ps.length
def Pln.first (p:Pln):Nat:=2*p.drives.length+p.butt.length
def varE (n:Int):Expr:=⟨1,n,[]⟩
def notE (x:Expr):Expr:=⟨2,0,[x]⟩
def nulE:Expr:=⟨0,0,[]⟩
def sevE (op:Int):List Expr->Expr
 | []=>nulE
 | [x]=>x
 | l=>⟨op,0,l⟩
def Pln.gate (p:Pln) (i:Nat) (t:List UInt8):Expr:=match p.order.findIdx? (netW p.nets ((i:Int),t)==·) with
 | some k=>varE (p.first+k:Nat)
 | none=>nulE
def Pln.line (p:Pln) (i:Nat):Option Nat:=match p.ps[i]? with
 | none=>none
 | some x=>
  if x.kind=7 then some (2*p.drives.length+p.butt.idxOf i)
  else if x.kind=6 then some (2*(p.drives.findIdx fun d=>(p.ps.getD d.1 x).name==x.name.dropLast)+(if x.name.getLast? = some 49 then 1 else 0))
  else if i∈p.valv then some (p.first+p.order.length+p.valv.idxOf i)
  else none
def Pln.term (p:Pln) (g:Gift):Expr:=
 sevE 3 ((if 1<manyK (kindOf p.ps g.part) then [if g.pos=0 then notE (varE ((p.line g.part).getD 0:Nat)) else varE ((p.line g.part).getD 0:Nat)] else []) ++
  (if g.pass.all=true then g.pass.src.map (p.gate g.part) else [sevE 4 (g.pass.src.map (p.gate g.part))]))
def Pln.fedL (p:Pln) (l:List PortZ):List Expr:=l.flatMap fun x=>(if kindOf p.ps x.1.toNat=0 then [⟨0,1,[]⟩] else [])++(giftsZ p.ps p.drives x).map p.term
def Pln.fed (p:Pln) (net:Nat):Expr:=sevE 4 (p.fedL (p.nets.getD net []))
def decN (n:Nat):List UInt8:=Go.Lib.decDigits n
def Pln.netS (p:Pln) (net:Nat):Signal:=⟨110::decN net,0,p.fed net,nulE,0,false⟩
def Pln.movS (p:Pln) (i:Nat):Signal:=
 ⟨118::decN i,if kindOf p.ps i=12 then 2 else 1,p.gate i (plusK (kindOf p.ps i)),
  if kindOf p.ps i=12 then nulE else if minusK (kindOf p.ps i)≠[] then p.gate i (minusK (kindOf p.ps i)) else notE (p.gate i (plusK (kindOf p.ps i))),
  if kindOf p.ps i=12 then ((p.ps[i]?).map (·.delay)).getD 0 else 0,false⟩
def Pln.sprS (p:Pln) (v:Nat):Signal:=⟨119::decN v,0,notE (p.gate v [49,52]),nulE,0,false⟩
def Pln.sig0 (p:Pln):List Signal:=p.order.map p.netS++p.valv.map p.movS
def Pln.drvS (p:Pln) (q:List Int×List Int×List Signal) (d:Drv):List Int×List Int×List Signal:=
 (q.1++[(p.gate d.2 [49,52]).index],
  q.2.1++[if kindOf p.ps d.2=2 then (p.gate d.2 [49,50]).index else (p.first+q.2.2.length:Nat)],
  if kindOf p.ps d.2=2 then q.2.2 else q.2.2++[p.sprS d.2])
def Pln.pil (p:Pln) (n:Nat):List Int×List Int×List Signal:=(p.drives.take n).foldl p.drvS ([],[],p.sig0)
def Pln.ctl (p:Pln):Control:=
 ⟨p.drives.length,p.butt.map fun i=>((p.ps[i]?).map (·.name)).getD [],(p.pil p.drives.length).2.2,(p.pil p.drives.length).1,(p.pil p.drives.length).2.1⟩
def ibRen:Go.Shelf.Ren:=⟨fun | 137=>205 | 217=>292 | 266=>356 | n=>n,fun | 3=>3 | 5=>5 | 9=>9 | n=>n,fun n=>n⟩
theorem ibLays:Go.Proofs.Lays.n137 Tryz.prog ibRen:={ 
 mixed:=by kernel_rfl,
 f137:=by kernel_rfl,
 f217:=by kernel_rfl,
 f266:=by kernel_rfl,
 t3:=Tryz.underlying3,
 a3:=Tryz.isAgg3,
 z3:=Tryz.sizeOf3,
 v3:=Tryz.zeroValue3,
 t5:=Tryz.underlying5,
 a5:=Tryz.isAgg5,
 z5:=Tryz.sizeOf5,
 v5:=Tryz.zeroValue5,
 t9:=Tryz.underlying9,
 a9:=Tryz.isAgg9,
 z9:=Tryz.sizeOf9,
 v9:=Tryz.zeroValue9 }
theorem IndexByte_fn (s:List UInt8) (n:Int):CallFn Tryz.prog 205 [.dat (.str s),.dat (.int .u8 n)] (aI (Go.Lib.indexByte s n.toNat.toUInt8)):=by
 refine⟨⟨_,Tryz.func205,by kernel_rfl,by kernel_rfl⟩,fun x args H0 hi hd=>?_⟩
 obtain⟨u,v,e,hu,hv⟩:=Ds.two hd
 simp only[D,RdL]at hu hv
 subst hu hv
 have ha:args=#[.string ⟨s.toArray⟩,.int .u8 n]:=by
  rcases args with⟨l⟩
  simp only at e
  rw[e]
 subst ha
 refine (Any.strings_IndexByte ibLays ⟨s.toArray⟩ n x.w).mono ?_
 rintro _ _ ⟨rfl,rfl⟩
 refine⟨x,_,_,[],rfl,rfl,.refl x,by simpa using hi,?_,rfl,rfl⟩
 simp only[D,RdL]
def signsT:List UInt8:=[43,45,42,47,40,41,91,93,123,125,60,62,61,44,59,58,124,38,33,35,46]
def clsG (n:Nat):Int:=if 65<=n∧n<=90 then 1 else if 97<=n∧n<=122 then 1 else if 48<=n∧n<=57 then 2 else if n=95 then 3 else if n=32 then 5 else if n=10 then 5 else if 0<=Go.Lib.indexByte signsT n.toUInt8 then 4 else 0
theorem clsG_one (n:Nat):clsG n=1↔letC n=true:=by
 unfold clsG letC
 simp only[Bool.or_eq_true,decide_eq_true_eq]
 (repeat' split)<;>omega
theorem clsG_inn (n:Nat):(clsG n=1∨clsG n=2∨clsG n=3)↔innC n=true:=by
 unfold clsG innC letC digQ
 simp only[Bool.or_eq_true,decide_eq_true_eq]
 (repeat' split)<;>omega
theorem rngG_tab:tabF 1=some [.int .u8 65,.int .u8 90,.int .u8 1,.int .u8 97,.int .u8 122,.int .u8 1,.int .u8 48,.int .u8 57,.int .u8 2,.int .u8 95,.int .u8 95,.int .u8 3,.int .u8 32,.int .u8 32,.int .u8 5,.int .u8 10,.int .u8 10,.int .u8 5]:=rfl
theorem classG_fn (n:Nat) (hn:n<256):CallFn Tryz.prog 234 [.dat (.int .u8 n)] (aI (clsG n)):=by
 have hib:=IndexByte_fn signsT n
 rw[Int.toNat_natCast]at hib
 refine callFz_of Tryz.func234 rfl Tryz.ntmps234 (rs:=[.tmp 2]) rfl (by kernel_rfl) (by simp) (by kernel_rfl) ?_
 simp
 refine V.forI (σ:=Unit) 6 [0] (by simp;exact rfl) (fun i _=>[(2,aI 0),(5,aI i)]) (fun _ _=>[]) (fun i _=>(1<=i->¬(65<=n∧n<=90))∧(2<=i->¬(97<=n∧n<=122))∧(3<=i->¬(48<=n∧n<=57))∧(4<=i->n≠95)∧(5<=i->n≠32)∧(6<=i->n≠10)) () (by simp) (by simp) ⟨by simp;exact rfl,by simp⟩ ?_ ?_
 ·rintro i-hi ⟨h1,h2,h3,h4,h5,h6⟩
  have:i=0∨i=1∨i=2∨i=3∨i=4∨i=5:=by omega
  rcases this with rfl | rfl | rfl | rfl | rfl | rfl
  all_goals
   simp[rngG_tab]
   unfold clsG
   simp only[Nat.zero_le,Nat.le_refl,forall_const,Nat.reduceLeDiff]at h1 h2 h3 h4 h5 h6
   refine⟨fun a b=>?_,fun a=>?_⟩
   ·(repeat' split)<;>omega
   ·omega
 ·rintro-⟨h1,h2,h3,h4,h5,h6⟩
  simp
  refine hib.s ?_
  unfold clsG
  rw[if_neg (h1 (by omega)),if_neg (h2 (by omega)),if_neg (h3 (by omega)),if_neg (h4 (by omega)),if_neg (h5 (by omega)),if_neg (h6 (by omega))]
  by_cases h:0<=Go.Lib.indexByte signsT n.toUInt8
  ·simp[h]
  ·simp[h]
def runN (s:List UInt8):Nat:=s.findIdx fun b=>!innC b.toNat
abbrev clsK3:List (List L):=[[.int .i64 1],[.int .i64 2],[.int .i64 3]]
theorem runG_fn (s:List UInt8) (hs:s.length<=1000000000):CallFn Tryz.prog 235 [aT s,.dat (.sl clsK3)] (aI (runN s)):=by
 refine callFz_of Tryz.func235 rfl Tryz.ntmps235 (rs:=[.tmp 4]) rfl (by kernel_rfl) (by simp) (by kernel_rfl) ?_
 simp
 refine V.forI (σ:=Unit) s.length [0,1,10] (by simp;exact rfl) (fun i _=>[(4,aI 0),(11,aI i)]) (fun _ _=>[]) (fun i _=>∀j (hj:j<s.length),j<i->innC s[j].toNat=true) () (by simp) (by simp) ⟨by simp;exact rfl,by simp⟩ ?_ ?_
 ·rintro i-hi hI
  obtain⟨b,hb1⟩:∃b,s[i]=b:=⟨_,rfl⟩
  have hbo:s[i]?=some b:=by rw[List.getElem?_eq_getElem hi,hb1]
  have hcf:=classG_fn b.toNat b.toNat_lt
  have hci:=clsG_inn b.toNat
  have hstop:innC b.toNat=false->runN s=i:=fun h=>by
   unfold runN
   rw[List.findIdx_eq hi]
   refine⟨by rw[hb1,h];rfl,fun j hj=>?_⟩
   rw[hI j (by omega) hj]
   rfl
  have hgo:innC b.toNat=true->∀j (hj:j<s.length),j<i+1->innC s[j].toNat=true:=fun h j hj hji=>by
   by_cases e:j=i
   ·subst e
    rw[hb1,h]
   ·exact hI j hj (by omega)
  generalize clsG b.toNat=k at *
  simp[hi]
  refine V.forI (σ:=Unit) 3 [0,1,4,5,10,11,14,15] (by simp;exact rfl) (fun j _=>[(6,aB (decide (1<=k∧k<=j))),(16,aI j)]) (fun _ _=>[]) (fun _ _=>True) () trivial (by simp;omega) ⟨by simp;exact rfl,by simp⟩ ?_ ?_
  ·rintro j-hj -
   have:j=0∨j=1∨j=2:=by omega
   rcases this with rfl | rfl | rfl
   all_goals
    simp[hbo,hb1,hi]
    refine GCall.fn (aI k) (fun h=>⟨h,hcf⟩) ?_
    try simp
    rw[Bool.eq_iff_iff]
    simp only[Bool.or_eq_true,Bool.and_eq_true,decide_eq_true_eq,beq_iff_eq]
    omega
  ·rintro - -
   simp
   by_cases hk:1<=k∧k<=3
   ·have h1:=hci.1 (by omega)
    simp[hk]
    exact⟨by omega,by omega,hgo h1⟩
   ·have h1:innC b.toNat=false:=by
     cases h:innC b.toNat with
     | false=>rfl
     | true=>have:=hci.2 h;omega
    have hk2:¬(1<=k∧k<=3):=hk
    rw[hstop h1]
    simp[hk2]
    try omega
 ·rintro-hI
  have:runN s=s.length:=by
   unfold runN
   rw[List.findIdx_eq_length]
   intro b hb
   obtain⟨j,hj,e⟩:=List.getElem_of_mem hb
   rw[<- e,hI j hj hj]
   rfl
  rw[this]
  simp
theorem runN_all (s:List UInt8):runN s=s.length↔(s.all fun b=>innC b.toNat)=true:=by
 unfold runN
 rw[List.findIdx_eq_length,List.all_eq_true]
 constructor
 ·intro h b hb
  simpa using h b hb
 ·intro h b hb
  simp[h b hb]
theorem WordG_fn (s:List UInt8) (hs:s.length<=1000000000):CallFn Tryz.prog 164 [aT s] (aI (wordE s)):=by
 refine callFz_of Tryz.func164 rfl Tryz.ntmps164 (rs:=[.tmp 2]) rfl (by kernel_rfl) (by simp) (by kernel_rfl) ?_
 have hrf:=runG_fn s hs
 have hra:=runN_all s
 cases s with
 | nil=>
  unfold wordE
  simp
  refine GCall.fn .undef (fun h=>absurd h (by simp)) ?_
  simp
  refine GCall.fn .undef (fun h=>absurd h (by simp)) ?_
  simp
 | cons b r=>
  have hcf:=classG_fn b.toNat b.toNat_lt
  have hc1:=clsG_one b.toNat
  have hw:wordE (b::r)=if letC b.toNat=false then 3 else if ((b::r).all fun b=>innC b.toNat)=false then 3 else if 24<r.length+1 then 17 else 0:=by
   simp[wordE]
  rw[hw]
  simp only[List.length_cons]at hs hra hrf
  generalize runN (b::r)=n at *
  generalize ((b::r).all fun b=>innC b.toNat)=a at *
  generalize letC b.toNat=d at *
  generalize clsG b.toNat=k at *
  simp
  refine GCall.fn (aI k) (fun _=>⟨trivial,hcf⟩) ?_
  simp
  by_cases hk:k=1
  ·have hd:d=true:=hc1.1 hk
   subst hd
   simp[hk]
   refine GCall.fn (aI n) (fun _=>⟨trivial,hrf⟩) ?_
   simp
   by_cases hn:n=r.length+1
   ·have ha:=hra.1 hn
    subst ha
    by_cases h24:24<r.length+1
    ·simp[hn,h24]
     omega
    ·simp[hn,h24]
     omega
   ·have ha:a=false:=by
     cases a with
     | false=>rfl
     | true=>exact absurd (hra.2 rfl) hn
    subst ha
    have hn2:¬((n:Int)=(r.length:Int)+1):=by omega
    simp[hn2]
    try omega
  ·have hd:d=false:=by
    cases d with
    | false=>rfl
    | true=>exact absurd (hc1.2 rfl) hk
   subst hd
   simp[hk]
   refine GCall.fn .undef (fun h=>absurd h (by simp)) ?_
   simp
   exact⟨hk,fun h=>absurd h hk⟩
theorem find_bad (k:Int) (h:¬(0<=k∧k<14)):∃R:List A,R.length=12∧R.all cellB=true∧CallFn Tryz.prog 163 [aI k] (.tuple [.agg R,aI 1]):=by
 refine⟨[.dat (.str []),.dat (.str []),.dat (.sl []),.dat (.sl []),.dat (.sl []),.dat (.sl []),.dat (.sl []),.dat (.str []),.dat (.str []),aI 0,.nilf,.nilf],rfl,rfl,?_⟩
 refine callFz_of Tryz.func163 rfl Tryz.ntmps163 (rs:=[.cell 2 235,.tmp 3]) rfl (by kernel_rfl) (by simp) (by kernel_rfl) ?_
 simp
 intro b2
 exact fun h1 h2=>absurd ⟨h1,h2⟩ h
theorem partG_fn (p:Prt) (hs:p.name.length<=1000000000):CallFn Tryz.prog 98 [.record (encPa p)] (aI (partE p)):=by
 obtain⟨k,n,d⟩:=p
 have hw:=WordG_fn n hs
 have hf:∃(R:List A) (z:Int),R.length=12∧R.all cellB=true∧CallFn Tryz.prog 163 [aI k] (.tuple [.agg R,aI z])∧z=if 0<=k∧k<14 then 0 else 1:=by
  by_cases hk:0<=k∧k<14
  ·obtain⟨n,rfl⟩:∃n:Nat,k=n:=⟨k.toNat,by omega⟩
   have h1:n<14:=by omega
   exact⟨rowOf n,0,row_len n h1,row_cell n h1,find_fn n h1,by rw[if_pos hk]⟩
  ·obtain⟨R,a,b,c⟩:=find_bad k hk
   exact⟨R,1,a,b,c,by rw[if_neg hk]⟩
 obtain⟨R,z,hl,hcell,hf,hz⟩:=hf
 refine callFz_cut 2 Tryz.func98 rfl Tryz.ntmps98 (rs:=[.tmp 2]) rfl (by kernel_rfl) (by simp) (by kernel_rfl) ?_
 unfold partE
 by_cases hk:0<=k∧k<14
 ·rw[if_pos hk]at hz
  subst hz
  simp
  refine hf.s ?_
  simp
  intro b3
  refine⟨⟨hl,by omega,fun x hx=>?_⟩,?_⟩
  ·have hx2:=List.all_eq_true.1 hcell x hx
   cases x<;>exact hx2
  ·refine V.cutV [(1,.rptr [.int .i64 k,.str n,.int .i64 d]),(2,aI 0)] (Hs:=[]) (by simp) (by simp) (V.of_vc ?_)
   simp[hk]
   refine hw.s ?_
   by_cases hwz:wordE n=0
   ·simp[hwz]
    by_cases h12:k=12
    ·subst h12
     by_cases ha:d<1
     ·simp[ha]
      omega
     ·by_cases hb:1000000<d
      ·simp[ha,hb]
      ·simp[ha,hb]
    ·by_cases ha:d=0
     ·simp[h12,ha]
      omega
     ·simp[h12,ha]
      omega
   ·simp[hwz]
    intro h
    have:=h hk.1
    omega
 ·rw[if_neg hk]at hz
  subst hz
  simp[hk]
  refine hf.s ?_
  simp
  refine⟨⟨hl,by omega,fun x hx=>?_⟩,fun h1 h2=>absurd ⟨h1,h2⟩ hk⟩
  have hx2:=List.all_eq_true.1 hcell x hx
  cases x<;>exact hx2
def cmpZ (a b:PortZ):Int:=if cmpI a.1 b.1≠0 then cmpI a.1 b.1 else Go.Lib.compareBytes a.2 b.2
def cmpZZ (a b:PipeZ):Int:=if cmpZ a.1 b.1≠0 then cmpZ a.1 b.1 else cmpZ a.2 b.2
theorem compareZ_fn (a b:PortZ):CallFn Tryz.prog 100 [.record (encPo a),.record (encPo b)] (aI (cmpZ a b)):=by
 obtain⟨a1,a2⟩:=a
 obtain⟨b1,b2⟩:=b
 have h1:=cmpI_fn a1 b1
 have h2:=Compare_fnT a2 b2
 have h3:=cmpOr_fn (cmpI a1 b1) (Go.Lib.compareBytes a2 b2)
 refine callFz_of Tryz.func100 rfl Tryz.ntmps100 (rs:=[.tmp 4]) rfl (by kernel_rfl) (by simp) (by kernel_rfl) ?_
 simp
 refine V.drawX (fun t=>if t=9 then some (.fn (aI (cmpI a1 b1))) else if t=14 then some (.fn (aI (Go.Lib.compareBytes a2 b2))) else if t=16 then some (.fn (aI (cmpZ (a1,a2) (b1,b2)))) else none) (by kernel_rfl) (by kernel_rfl) (by simp) ?_
 simp
 exact⟨h1,h2,h3⟩
theorem pipesZ_fn (a b:PipeZ):CallFn Tryz.prog 101 [.record (encPi a),.record (encPi b)] (aI (cmpZZ a b)):=by
 obtain⟨⟨a1,a2⟩,a3,a4⟩:=a
 obtain⟨⟨b1,b2⟩,b3,b4⟩:=b
 have h1:=compareZ_fn (a1,a2) (b1,b2)
 have h2:=compareZ_fn (a3,a4) (b3,b4)
 have h3:=cmpOr_fn (cmpZ (a1,a2) (b1,b2)) (cmpZ (a3,a4) (b3,b4))
 refine callFz_of Tryz.func101 rfl Tryz.ntmps101 (rs:=[.tmp 4]) rfl (by kernel_rfl) (by simp) (by kernel_rfl) ?_
 simp
 refine V.drawX (fun t=>if t=9 then some (.fn (aI (cmpZ (a1,a2) (b1,b2)))) else if t=14 then some (.fn (aI (cmpZ (a3,a4) (b3,b4)))) else if t=16 then some (.fn (aI (cmpZZ ((a1,a2),a3,a4) ((b1,b2),b3,b4)))) else none) (by kernel_rfl) (by kernel_rfl) (by simp) ?_
 simp
 exact⟨h1,h2,h3⟩
theorem cmpIZ_lt (a b:Int):cmpI a b<0↔a<b:=by
 unfold cmpI
 split
 ·omega
 ·split<;>omega
theorem cmpZ_lt (a b:PortZ):cmpZ a b<0↔beforeZ a b=true:=by
 unfold cmpZ beforeZ lexB
 by_cases h:a.1=b.1
 ·rw[if_pos h,if_neg (by rw[h];simp[cmpI]),cmpT_lt]
 ·have h0:cmpI a.1 b.1≠0:=by unfold cmpI;split<;>(try split)<;>omega
  rw[if_neg h,if_pos h0,cmpIZ_lt]
  simp
theorem cmpZ_zero (a b:PortZ):cmpZ a b=0↔a=b:=by
 unfold cmpZ
 by_cases h:a.1=b.1
 ·rw[if_neg (by rw[h];simp[cmpI]),cmpT_zero]
  exact⟨fun h2=>Prod.ext h h2,fun h2=>by rw[h2]⟩
 ·have h0:cmpI a.1 b.1≠0:=by unfold cmpI;split<;>(try split)<;>omega
  rw[if_pos h0]
  exact⟨fun h2=>absurd h2 h0,fun h2=>absurd (by rw[h2]) h⟩
theorem cmpZZ_lt (a b:PipeZ):cmpZZ a b<0↔earlierZ a b=true:=by
 unfold cmpZZ earlierZ lexB
 by_cases h:a.1=b.1
 ·rw[if_pos h,if_neg (by rw[h];simp[cmpZ_zero]),cmpZ_lt]
 ·rw[if_neg h,if_pos (by rw[ne_eq,cmpZ_zero];exact h),cmpZ_lt]
theorem cmpZ_gt (a b:PortZ):0<cmpZ a b↔beforeZ b a=true:=by
 unfold cmpZ beforeZ lexB
 by_cases h:a.1=b.1
 ·rw[if_pos h.symm,if_neg (by rw[h];simp[cmpI]),cmpT_eq]
  cases h1:ltB a.2 b.2 with
  | true=>rw[if_pos rfl,ltB_asymm h1];simp
  | false=>cases h2:ltB b.2 a.2<;>simp
 ·have h0:cmpI a.1 b.1≠0:=by unfold cmpI;split<;>(try split)<;>omega
  rw[if_pos h0,if_neg (fun e:b.1=a.1=>h e.symm)]
  simp only[decide_eq_true_eq]
  unfold cmpI
  split<;>(try split)<;>omega
theorem findZ1_fn (p:Prt) (t:List UInt8):CallFn Tryz.prog 213 [.record (encPa p),.rptr [.str t]] (aB (p.name==t)):=by
 refine callFz_of Tryz.func213 rfl Tryz.ntmps213 (rs:=[.tmp 3]) rfl (by kernel_rfl) (by simp) (by kernel_rfl) ?_
 simp
theorem idxPZ_fn (ps:List Prt) (t:List UInt8) (hx:Sh ps) :
  CallFn Tryz.prog 77 [.dat (.sl (ps.map encPa)),.fn 213 [] [.rptr [.str t]]] (aI (idxI (findN ps t))):=by
 unfold findN
 refine callFz_of Tryz.func77 rfl Tryz.ntmps77 (rs:=[.tmp 4]) rfl (by kernel_rfl) (by simp) (by kernel_rfl) ?_
 simp
 refine V.forI (σ:=Unit) ps.length [0,1,7] (by simp;exact rfl) (fun i _=>[(8,aI i)]) (fun _ _=>[]) (fun i _=>NoF (fun p:Prt=>p.name==t) (ps.take i)) () (by simp) (by simp) ⟨by simp;exact rfl,by simp⟩ ?_ ?_
 ·rintro i-hi hI
  obtain⟨y,hy⟩:∃y,ps[i]=y:=⟨_,rfl⟩
  have h1:ps[i]?=some y:=by rw[List.getElem?_eq_getElem hi,hy]
  have hs:=findIdx_step (p:=fun p:Prt=>p.name==t) hI h1
  have hc:=findZ1_fn y t
  simp[hi,hy]
  refine hc.s ?_
  cases e:(y.name==t)
  ·simp
   exact⟨by omega,hs.1 e⟩
  ·rw[hs.2 e]
   simp
 ·rintro-hI
  rw[findIdx_none hI]
  simp
theorem findZ_fn (c:Cir) (t:List UInt8) (hx:Sh c.parts):CallFn Tryz.prog 150 [aCi c,aT t] (aI (idxI (findN c.parts t))):=by
 have h:=idxPZ_fn c.parts t hx
 refine callFz_of Tryz.func150 rfl Tryz.ntmps150 (rs:=[.tmp 4]) rfl (by kernel_rfl) (by simp) (by kernel_rfl) ?_
 simp
 refine h.s ?_
 simp
def ownI (ps:List Prt) (t:List UInt8):Int:=if ownN ps t=true then idxI (findN ps t.dropLast) else -1
theorem findN_ex {ps:List Prt}{t:List UInt8}{j:Nat}(h:findN ps t=some j):∃q,ps[j]?=some q∧q.name=t:=by
 unfold findN at h
 obtain⟨hj,h1,_⟩:=List.findIdx?_eq_some_iff_getElem.1 h
 exact⟨ps[j],List.getElem?_eq_getElem hj,by simpa using h1⟩
theorem ownI_lt (ps:List Prt) (t:List UInt8):ownI ps t<0↔ownN ps t=false:=by
 unfold ownI
 by_cases h:ownN ps t=true
 ·rw[if_pos h,h]
  unfold ownN at h
  simp only[Bool.and_eq_true]at h
  cases hf:findN ps t.dropLast with
  | none=>rw[hf]at h;simp at h
  | some j=>simp[idxI]
 ·rw[if_neg h]
  simp only[Bool.not_eq_true]at h
  simp[h]
theorem ownerZ_fn (c:Cir) (p:Prt) (hx:Sh c.parts) (hq:p.name.length<=1000) (hn:p.name≠[]):CallFn Tryz.prog 99 [aCi c,.record (encPa p)] (aI (ownI c.parts p.name)):=by
 obtain⟨pk,pn,pd⟩:=p
 simp only at hq hn ⊢
 obtain⟨q,x,rfl⟩:∃q x,pn=q++[x]:=by
  rcases List.eq_nil_or_concat pn with e | ⟨q,x,e⟩
  ·exact absurd e hn
  ·exact⟨q,x,by rw[e,List.concat_eq_append]⟩
 simp at hq
 have hfi:=findZ_fn c q hx
 have c0:=cutSuf_fn q x 48 (by omega)
 have c1:=cutSuf_fn q x 49 (by omega)
 have ho:ownN c.parts (q++[x])=((x==48||x==49)&&match findN c.parts q with
  | some j=>(c.parts[j]?).any fun q=>q.kind==1
  | none=>false):=by
  simp[ownN]
  all_goals rfl
 have hex:=@findN_ex c.parts q
 unfold ownI
 rw[ho,show (q++[x]).dropLast=q by simp]
 obtain⟨ps,l⟩:=c
 simp only at hx hfi hex ⊢
 refine callFz_of Tryz.func99 rfl Tryz.ntmps99 (rs:=[.tmp 4]) rfl (by kernel_rfl) (by simp) (by kernel_rfl) ?_
 simp
 refine c0.s ?_
 by_cases h0:x=48
 ·subst h0
  simp
  refine hfi.s ?_
  cases hf:findN ps q with
  | none=>cases hps:ps[0]?<;>simp[idxI,hps]
  | some j=>
   obtain⟨y,hy,_⟩:=hex hf
   obtain⟨hj,hy1⟩:=List.getElem?_eq_some_iff.1 hy
   by_cases hk:y.kind=1
   ·simp[idxI,hy,hy1,hj,hk]
   ·simp[idxI,hy,hy1,hj,hk]
 ·by_cases h1:x=49
  ·subst h1
   simp
   refine c1.s ?_
   simp
   refine hfi.s ?_
   cases hf:findN ps q with
   | none=>cases hps:ps[0]?<;>simp[idxI,hps]
   | some j=>
    obtain⟨y,hy,_⟩:=hex hf
    obtain⟨hj,hy1⟩:=List.getElem?_eq_some_iff.1 hy
    by_cases hk:y.kind=1
    ·simp[idxI,hy,hy1,hj,hk]
    ·simp[idxI,hy,hy1,hj,hk]
  ·simp[h0]
   refine c1.s ?_
   simp[h0,h1]
theorem indexedZ_fn (c:Cir) (a b:PortZ) (hx:Sh c.parts):CallFn Tryz.prog 92 [aCi c,.dat (.sl [encPo a,encPo b])] (aI (if inPort c.parts a=true∧inPort c.parts b=true then 0 else 2)):=by
 obtain⟨ps,l⟩:=c
 simp only at hx ⊢
 unfold inPort
 simp only[decide_eq_true_eq]
 refine callFz_of Tryz.func92 rfl Tryz.ntmps92 (rs:=[.tmp 4]) rfl (by kernel_rfl) (by simp) (by kernel_rfl) ?_
 simp
 refine V.forI (σ:=Unit) 2 [2,7,8] (by simp;exact rfl) (fun i _=>[(4,aI 0),(9,aI i)]) (fun _ _=>[]) (fun i _=>(1<=i->0<=a.1∧a.1<ps.length)∧(2<=i->0<=b.1∧b.1<ps.length)) () (by simp) (by simp) ⟨by simp;exact rfl,by simp⟩ ?_ ?_
 ·rintro i-hi ⟨hI1,hI2⟩
  have hc:i=0∨i=1:=by omega
  rcases hc with rfl | rfl
  ·simp
   intros
   omega
  ·simp
   exact⟨fun h=>by omega,fun h1 h2=>⟨hI1 (by omega),h1,h2⟩⟩
 ·rintro-⟨hI1,hI2⟩
  have:=hI1 (by omega)
  have:=hI2 (by omega)
  simp[*]
theorem portsK_le:∀k,k<14->(portsK k).Pairwise fun a b=>decide (a<=b)=true:=by decide
theorem portsK_perm:∀k,k<14->(rowTs k).flatten.Perm (portsK k):=by decide
theorem ports_eq (k:Nat) (hk:k<14):sortT (portT k)=portsK k:=by
 have h1:(sortT (portT k)).Pairwise fun a b=>decide (a<=b)=true:=by
  unfold sortT
  refine List.pairwise_mergeSort ?_ ?_ _
  ·intro a b c h1 h2
   simp only[decide_eq_true_eq]at *
   exact List.le_trans h1 h2
  ·intro a b
   simp only[Bool.or_eq_true,decide_eq_true_eq]
   exact List.le_total a b
 have h2:(sortT (portT k)).Perm (portsK k):=(List.mergeSort_perm _ _).trans ((List.mergeSort_perm _ _).trans (portsK_perm k hk))
 refine sorted_same (fun a b _ _ h3 h4=>?_) h1 (portsK_le k hk) h2
 simp only[decide_eq_true_eq]at h3 h4
 exact List.le_antisymm h3 h4
theorem portsZ_fn (p:Prt) (hk:0<=p.kind∧p.kind<14):CallFn Tryz.prog 158 [.record (encPa p)] (aTs (portsK p.kind.toNat)):=by
 obtain⟨k,n,d⟩:=p
 simp only at hk ⊢
 obtain⟨m,rfl⟩:∃m:Nat,k=m:=⟨k.toNat,by omega⟩
 have h:=ports_fn m (by omega) n d
 rw[ports_eq m (by omega)]at h
 exact h
theorem containsP_fn (k:Nat) (t:List UInt8):CallFn Tryz.prog 157 [aTs (portsK k),aT t] (aB (hasK k t)):=by
 have hl:=portsK_len k
 have h:=containsT_fn (portsK k) t (by unfold Sh;omega)
 have:(portsK k).any (t==·)=hasK k t:=by
  rw[Bool.eq_iff_iff,hasK_mem,List.any_eq_true]
  constructor
  ·rintro⟨x,hx,e⟩
   rw[beq_iff_eq.1 e]
   exact hx
  ·intro h
   exact⟨t,h,by simp⟩
 rwa [this]at h
theorem existsZ_fn (c:Cir) (a b:PortZ) (hx:Sh c.parts) (hk:∀p∈c.parts,0<=p.kind∧p.kind<14) (ha:inPort c.parts a=true) (hb:inPort c.parts b=true) :
  CallFn Tryz.prog 93 [aCi c,.dat (.sl [encPo a,encPo b])] (aI (if hasPort c.parts a=true∧hasPort c.parts b=true then 0 else 6)):=by
 obtain⟨ps,l⟩:=c
 simp only at hx hk ha hb ⊢
 obtain⟨a1,a2⟩:=a
 obtain⟨b1,b2⟩:=b
 unfold inPort at ha hb
 simp only[decide_eq_true_eq]at ha hb
 obtain⟨i,rfl⟩:∃i:Nat,a1=i:=⟨a1.toNat,by omega⟩
 obtain⟨j,rfl⟩:∃j:Nat,b1=j:=⟨b1.toNat,by omega⟩
 have hi:i<ps.length:=by omega
 have hj:j<ps.length:=by omega
 obtain⟨p,hp⟩:∃p,ps[i]=p:=⟨_,rfl⟩
 have hpo:ps[i]?=some p:=by rw[List.getElem?_eq_getElem hi,hp]
 obtain⟨q,hq⟩:∃q,ps[j]=q:=⟨_,rfl⟩
 have hqo:ps[j]?=some q:=by rw[List.getElem?_eq_getElem hj,hq]
 have f1:=portsZ_fn p (hk p (List.mem_of_getElem? hpo))
 have f2:=portsZ_fn q (hk q (List.mem_of_getElem? hqo))
 have g1:=containsP_fn p.kind.toNat a2
 have g2:=containsP_fn q.kind.toNat b2
 have h1:hasPort ps ((i:Int),a2)=hasK p.kind.toNat a2:=by simp[hasPort,hpo]
 have h2:hasPort ps ((j:Int),b2)=hasK q.kind.toNat b2:=by simp[hasPort,hqo]
 rw[h1,h2]
 generalize hasK p.kind.toNat a2=z1 at *
 generalize hasK q.kind.toNat b2=z2 at *
 generalize portsK p.kind.toNat=F1 at *
 generalize portsK q.kind.toNat=F2 at *
 refine callFz_of Tryz.func93 rfl Tryz.ntmps93 (rs:=[.tmp 4]) rfl (by kernel_rfl) (by simp) (by kernel_rfl) ?_
 simp
 refine V.forI (σ:=Unit) 2 [2,7,8] (by simp;exact rfl) (fun i _=>[(4,aI 0),(9,aI i)]) (fun _ _=>[]) (fun i _=>(1<=i->z1=true)∧(2<=i->z2=true)) () (by simp) (by simp) ⟨by simp;exact rfl,by simp⟩ ?_ ?_
 ·rintro n-hn ⟨hI1,hI2⟩
  have hc:n=0∨n=1:=by omega
  rcases hc with rfl | rfl
  ·simp
   intro b6
   refine V.drawX (fun t=>if t=19 then some (.fn (aTs F1)) else if t=22 then some (.fn (aB z1)) else none) (by kernel_rfl) (by kernel_rfl) (by simp) ?_
   simp[hi,hp,hpo]
   exact⟨f1,g1,fun h=>by simp[h]⟩
  ·simp
   intro b6
   refine V.drawX (fun t=>if t=19 then some (.fn (aTs F2)) else if t=22 then some (.fn (aB z2)) else none) (by kernel_rfl) (by kernel_rfl) (by simp) ?_
   simp[hj,hq,hqo]
   exact⟨f2,g2,fun h=>by simp[h],fun h=>⟨hI1 (by omega),h⟩⟩
 ·rintro-⟨hI1,hI2⟩
  have:=hI1 (by omega)
  have:=hI2 (by omega)
  simp[*]
end Go.Proofs.YtafamcbdaeppoaaGreatDoor
