/- Texts joined by a program: Hoa,Ka,Kb,Kc,Fwy,Fwx,Fwz,Fxa. -/
import Derived.Lib.Bytealg
import Derived.Lib.ItoaNum
import Derived.Test.YtpadinblmjlggaaGreatDoorW10
set_option linter.unusedSimpArgs false
set_option linter.unusedVariables false
set_option maxHeartbeats 4000000
namespace Go.Proofs.YtpadinblmjlggaaGreatDoor
abbrev ltB (a b:List UInt8):Bool:=Go.Op.bytesLess a b
theorem ltB_irrefl:∀a,ltB a a=false
 | []=>rfl
 | a::x=>by simp[ltB,Go.Op.bytesLess,UInt8.lt_irrefl,ltB_irrefl x]
theorem ltB_trans:∀ {a b c},ltB a b=true->ltB b c=true->ltB a c=true
 | _,_,[],_,h=>by simp[ltB,Go.Op.bytesLess]at h
 | [],_,_::_,_,_=>rfl
 | _::_,[],_::_,h,_=>by simp[ltB,Go.Op.bytesLess]at h
 | a::x,b::y,c::z,h1,h2=>by
  simp only[ltB,Go.Op.bytesLess,Bool.or_eq_true,decide_eq_true_eq,Bool.and_eq_true,beq_iff_eq]at h1 h2 ⊢
  rcases h1 with h1 | ⟨rfl,h1⟩
  ·rcases h2 with h2 | ⟨rfl,h2⟩
   ·exact .inl (UInt8.lt_trans h1 h2)
   ·exact .inl h1
  ·rcases h2 with h2 | ⟨rfl,h2⟩
   ·exact .inl h2
   ·exact .inr ⟨rfl,ltB_trans h1 h2⟩
theorem ltB_total:∀ {a b},ltB a b=false->ltB b a=false->a=b
 | [],[],_,_=>rfl
 | [],_::_,h,_=>by simp[ltB,Go.Op.bytesLess]at h
 | _::_,[],_,h=>by simp[ltB,Go.Op.bytesLess]at h
 | a::x,b::y,h1,h2=>by
  simp only[ltB,Go.Op.bytesLess,Bool.or_eq_false_iff,decide_eq_false_iff_not,Bool.and_eq_false_iff,beq_eq_false_iff_ne]at h1 h2
  have e:a=b:=UInt8.le_antisymm (UInt8.not_lt.1 h2.1) (UInt8.not_lt.1 h1.1)
  subst e
  rw[ltB_total (a:=x) (b:=y) (h1.2.resolve_left fun h=>h rfl) (h2.2.resolve_left fun h=>h rfl)]
theorem ltB_asymm {a b:List UInt8}(h:ltB a b=true):ltB b a=false:=by
 cases h2:ltB b a with
 | false=>rfl
 | true=>have:=ltB_trans h h2;rw[ltB_irrefl]at this;cases this
theorem cmpT_eq:∀a b:List UInt8,Go.Lib.compareBytes a b=if ltB a b=true then -1 else if ltB b a=true then 1 else 0
 | [],[]=>rfl
 | [],_::_=>rfl
 | _::_,[]=>rfl
 | a::x,b::y=>by
  rw[Go.Lib.compareBytes,cmpT_eq x y]
  by_cases h1:a<b
  ·have:ltB (a::x) (b::y)=true:=by simp[ltB,Go.Op.bytesLess,h1]
   rw[if_pos h1,if_pos this]
  ·by_cases h2:b<a
   ·have e1:ltB (a::x) (b::y)=false:=by
     simp only[ltB,Go.Op.bytesLess,Bool.or_eq_false_iff,decide_eq_false_iff_not,Bool.and_eq_false_iff,beq_eq_false_iff_ne]
     exact⟨h1,.inl fun e=>by subst e;exact h1 h2⟩
    have e2:ltB (b::y) (a::x)=true:=by simp[ltB,Go.Op.bytesLess,h2]
    rw[if_neg h1,if_pos h2,if_neg (by simp[e1]),if_pos e2]
   ·have e:a=b:=UInt8.le_antisymm (UInt8.not_lt.1 h2) (UInt8.not_lt.1 h1)
    subst e
    have e1:ltB (a::x) (a::y)=ltB x y:=by simp[ltB,Go.Op.bytesLess,UInt8.lt_irrefl]
    have e2:ltB (a::y) (a::x)=ltB y x:=by simp[ltB,Go.Op.bytesLess,UInt8.lt_irrefl]
    rw[if_neg h1,if_neg h2,e1,e2]
theorem cmpT_lt (a b:List UInt8):Go.Lib.compareBytes a b<0↔ltB a b=true:=by
 rw[cmpT_eq]
 split
 ·rename_i h;simp[h]
 ·rename_i h
  split
  ·simp[h]
  ·simp[h]
theorem cmpT_zero (a b:List UInt8):Go.Lib.compareBytes a b=0↔a=b:=by
 rw[cmpT_eq]
 split
 ·rename_i h
  constructor
  ·intro e;omega
  ·rintro rfl;rw[ltB_irrefl]at h;cases h
 ·rename_i h
  split
  ·rename_i h2
   constructor
   ·intro e;omega
   ·rintro rfl;rw[ltB_irrefl]at h2;cases h2
  ·rename_i h2
   simp only[true_iff]
   exact ltB_total (by simpa using h) (by simpa using h2)
structure TotB {α:Type}(lt:α->α->Bool):Prop where
 irr:∀a,lt a a=false
 trans:∀a b c,lt a b=true->lt b c=true->lt a c=true
 tot:∀a b,lt a b=false->lt b a=false->a=b
theorem TotB.asymm {α:Type}{lt:α->α->Bool}(h:TotB lt) {a b:α}(h1:lt a b=true):lt b a=false:=by
 cases h2:lt b a with
 | false=>rfl
 | true=>have:=h.trans _ _ _ h1 h2;rw[h.irr]at this;cases this
def lexB {α β:Type} [DecidableEq α] (lt1:α->α->Bool) (lt2:β->β->Bool) (a b:α×β):Bool:=if a.1=b.1 then lt2 a.2 b.2 else lt1 a.1 b.1
theorem lexB_tot {α β:Type} [DecidableEq α] {lt1:α->α->Bool}{lt2:β->β->Bool}(h1:TotB lt1) (h2:TotB lt2):TotB (lexB lt1 lt2):=by
 refine⟨fun a=>?_,fun a b c ha hb=>?_,fun a b ha hb=>?_⟩
 ·unfold lexB
  rw[if_pos rfl,h2.irr]
 ·unfold lexB at *
  by_cases e1:a.1=b.1
  ·rw[if_pos e1]at ha
   by_cases e2:b.1=c.1
   ·rw[if_pos e2]at hb
    rw[if_pos (e1.trans e2)]
    exact h2.trans _ _ _ ha hb
   ·rw[if_neg e2]at hb
    rw[if_neg (by rw[e1];exact e2),e1]
    exact hb
  ·rw[if_neg e1]at ha
   by_cases e2:b.1=c.1
   ·rw[if_neg (by rw[<- e2];exact e1),<- e2]
    exact ha
   ·rw[if_neg e2]at hb
    have h3:=h1.trans _ _ _ ha hb
    rw[if_neg (fun e=>by rw[e,h1.irr]at h3;cases h3)]
    exact h3
 ·unfold lexB at *
  by_cases e1:a.1=b.1
  ·rw[if_pos e1]at ha
   rw[if_pos e1.symm]at hb
   exact Prod.ext e1 (h2.tot _ _ ha hb)
  ·rw[if_neg e1]at ha
   rw[if_neg (fun e=>e1 e.symm)]at hb
   exact absurd (h1.tot _ _ ha hb) e1
theorem ltB_tot:TotB ltB:=⟨ltB_irrefl,fun _ _ _=>ltB_trans,fun _ _=>ltB_total⟩
theorem sorted_same {α:Type}{R:α->α->Prop}:∀ {l m:List α},(∀a b,a∈l->b∈l->R a b->R b a->a=b)->l.Pairwise R->m.Pairwise R->l.Perm m->l=m
 | [],m,_,_,_,hp=>by simpa using hp.symm
 | a::l,[],_,_,_,hp=>by simp at hp
 | a::l,b::m,hx,hl,hm,hp=>by
  obtain⟨l1,l2⟩:=List.pairwise_cons.1 hl
  obtain⟨m1,m2⟩:=List.pairwise_cons.1 hm
  have e:a=b:=by
   have ha:a∈b::m:=hp.mem_iff.1 (by simp)
   have hb:b∈a::l:=hp.mem_iff.2 (by simp)
   rcases List.mem_cons.1 ha with e | ha
   ·exact e
   ·rcases List.mem_cons.1 hb with e | hb
    ·exact e.symm
    ·exact hx a b (by simp) (by simp[hb]) (l1 b hb) (m1 a ha)
  subst e
  rw[sorted_same (fun x y hx1 hy1=>hx x y (by simp[hx1]) (by simp[hy1])) l2 m2 ((List.perm_cons a).1 hp)]
structure Prt where
 kind:Int
 name:List UInt8
 delay:Int
 deriving DecidableEq
abbrev PortZ:=Int×List UInt8
abbrev PipeZ:=PortZ×PortZ
structure Cir where
 parts:List Prt
 pipes:List PipeZ
abbrev encPa (p:Prt):List L:=[.int .i64 p.kind,.str p.name,.int .i64 p.delay]
abbrev encPo (p:PortZ):List L:=[.int .i64 p.1,.str p.2]
abbrev encPi (p:PipeZ):List L:=[.int .i64 p.1.1,.str p.1.2,.int .i64 p.2.1,.str p.2.2]
abbrev encCi (c:Cir):List L:=[.sl (c.parts.map encPa),.sl (c.pipes.map encPi)]
abbrev aCi (c:Cir):A:=.record (encCi c)
def firstE (f:Nat->Int):Nat->Int
 | 0=>0
 | n+1=>if firstE f n≠0 then firstE f n else f n
theorem firstE_step {f:Nat->Int}{i:Nat}(h:firstE f i=0):firstE f (i+1)=f i:=by simp[firstE,h]
theorem firstE_stop {f:Nat->Int}{i:Nat}(h:firstE f i≠0):∀n,i<=n->firstE f n=firstE f i
 | 0,hn=>by rw[show i=0 by omega]
 | n+1,hn=>by
  by_cases e:i=n+1
  ·rw[e]
  ·have:=firstE_stop h n (by omega)
   simp[firstE,this,h]
theorem firstE_hit {f:Nat->Int}{i n:Nat}(h:firstE f i=0) (hi:i<n) (hf:f i≠0):firstE f n=f i:=by
 have h1:=firstE_step h
 rw[firstE_stop (i:=i+1) (by rw[h1];exact hf) n (by omega),h1]
theorem firstE_zero {f:Nat->Int}:∀n,firstE f n=0->∀i,i<n->f i=0
 | 0,_,i,hi=>by omega
 | n+1,h,i,hi=>by
  simp only[firstE]at h
  by_cases h0:firstE f n=0
  ·rw[if_neg (by simp[h0])]at h
   by_cases e:i=n
   ·rw[e];exact h
   ·exact firstE_zero n h0 i (by omega)
  ·rw[if_pos h0]at h
   exact absurd h h0
def letC (n:Nat):Bool:=decide (97<=n∧n<=122)||decide (65<=n∧n<=90)
def digQ (n:Nat):Bool:=decide (48<=n∧n<=57)
def innC (n:Nat):Bool:=letC n||digQ n||decide (n=95)
def wordE (s:List UInt8):Int:=
 if (s.head?.any fun b=>letC b.toNat)=false then 3
 else if (s.all fun b=>innC b.toNat)=false then 3
 else if 24<s.length then 17 else 0
def partE (p:Prt):Int:=
 if ¬(0<=p.kind∧p.kind<14) then 1
 else if wordE p.name≠0 then wordE p.name
 else if (p.kind=12∧(p.delay<1∨1000000<p.delay))∨(p.kind≠12∧p.delay≠0) then 2 else 0
def stepE (ps:List Prt) (i:Nat):Int:=match ps[i]? with
 | none=>0
 | some p=>if partE p≠0 then partE p else match i with
  | 0=>0
  | j+1=>match ps[j]? with
   | some q=>if ltB q.name p.name=true then 0 else 9
   | none=>0
def findN (ps:List Prt) (t:List UInt8):Option Nat:=ps.findIdx? fun p=>p.name==t
def ownN (ps:List Prt) (t:List UInt8):Bool:=(t.getLast? == some 48||t.getLast? == some 49)&&match findN ps t.dropLast with
 | some j=>(ps[j]?).any fun q=>q.kind==1
 | none=>false
def limE (ps:List Prt) (i:Nat):Int:=match ps[i]? with
 | some p=>if p.kind=6∧ownN ps p.name=false then 6 else 0
 | none=>0
def rolesK:Nat->List (List (List UInt8))
 | 0=>[[],[[49]],[],[],[]]
 | 1=>[[],[],[],[],[[50],[52]]]
 | 2=>[[[49]],[[50],[52]],[[51],[53]],[[49,50],[49,52]],[]]
 | 3=>[[[49]],[[50],[52]],[[51],[53]],[[49,52]],[]]
 | 4=>[[[49]],[[50]],[[51]],[[49,50]],[]]
 | 5=>[[[49]],[[50]],[[51]],[[49,48]],[]]
 | 6=>[[[49]],[[50]],[[51]],[],[]]
 | 7=>[[[49]],[[50]],[[51]],[],[]]
 | 8=>[[[49],[49,49]],[[50]],[],[],[]]
 | 9=>[[[49],[49,49]],[[50]],[],[],[]]
 | 10=>[[[49]],[[50]],[[51]],[],[]]
 | 11=>[[[49]],[[50]],[],[],[]]
 | 12=>[[[49]],[[50]],[[51]],[[49,50]],[]]
 | 13=>[[[49]],[[50]],[[51]],[[49,50]],[]]
 | _=>[]
def hasK (k:Nat) (t:List UInt8):Bool:=(rolesK k).any fun l=>l.any (t==·)
def hasPort (ps:List Prt) (q:PortZ):Bool:=(ps[q.1.toNat]?).any fun p=>hasK p.kind.toNat q.2
def inPort (ps:List Prt) (q:PortZ):Bool:=decide (0<=q.1∧q.1<ps.length)
def beforeZ:PortZ->PortZ->Bool:=lexB (fun a b=>decide (a<b)) ltB
def earlierZ:PipeZ->PipeZ->Bool:=lexB beforeZ beforeZ
theorem int_tot:TotB fun a b:Int=>decide (a<b):=⟨fun a=>by simp,fun a b c h1 h2=>by simp at *;omega,fun a b h1 h2=>by simp at *;omega⟩
theorem beforeZ_tot:TotB beforeZ:=lexB_tot int_tot ltB_tot
def pipeE (c:Cir) (i:Nat):Int:=match c.pipes[i]? with
 | none=>0
 | some x=>if inPort c.parts x.1=false∨inPort c.parts x.2=false then 2
  else if hasPort c.parts x.1=false∨hasPort c.parts x.2=false then 6
  else if beforeZ x.1 x.2=false then 9
  else match i with
   | 0=>0
   | j+1=>match c.pipes[j]? with
    | some y=>if earlierZ y x=true then 0 else 9
    | none=>0
def cirE (c:Cir):Int:=
 if 64<c.parts.length then 5
 else if firstE (stepE c.parts) c.parts.length≠0 then firstE (stepE c.parts) c.parts.length
 else if firstE (limE c.parts) c.parts.length≠0 then firstE (limE c.parts) c.parts.length
 else if 256<c.pipes.length then 5
 else firstE (pipeE c) c.pipes.length
structure CirR (c:Cir):Prop where
 few:c.parts.length<=64
 part:∀p∈c.parts,partE p=0
 asc:∀i p q,c.parts[i]?=some p->c.parts[i+1]?=some q->ltB p.name q.name=true
 own:∀p∈c.parts,p.kind=6->ownN c.parts p.name=true
 many:c.pipes.length<=256
 inp:∀x∈c.pipes,inPort c.parts x.1=true∧inPort c.parts x.2=true
 has:∀x∈c.pipes,hasPort c.parts x.1=true∧hasPort c.parts x.2=true
 dir:∀x∈c.pipes,beforeZ x.1 x.2=true
theorem cirR_of {c:Cir}(h:cirE c=0):CirR c:=by
 unfold cirE at h
 by_cases h1:64<c.parts.length
 ·rw[if_pos h1]at h;simp at h
 rw[if_neg h1]at h
 by_cases h2':¬firstE (stepE c.parts) c.parts.length=0
 ·rw[if_pos h2']at h;exact absurd h h2'
 have h2:=Classical.not_not.1 h2'
 rw[if_neg (by simp[h2])]at h
 by_cases h3':¬firstE (limE c.parts) c.parts.length=0
 ·rw[if_pos h3']at h;exact absurd h h3'
 have h3:=Classical.not_not.1 h3'
 rw[if_neg (by simp[h3])]at h
 by_cases h4:256<c.pipes.length
 ·rw[if_pos h4]at h;simp at h
 rw[if_neg h4]at h
 have k2:=firstE_zero _ h2
 have k3:=firstE_zero _ h3
 have k5:=firstE_zero _ h
 have hpart:∀p∈c.parts,partE p=0:=by
  intro p hp
  obtain⟨i,hi,e⟩:=List.getElem_of_mem hp
  have:=k2 i hi
  unfold stepE at this
  rw[List.getElem?_eq_getElem hi,e]at this
  simp only at this
  by_cases e0:partE p=0
  ·exact e0
  ·rw[if_pos e0]at this;exact absurd this e0
 have hpipe:∀x∈c.pipes,(inPort c.parts x.1=true∧inPort c.parts x.2=true)∧(hasPort c.parts x.1=true∧hasPort c.parts x.2=true)∧beforeZ x.1 x.2=true:=by
  intro x hx
  obtain⟨i,hi,e⟩:=List.getElem_of_mem hx
  have:=k5 i hi
  unfold pipeE at this
  rw[List.getElem?_eq_getElem hi,e]at this
  simp only at this
  by_cases e1:inPort c.parts x.1=false∨inPort c.parts x.2=false
  ·rw[if_pos e1]at this;simp at this
  rw[if_neg e1]at this
  by_cases e2:hasPort c.parts x.1=false∨hasPort c.parts x.2=false
  ·rw[if_pos e2]at this;simp at this
  rw[if_neg e2]at this
  by_cases e3:beforeZ x.1 x.2=false
  ·rw[if_pos e3]at this;simp at this
  simp only[not_or,Bool.not_eq_false]at e1 e2 e3
  exact⟨e1,e2,e3⟩
 refine⟨by omega,hpart,fun i p q hp hq=>?_,fun p hp h6=>?_,by omega,fun x hx=>(hpipe x hx).1,fun x hx=>(hpipe x hx).2.1,fun x hx=>(hpipe x hx).2.2⟩
 ·have hi:=(List.getElem?_eq_some_iff.1 hq).1
  have:=k2 (i+1) hi
  unfold stepE at this
  rw[hq]at this
  simp only at this
  rw[if_neg (by simp[hpart q (List.mem_of_getElem? hq)]),hp]at this
  simp only at this
  by_cases e:ltB p.name q.name=true
  ·exact e
  ·rw[if_neg e]at this;simp at this
 ·obtain⟨i,hi,e⟩:=List.getElem_of_mem hp
  have:=k3 i hi
  unfold limE at this
  rw[List.getElem?_eq_getElem hi,e]at this
  simp only at this
  by_cases e0:ownN c.parts p.name=true
  ·exact e0
  ·rw[if_pos ⟨h6,by simpa using e0⟩]at this;simp at this
def loP (a b:PortZ):PortZ:=if beforeZ b a=true then b else a
def hiP (a b:PortZ):PortZ:=if beforeZ b a=true then a else b
def mergeF (f:PortZ->PortZ) (x:PipeZ) (p:PortZ):PortZ:=if f p=hiP (f x.1) (f x.2) then loP (f x.1) (f x.2) else f p
def rootF (xs:List PipeZ):PortZ->PortZ:=xs.foldl mergeF id
theorem rootF_snoc (xs:List PipeZ) (x:PipeZ):rootF (xs++[x])=mergeF (rootF xs) x:=by simp[rootF,List.foldl_append]
theorem rootF_take {xs:List PipeZ}{i:Nat}{x:PipeZ}(h:xs[i]?=some x):rootF (xs.take (i+1))=mergeF (rootF (xs.take i)) x:=by
 rw[List.take_add_one,h]
 exact rootF_snoc _ _
theorem hiP_or (a b:PortZ):(hiP a b=a∧loP a b=b)∨(hiP a b=b∧loP a b=a):=by
 unfold hiP loP
 by_cases h:beforeZ b a=true<;>simp[h]
theorem leZ_trans {a b c:PortZ}(h1:beforeZ b a=false) (h2:beforeZ c b=false):beforeZ c a=false:=by
 cases h3:beforeZ c a with
 | false=>rfl
 | true=>
  cases h4:beforeZ a b with
  | true=>rw[beforeZ_tot.trans _ _ _ h3 h4]at h2;cases h2
  | false=>rw[beforeZ_tot.tot _ _ h4 h1]at h3;rw[h3]at h2;cases h2
theorem loP_le (a b:PortZ):beforeZ (hiP a b) (loP a b)=false:=by
 unfold hiP loP
 cases h:beforeZ b a with
 | true=>simp[beforeZ_tot.asymm h]
 | false=>simp[h]
theorem loP_ne {a b:PortZ}(h:a≠b):beforeZ (loP a b) (hiP a b)=true:=by
 unfold hiP loP
 cases h2:beforeZ b a with
 | true=>simp[h2]
 | false=>
  cases h3:beforeZ a b with
  | true=>simp[h3]
  | false=>exact absurd (beforeZ_tot.tot _ _ h3 h2) h
structure RootP (xs:List PipeZ) (f:PortZ->PortZ):Prop where
 le:∀p,beforeZ p (f p)=false
 idem:∀p,f (f p)=f p
 pipe:∀x∈xs,f x.1=f x.2
 closed:∀C:PortZ->Prop,(∀x∈xs,C x.1↔C x.2)->∀p,C p↔C (f p)
theorem merge_root {xs:List PipeZ}{f:PortZ->PortZ}(h:RootP xs f) (x:PipeZ):RootP (xs++[x]) (mergeF f x):=by
 have hl:=loP_le (f x.1) (f x.2)
 have ho:=hiP_or (f x.1) (f x.2)
 have hlo:f (loP (f x.1) (f x.2))=loP (f x.1) (f x.2):=by
  rcases ho with⟨_,e⟩|⟨_,e⟩<;>rw[e,h.idem]
 refine⟨fun p=>?_,fun p=>?_,fun y hy=>?_,fun C hC p=>?_⟩
 ·unfold mergeF
  split
  ·rename_i e
   have:=h.le p
   rw[e]at this
   exact leZ_trans hl this
  ·exact h.le p
 ·unfold mergeF
  by_cases e:f p=hiP (f x.1) (f x.2)
  ·rw[if_pos e,hlo]
   split<;>rfl
  ·rw[if_neg e,h.idem,if_neg e]
 ·rcases List.mem_append.1 hy with hy | hy
  ·unfold mergeF
   rw[h.pipe y hy]
  ·simp only[List.mem_singleton]at hy
   subst hy
   unfold mergeF
   rcases ho with⟨e1,e2⟩|⟨e1,e2⟩
   ·rw[e1,e2,if_pos rfl]
    split
    ·rfl
    ·rfl
   ·rw[e1,e2,if_pos (rfl:f y.2=f y.2)]
    split
    ·rfl
    ·rfl
 ·have h1:=h.closed C (fun y hy=>hC y (by simp[hy]))
  have hx:=hC x (by simp)
  unfold mergeF
  by_cases e:f p=hiP (f x.1) (f x.2)
  ·rw[if_pos e,h1 p,e]
   rcases ho with⟨e1,e2⟩|⟨e1,e2⟩
   ·rw[e1,e2,<- h1,<- h1,hx]
   ·rw[e1,e2,<- h1,<- h1,hx]
  ·rw[if_neg e]
   exact h1 p
theorem rootF_ok (xs:List PipeZ):RootP xs (rootF xs):=by
 have:∀n,RootP (xs.take n) (rootF (xs.take n)):=by
  intro n
  induction n with
  | zero=>exact⟨fun p=>beforeZ_tot.irr p,fun p=>rfl,by simp,fun C _ p=>Iff.rfl⟩
  | succ n ih=>
   cases h:xs[n]? with
   | none=>
    rw[List.take_add_one,h]
    simpa using ih
   | some x=>
    rw[rootF_take h,List.take_add_one,h]
    exact merge_root ih x
 have h:=this xs.length
 rwa [List.take_length]at h
def portsK:Nat->List (List UInt8)
 | 0=>[[49]]
 | 1=>[[50],[52]]
 | 2=>[[49],[49,50],[49,52],[50],[51],[52],[53]]
 | 3=>[[49],[49,52],[50],[51],[52],[53]]
 | 4=>[[49],[49,50],[50],[51]]
 | 5=>[[49],[49,48],[50],[51]]
 | 6=>[[49],[50],[51]]
 | 7=>[[49],[50],[51]]
 | 8=>[[49],[49,49],[50]]
 | 9=>[[49],[49,49],[50]]
 | 10=>[[49],[50],[51]]
 | 11=>[[49],[50]]
 | 12=>[[49],[49,50],[50],[51]]
 | 13=>[[49],[49,50],[50],[51]]
 | _=>[]
theorem k_cases {Q:Nat->Prop}(h:Q 0∧Q 1∧Q 2∧Q 3∧Q 4∧Q 5∧Q 6∧Q 7∧Q 8∧Q 9∧Q 10∧Q 11∧Q 12∧Q 13):∀k,k<14->Q k:=by
 obtain⟨h0,h1,h2,h3,h4,h5,h6,h7,h8,h9,h10,h11,h12,h13⟩:=h
 intro k hk
 have:k=0∨k=1∨k=2∨k=3∨k=4∨k=5∨k=6∨k=7∨k=8∨k=9∨k=10∨k=11∨k=12∨k=13:=by omega
 rcases this with rfl | rfl | rfl | rfl | rfl | rfl | rfl | rfl | rfl | rfl | rfl | rfl | rfl | rfl<;>assumption
theorem portsK_sorted (k:Nat):(portsK k).Pairwise fun a b=>ltB a b=true:=by
 by_cases hk:k<14
 ·revert k
  refine k_cases ⟨?_,?_,?_,?_,?_,?_,?_,?_,?_,?_,?_,?_,?_,?_⟩<;>decide
 ·unfold portsK
  split<;>first | omega | simp
theorem portsK_len (k:Nat):(portsK k).length<=7:=by
 unfold portsK
 split<;>simp
theorem portsK_short (k:Nat):∀t∈portsK k,t.length<=2:=by
 by_cases hk:k<14
 ·revert k
  refine k_cases ⟨?_,?_,?_,?_,?_,?_,?_,?_,?_,?_,?_,?_,?_,?_⟩<;>decide
 ·unfold portsK
  split<;>first | omega | simp
theorem hasK_mem (k:Nat) (t:List UInt8):hasK k t=true↔t∈portsK k:=by
 by_cases hk:k<14
 ·revert k
  refine k_cases ⟨?_,?_,?_,?_,?_,?_,?_,?_,?_,?_,?_,?_,?_,?_⟩<;>(simp[hasK,rolesK,portsK]<;>grind)
 ·have h1:rolesK k=[]:=by
   unfold rolesK
   split<;>first | omega | rfl
  have h2:portsK k=[]:=by
   unfold portsK
   split<;>first | omega | rfl
  simp[hasK,h1,h2]
def portsOf (ps:List Prt) (i:Nat):List PortZ:=match ps[i]? with
 | some p=>(portsK p.kind.toNat).map fun t=>((i:Int),t)
 | none=>[]
def allN (ps:List Prt) (n:Nat):List PortZ:=(List.range n).flatMap (portsOf ps)
def allP (ps:List Prt):List PortZ:=allN ps ps.length
theorem allN_succ (ps:List Prt) (n:Nat):allN ps (n+1)=allN ps n++portsOf ps n:=by simp[allN,List.range_succ]
theorem portsOf_len (ps:List Prt) (i:Nat):(portsOf ps i).length<=7:=by
 unfold portsOf
 split
 ·rw[List.length_map];exact portsK_len _
 ·simp
theorem allN_len (ps:List Prt):∀n,(allN ps n).length<=7*n
 | 0=>by simp[allN]
 | n+1=>by
  have:=allN_len ps n
  have:=portsOf_len ps n
  rw[allN_succ,List.length_append]
  omega
theorem mem_portsOf {ps:List Prt}{i:Nat}{q:PortZ}:q∈portsOf ps i↔∃p,ps[i]?=some p∧q.1=i∧q.2∈portsK p.kind.toNat:=by
 unfold portsOf
 cases h:ps[i]? with
 | none=>simp
 | some p=>
  simp only[List.mem_map,Option.some.injEq]
  constructor
  ·rintro⟨t,ht,rfl⟩
   exact⟨p,rfl,rfl,ht⟩
  ·rintro⟨_,rfl,h1,h2⟩
   exact⟨q.2,h2,by rw[<- h1]⟩
theorem mem_allN {ps:List Prt}{n:Nat}{q:PortZ}:q∈allN ps n↔∃i p,i<n∧ps[i]?=some p∧q.1=i∧q.2∈portsK p.kind.toNat:=by
 simp only[allN,List.mem_flatMap,List.mem_range,mem_portsOf]
 constructor
 ·rintro⟨i,hi,p,h⟩;exact⟨i,p,hi,h⟩
 ·rintro⟨i,p,hi,h⟩;exact⟨i,hi,p,h⟩
theorem mem_allP {ps:List Prt}{q:PortZ}:q∈allP ps↔inPort ps q=true∧hasPort ps q=true:=by
 unfold allP
 rw[mem_allN]
 unfold inPort hasPort
 constructor
 ·rintro⟨i,p,hi,hp,h1,h2⟩
  refine⟨by simp;omega,?_⟩
  rw[h1,Int.toNat_natCast,hp]
  simpa [hasK_mem]using h2
 ·rintro⟨h1,h2⟩
  simp only[decide_eq_true_eq]at h1
  cases hp:ps[q.1.toNat]? with
  | none=>rw[hp]at h2;simp at h2
  | some p=>
   rw[hp]at h2
   simp only[Option.any_some,hasK_mem]at h2
   exact⟨q.1.toNat,p,by omega,hp,by omega,h2⟩
theorem allN_sorted (ps:List Prt):∀n,(allN ps n).Pairwise fun a b=>beforeZ a b=true
 | 0=>by simp[allN]
 | n+1=>by
  rw[allN_succ,List.pairwise_append]
  refine⟨allN_sorted ps n,?_,fun a ha b hb=>?_⟩
  ·unfold portsOf
   split
   ·rw[List.pairwise_map]
    refine (portsK_sorted _).imp ?_
    intro a b hab
    simp[beforeZ,lexB,hab]
   ·simp
  ·obtain⟨i,p,hi,_,h1,_⟩:=mem_allN.1 ha
   obtain⟨p2,_,h2,_⟩:=mem_portsOf.1 hb
   unfold beforeZ lexB
   rw[if_neg (by omega)]
   simp
   omega
def netsF (f:PortZ->PortZ) (all:List PortZ):List (List PortZ):=(all.filter fun r=>f r==r).map fun r=>all.filter fun q=>f q==r
def netsZ (c:Cir):List (List PortZ):=netsF (rootF c.pipes) (allP c.parts)
theorem root_all {c:Cir}(h:CirR c) {p:PortZ}:p∈allP c.parts↔rootF c.pipes p∈allP c.parts:=by
 refine (rootF_ok c.pipes).closed (fun q=>q∈allP c.parts) (fun x hx=>?_) p
 obtain⟨a1,a2⟩:=h.inp x hx
 obtain⟨b1,b2⟩:=h.has x hx
 exact⟨fun _=>mem_allP.2 ⟨a2,b2⟩,fun _=>mem_allP.2 ⟨a1,b1⟩⟩
structure PassP where
 to:List UInt8
 src:List (List UInt8)
 all:Bool
 deriving DecidableEq
def manyK:Nat->Nat
 | 2=>2 | 3=>2 | 4=>2 | 5=>2 | 6=>2 | 7=>2 | 12=>2 | 13=>2
 | _=>1
def passK (k pos:Nat):List PassP:=
 if k=2∨k=3 then [⟨if pos=1 then [52] else [50],[[49]],false⟩]
 else if k=4∨k=6∨k=7∨k=12∨k=13 then (if pos=1 then [⟨[50],[[49]],false⟩] else [])
 else if k=5 then (if pos=1 then [] else [⟨[50],[[49]],false⟩])
 else if k=8∨k=9 then [⟨[50],[[49],[49,49]],k==9⟩]
 else if k=10∨k=11 then [⟨[50],[[49]],false⟩]
 else []
def roleK (k:Nat) (t:List UInt8):Option Nat:=(rolesK k).findIdx? fun l=>l.any (t==·)
def plusK:Nat->List UInt8
 | 2=>[49,52] | 3=>[49,52] | 4=>[49,50] | 5=>[49,48] | 12=>[49,50] | 13=>[49,50]
 | _=>[]
def minusK:Nat->List UInt8
 | 2=>[49,50]
 | _=>[]
def kindOf (ps:List Prt) (i:Nat):Nat:=match ps[i]? with
 | some p=>p.kind.toNat
 | none=>0
def netW (nets:List (List PortZ)) (p:PortZ):Nat:=nets.findIdx fun l=>l.any (p==·)
def pairZ (nets:List (List PortZ)) (a b:Nat) (t:List UInt8):Bool:=
 decide ((nets.getD (netW nets ((a:Int),t)) []).length=2)&&(nets.getD (netW nets ((a:Int),t)) []).any (((b:Int),t)==·)
def drvB (ps:List Prt) (nets:List (List PortZ)) (i v:Nat):Bool:=(kindOf ps v==2||kindOf ps v==3)&&(pairZ nets i v [50]&&pairZ nets i v [52])
def valveZ (ps:List Prt) (nets:List (List PortZ)) (i:Nat):Option Nat:=(List.range ps.length).findIdx? (drvB ps nets i)
abbrev Drv:=Nat×Nat
def cylsN (ps:List Prt) (n:Nat):List Nat:=(List.range n).filter fun i=>kindOf ps i==1
def drvE (ps:List Prt) (nets:List (List PortZ)):Int:=
 if ((cylsN ps ps.length).any fun i=>(valveZ ps nets i).isNone)=true then 14 else if cylsN ps ps.length=[] then 13 else 0
def drvN (ps:List Prt) (nets:List (List PortZ)) (n:Nat):List Drv:=(cylsN ps n).map fun i=>(i,(valveZ ps nets i).getD 0)
def drivenZ (d:List Drv) (i:Nat):Option Nat:=d.findIdx? fun q=>q.2==i
def countsZ (ps:List Prt) (l:List PortZ):Bool:=decide (1<l.length)||match l with
 | q::_=>roleK (kindOf ps q.1.toNat) q.2==some 3
 | []=>false
structure Gift where
 part:Nat
 pos:Nat
 pass:PassP
 deriving DecidableEq
def givenZ (ps:List Prt) (x:PortZ):List Gift:=(List.range (manyK (kindOf ps x.1.toNat))).flatMap fun pos=>((passK (kindOf ps x.1.toNat) pos).filter fun y=>y.to==x.2).map fun y=>⟨x.1.toNat,pos,y⟩
def giftsZ (ps:List Prt) (d:List Drv) (x:PortZ):List Gift:=if (drivenZ d x.1.toNat).isSome=true then [] else givenZ ps x
def takesZ (ps:List Prt) (nets:List (List PortZ)) (order:List Nat) (g:Gift) (t:List UInt8):Bool:=
 countsZ ps (nets.getD (netW nets ((g.part:Int),t)) []) && !(order.any (netW nets ((g.part:Int),t)==·))
def readyZ (ps:List Prt) (d:List Drv) (nets:List (List PortZ)) (order:List Nat) (net:Nat):Bool:=
 (nets.getD net []).all fun x=>(giftsZ ps d x).all fun g=>g.pass.src.all fun t=>!takesZ ps nets order g t
def countsI (ps:List Prt) (nets:List (List PortZ)) (i:Nat):Bool:=countsZ ps (nets.getD i [])
def restZ (ps:List Prt) (nets:List (List PortZ)) (order:List Nat):List Nat:=(List.range nets.length).filter fun i=>countsI ps nets i && !(order.any (i==·))
def nextZ (ps:List Prt) (d:List Drv) (nets:List (List PortZ)) (order:List Nat):Option Nat:=(restZ ps nets order).find? (readyZ ps d nets order)
def orderN (ps:List Prt) (d:List Drv) (nets:List (List PortZ)):Nat->List Nat
 | 0=>[]
 | n+1=>match nextZ ps d nets (orderN ps d nets n) with
  | some i=>orderN ps d nets n++[i]
  | none=>orderN ps d nets n
def manyC (ps:List Prt) (nets:List (List PortZ)):Nat:=(restZ ps nets []).length
structure Pln where
 ps:List Prt
 nets:List (List PortZ)
 drives:List Drv
 order:List Nat
def planE (c:Cir):Int:=
 if cirE c≠0 then cirE c
 else if drvE c.parts (netsZ c)≠0 then drvE c.parts (netsZ c)
 else if (orderN c.parts (drvN c.parts (netsZ c) c.parts.length) (netsZ c) (manyC c.parts (netsZ c))).length=manyC c.parts (netsZ c) then 0 else 20
def planZ (c:Cir):Pln:=⟨c.parts,netsZ c,drvN c.parts (netsZ c) c.parts.length,orderN c.parts (drvN c.parts (netsZ c) c.parts.length) (netsZ c) (manyC c.parts (netsZ c))⟩
def buttN (ps:List Prt) (n:Nat):List Nat:=(List.range n).filter fun i=>kindOf ps i==7
def valvN (ps:List Prt) (d:List Drv) (n:Nat):List Nat:=(List.range n).filter fun i=>(plusK (kindOf ps i) != [])&&(drivenZ d i).isNone
def Pln.butt (p:Pln):List Nat:=buttN p.ps p.ps.length
def Pln.valv (p:Pln):List Nat:=valvN p.ps p.drives p.ps.length
def Pln.first (p:Pln):Nat:=2*p.drives.length+p.butt.length
def varE (n:Int):Expr:=⟨1,n,[]⟩
def notE (x:Expr):Expr:=⟨2,0,[x]⟩
def nulE:Expr:=⟨0,0,[]⟩
def sevE (op:Int):List Expr->Expr
 | []=>nulE
 | [x]=>x
 | l=>⟨op,0,l⟩
def Pln.gate (p:Pln) (i:Nat) (t:List UInt8):Expr:=match p.order.findIdx? (netW p.nets ((i:Int),t)==·) with
 | some k=>varE (p.first+k:Nat)
 | none=>nulE
def Pln.line (p:Pln) (i:Nat):Option Nat:=match p.ps[i]? with
 | none=>none
 | some x=>
  if x.kind=7 then some (2*p.drives.length+p.butt.idxOf i)
  else if x.kind=6 then some (2*(p.drives.findIdx fun d=>(p.ps.getD d.1 x).name==x.name.dropLast)+(if x.name.getLast? = some 49 then 1 else 0))
  else if i∈p.valv then some (p.first+p.order.length+p.valv.idxOf i)
  else none
def Pln.term (p:Pln) (g:Gift):Expr:=
 sevE 3 ((if 1<manyK (kindOf p.ps g.part) then [if g.pos=0 then notE (varE ((p.line g.part).getD 0:Nat)) else varE ((p.line g.part).getD 0:Nat)] else []) ++
  (if g.pass.all=true then g.pass.src.map (p.gate g.part) else [sevE 4 (g.pass.src.map (p.gate g.part))]))
def Pln.fedL (p:Pln) (l:List PortZ):List Expr:=l.flatMap fun x=>(if kindOf p.ps x.1.toNat=0 then [⟨0,1,[]⟩] else [])++(giftsZ p.ps p.drives x).map p.term
def Pln.fed (p:Pln) (net:Nat):Expr:=sevE 4 (p.fedL (p.nets.getD net []))
def decN (n:Nat):List UInt8:=Go.Lib.decDigits n
def Pln.netS (p:Pln) (net:Nat):Signal:=⟨110::decN net,0,p.fed net,nulE,0,false⟩
def Pln.movS (p:Pln) (i:Nat):Signal:=
 ⟨118::decN i,if kindOf p.ps i=12 then 2 else 1,p.gate i (plusK (kindOf p.ps i)),
  if kindOf p.ps i=12 then nulE else if minusK (kindOf p.ps i)≠[] then p.gate i (minusK (kindOf p.ps i)) else notE (p.gate i (plusK (kindOf p.ps i))),
  if kindOf p.ps i=12 then ((p.ps[i]?).map (·.delay)).getD 0 else 0,false⟩
def Pln.sprS (p:Pln) (v:Nat):Signal:=⟨119::decN v,0,notE (p.gate v [49,52]),nulE,0,false⟩
def Pln.sig0 (p:Pln):List Signal:=p.order.map p.netS++p.valv.map p.movS
def Pln.drvS (p:Pln) (q:List Int×List Int×List Signal) (d:Drv):List Int×List Int×List Signal:=
 (q.1++[(p.gate d.2 [49,52]).index],
  q.2.1++[if kindOf p.ps d.2=2 then (p.gate d.2 [49,50]).index else (p.first+q.2.2.length:Nat)],
  if kindOf p.ps d.2=2 then q.2.2 else q.2.2++[p.sprS d.2])
def Pln.pil (p:Pln) (n:Nat):List Int×List Int×List Signal:=(p.drives.take n).foldl p.drvS ([],[],p.sig0)
def Pln.ctl (p:Pln):Control:=
 ⟨p.drives.length,p.butt.map fun i=>((p.ps[i]?).map (·.name)).getD [],(p.pil p.drives.length).2.2,(p.pil p.drives.length).1,(p.pil p.drives.length).2.1⟩
section
variable {P:Program}
theorem CallS.lendG {g:FuncId}{az az':List A}{H:Heap}{K K':A->Heap->Prop}(h:CallS P g az' [] K')
  (hz:∀(x y:X) (H0:Heap) (vs:List Value),Inv x (H++H0)->x.le y->y.w=x.w->(∀b,(∃p∈H,p.2.own b)->y.ok b)->Ds x az vs->Ds y az' vs)
  (hk:∀r H',K' r H'->flatV r=true∧(∀p∈H',flatE p.2=true)∧K r (H'++H)):CallS P g az H K:=by
 refine⟨h.1,fun x args H0 hi hd=>?_⟩
 obtain⟨x',hw,hle,hi0,hok,hok'⟩:=hi.freeze
 have hd':=hz x x' H0 _ hi hle hw hok hd
 have hr:=hi0.raws
 have:=h.2 x' args (rawsOf x' H0) (by simpa using hr) hd'
 rw[hw]at this
 refine this.mono ?_
 rintro _ _ ⟨y',v,r,H',rfl,rfl,hley,hiy,hv,hkk⟩
 obtain⟨k1,k2,k3⟩:=hk r H' hkk
 let y:X:=⟨y'.w,fun b=>y'.ok b∧¬ ∃p∈H,p.2.own b⟩
 have hown:∀p∈H,∀b,p.2.own b->b<x.w.heap.size∧¬x.ok b:=fun p hp b hb=>hi.own p (List.mem_append.2 (.inl hp)) b hb
 have hlexy:x.le y:=by
  refine⟨fun b hb=>⟨⟨(hley.keep b (hle.keep b hb).1).1,fun ⟨p,hp,ho⟩=>(hown p hp b ho).2 hb⟩,?_⟩,?_,?_,?_,?_,?_⟩
  ·exact ((hley.keep b (hle.keep b hb).1).2).trans (hle.keep b hb).2
  ·exact hley.os.trans hle.os
  ·exact hley.output.trans hle.output
  ·exact hley.tape.trans hle.tape
  ·exact Nat.le_trans hle.size hley.size
  ·exact Nat.le_trans hle.drawn hley.drawn
 have hH:∀p∈H,∀b,p.2.own b->y'.ok b∧y'.w.heap[b]?=x.w.heap[b]?:=fun p hp b hb=>by
  have h1:=hley.keep b (hok b ⟨p,hp,hb⟩)
  exact⟨h1.1,by rw[h1.2,hw]⟩
 have hH0:∀p∈H0,∀b,p.2.own b->y'.w.heap[b]?=x.w.heap[b]?∧¬y'.ok b:=fun p hp b hb=>by
  have hm:=rawsOf_of (x:=x') hp hb
  have h1:y'.w.heap[b]?=some _:=hiy.sat _ (List.mem_append.2 (.inr hm))
  have hlt:=(hi0.own p hp b hb).1
  refine⟨by rw[h1,<- hw];simp[hlt],(hiy.own _ (List.mem_append.2 (.inr hm)) b rfl).2⟩
 refine⟨y,v,r,H'++H,rfl,rfl,hlexy,?_,flatV_ok k1 hv,k3⟩
 rw[List.append_assoc]
 have sz:∀b,b<x.w.heap.size->b<y.w.heap.size:=fun b hb=>Nat.lt_of_lt_of_le hb hlexy.size
 refine⟨⟨fun b hb=>hiy.bd b hb.1,hi.bd.tab.mono hlexy⟩,?_,?_,?_⟩
 ·intro p hp
  rcases List.mem_append.1 hp with hp | hp
  ·exact flatE_ok (x:=y') (y:=y) (k2 p hp) (fun _ _=>rfl) (hiy.sat p (List.mem_append.2 (.inl hp)))
  ·refine Ent.sat_step hlexy (fun b hb=>?_) (hi.sat p hp)
   rcases List.mem_append.1 hp with hp | hp
   ·exact (hH p hp b hb).2
   ·exact (hH0 p hp b hb).1
 ·intro p hp b hb
  rcases List.mem_append.1 hp with hp | hp
  ·have:=hiy.own p (List.mem_append.2 (.inl hp)) b hb
   exact⟨this.1,fun hh=>this.2 hh.1⟩
  ·rcases List.mem_append.1 hp with hp | hp
   ·exact⟨sz b (hown p hp b hb).1,fun hh=>hh.2 ⟨p,hp,hb⟩⟩
   ·exact⟨sz b (hi.own p (List.mem_append.2 (.inr hp)) b hb).1,fun hh=>(hH0 p hp b hb).2 hh.1⟩
 ·refine List.pairwise_append.2 ⟨(List.pairwise_append.1 hiy.apart).1,hi.apart,?_⟩
  intro p hp q hq b h1 h2
  have hpn:=hiy.own p (List.mem_append.2 (.inl hp)) b h1
  rcases List.mem_append.1 hq with hq | hq
  ·exact hpn.2 (hH q hq b h2).1
  ·exact (List.pairwise_append.1 hiy.apart).2.2 p hp _ (rawsOf_of (x:=x') hq h2) b h1 rfl
theorem rdLs_Ds' {x:X}:∀ {ls:List L}{vs:List Value},RdLs x ls vs->Ds x (ls.map A.dat) vs
 | [],[],_=>by simp[Ds]
 | l::ls,v::vs,h=>by
  simp only[RdLs]at h
  simp only[List.map_cons,Ds,D]
  exact⟨h.1,rdLs_Ds' h.2⟩
 | [],_::_,h=>by simp[RdLs]at h
 | _::_,[],h=>by simp[RdLs]at h
def frzC (H:Heap):A->Option L
 | .dat l=>some l
 | .nils=>some (.sl [])
 | .own t h=>match hget t H with
  | some (.seq h' _ _ rows)=>if allD rows=true then some (.sl (rowsD rows)) else none
  | _=>none
 | _=>none
def hdrOk (H:Heap):A->Prop
 | .own t h=>match hget t H with
  | some (.seq h' _ _ _)=>h'=h
  | _=>True
 | _=>True
def frzCs (H:Heap):List A->Option (List L)
 | []=>some []
 | a::r=>match frzC H a,frzCs H r with
  | some l,some ls=>some (l::ls)
  | _,_=>none
theorem frzC_ok {x y:X}{H H0:Heap}(hi:Inv x (H++H0)) (hle:x.le y) (hw:y.w=x.w) (hok:∀b,(∃p∈H,p.2.own b)->y.ok b) {a:A}{l:L}{v:Value}(hf:frzC H a=some l) (hh:hdrOk H a) (hv:D x a v):RdL y l v:=by
 unfold frzC at hf
 split at hf
 ·simp only[Option.some.injEq]at hf;subst hf
  simp only[D]at hv
  exact RdL.mono hle _ _ hv
 ·simp only[Option.some.injEq]at hf;subst hf
  simp only[D]at hv;subst hv;simp[RdL]
 ·rename_i t h
  simp only[hdrOk]at hh
  split at hf<;>try (cases hf;done)
  rename_i h' e sz rows hg
  rw[hg]at hh
  simp only at hh
  split at hf<;>try (cases hf;done)
  rename_i hd
  simp only[Option.some.injEq]at hf;subst hf;subst hh
  simp only[D]at hv
  rw[hv.1]
  exact seq_data (Ent.sat_step hle (fun b _=>by rw[hw]) (hget_sat hi hg)) (fun b hb=>hok b ⟨_,hget_mem hg,hb⟩) hd
 ·cases hf
theorem frzCs_ok {x y:X}{H H0:Heap}(hi:Inv x (H++H0)) (hle:x.le y) (hw:y.w=x.w) (hok:∀b,(∃p∈H,p.2.own b)->y.ok b):∀ {cs:List A}{ls:List L}{vs:List Value},frzCs H cs=some ls->(∀a∈cs,hdrOk H a)->Ds x cs vs->RdLs y ls vs
 | [],ls,[],hf,_,_=>by simp only[frzCs,Option.some.injEq]at hf;subst hf;simp[RdLs]
 | a::r,ls,v::vs,hf,hh,hd=>by
  simp only[frzCs]at hf
  split at hf<;>try (cases hf;done)
  rename_i l ls' h1 h2
  simp only[Option.some.injEq]at hf;subst hf
  simp only[Ds]at hd
  simp only[RdLs]
  exact⟨frzC_ok hi hle hw hok h1 (hh a (by simp)) hd.1,frzCs_ok hi hle hw hok h2 (fun b hb=>hh b (by simp[hb])) hd.2⟩
 | [],_,_::_,_,_,h=>by simp[Ds]at h
 | _::_,_,[],_,_,h=>by simp[Ds]at h
theorem CallOwn.lendP {g:FuncId}{t b:Nat}{cs:List A}{ls:List L}{az:List A}{e:TypeId}{sz:Nat}{rows:List (List A)}{H:Heap}{K:A->Heap->Prop}(h:CallOwn P g (.rptr ls::az) e sz rows) (τ:Nat)
  (hb:hget t H=some (.box b cs)) (hc:frzCs H cs=some ls∧∀a∈cs,hdrOk H a) (hz:(frzs H az).1∧(frzs H az).2=az) (hf:∀hd,flatE (.seq hd e sz rows)=true)
  (hk:∀hd,K (.own τ hd) ((τ,.seq hd e sz rows)::H)):CallS P g (.ptr t b 0::az) H K:=by
 have h2:CallS P g (.rptr ls::az) [] fun r H'=>∃hd,r=.own τ hd∧H'=[(τ,.seq hd e sz rows)]:=h.s τ fun hd=>⟨hd,rfl,rfl⟩
 refine h2.lendG ?_ ?_
 ·intro x y H0 vs hi hle hw hok hd
  cases vs with
  | nil=>simp[Ds]at hd
  | cons v vs=>
   simp only[Ds]at hd ⊢
   have hr:=frzs_ok hi hle hw hok az vs hd.2 hz.1
   rw[hz.2]at hr
   refine⟨?_,hr⟩
   have hs:=hget_sat hi hb
   obtain⟨c,ty,k1,k2⟩:=hs
   have hv:=hd.1
   simp only[D]at hv ⊢
   subst hv
   have hrd:=frzCs_ok hi hle hw hok hc.1 hc.2 k2
   refine⟨b,0,rfl,rdCells_vals (hok b ⟨_,hget_mem hb,rfl⟩) ls _ 0 hrd ?_⟩
   intro j u hj
   rw[hw]
   simp only[World.cell?,k1,Nat.zero_add]
   simpa using hj
 ·rintro r H' ⟨hd,rfl,rfl⟩
  refine⟨rfl,?_,hk hd⟩
  intro p hp
  simp only[List.mem_singleton]at hp
  subst hp
  exact hf hd
theorem V.frz1 {C:Cfg}{c:Code}{E:Env}{H:Heap}{Q:PostQ}(t:Nat) {τ:Nat}{h:Value}{e sz:Nat}{rows:List (List A)}(hE:E t=.own τ h) (hH:hget τ H=some (.seq h e sz rows)) (hd:allD rows=true)
  (hv:V C c (upd E t (.dat (.sl (rowsD rows)))) (hdel τ H) Q):V C c E H Q:=by
 intro hf x act H0 ms hi he
 have hp:=hdel_perm hH
 have hi1:Inv x ([(τ,.seq h e sz rows)]++(hdel τ H++(marks ms++H0))):=by
  have:=hi.perm (hp.symm.append_right (marks ms++H0))
  simpa using this
 obtain⟨y,hw,hle,hi2,hok,_⟩:=hi1.freeze
 have he2:EnvOK C.n (ms.map mk) y act (upd E t (.dat (.sl (rowsD rows)))):=by
  have hm:=he.mono hle
  refine⟨hm.defers,hm.size,fun s=>?_⟩
  simp only[upd]
  split
  ·rename_i hs
   subst hs
   have hv:=hm.slot s
   rw[hE]at hv
   simp only[D]at hv ⊢
   rw[hv.1]
   exact seq_data (Ent.sat_step hle (fun b _=>by rw[hw]) (hi1.sat (τ,.seq h e sz rows) (by simp))) (fun b hb=>hok b ⟨_,List.mem_singleton.2 rfl,hb⟩) hd
  ·exact hm.slot s
 have:=hv hf y act H0 ms hi2 he2
 rw[hw]at this
 exact wpIn_mono this fun _ _ _=>Post.le hle fun _ _ _ h=>h
theorem CallS.agg {g:FuncId}{ls:List L}{az bz:List A}{H:Heap}{K:A->Heap->Prop}(h:CallS P g (az++.agg (ls.map A.dat)::bz) H K):CallS P g (az++.record ls::bz) H K:=by
 refine⟨h.1,fun x args H0 hi hd=>h.2 x args H0 hi ?_⟩
 have e:=List.take_append_drop az.length args.toList
 have ht:=hd.take az.length
 have hdr:=hd.drop az.length
 simp only[List.take_left,List.drop_left]at ht hdr
 rw[<- e]
 refine ht.append ?_
 generalize args.toList.drop az.length=l at hdr
 cases l with
 | nil=>simp[Ds]at hdr
 | cons v l=>
  simp only[Ds,D]at hdr ⊢
  obtain⟨⟨vs,rfl,hr⟩,h2⟩:=hdr
  refine⟨⟨vs,rfl,?_⟩,h2⟩
  exact rdLs_Ds' hr
attribute [simp] frzC frzCs hdrOk
end
section
variable {P:Program}
def bslO (P:Program) (t:TypeId) (len:Nat) (ps:List (Nat×A)):Option (Prop×TypeId×List (List L)):=
 match slT P t with
 | some e=>if len=ps.length∧0<len then (match rowsA (szT P e) 0 ps with
   | some rows=>some (tk P e≠0∧0<szT P e∧len*szT P e<=16777216∧((P.info? e).bind (·.zero)).isSome=true,e,rows)
   | none=>none) else none
 | none=>none
def tightV (u:Value):Prop:=∃a n,u=.slice a n n
def vcOpsT (P:Program) (T:List Nat):List Oper->Env->Heap->(Env->Heap->Prop)->Prop
 | [],E,H,K=>K E H
 | o::rest,E,H,K=>o.guard=none∧match o.op,T.contains (o.dst.getD 0) with
  | .buildSlice t n ps,true=>match bslO P t n (evs E ps.toList) with
   | some (p,e,rows)=>(evp E ps.toList∧p)∧∀u,tightV u->vcOpsT P T rest (put E o.dst (.own (o.dst.getD 0) u)) ((o.dst.getD 0,.seq u e (szT P e) (rows.map (·.map A.dat)))::H) K
   | none=>False
  | op,_=>vcOp P op o.dst E H fun E' H'=>vcOpsT P T rest E' H' K
def vcCT (C:Cfg) (T:List Nat):Code->Env->Heap->PostQ->Prop
 | .seq a b,E,H,Q=>vcCT C T a E H fun e E' H'=>match e with
  | .normal=>vcCT C T b E' H' Q
  | .exit i=>Q (.exit i) E' H'
  | .ret=>Q .ret E' H'
  | _=>False
 | .ret,E,H,Q=>Q .ret E H
 | .region id ops d,E,H,Q=>match d with
  | false=>vcOpsT C.P T ops.toList E H fun E' H'=>Q .normal E' H'
  | true=>V C (.region id ops true) E H Q
 | _,_,_,_=>False
@[simp] theorem xpH_n:xpH []=[]:=id rfl
@[simp] theorem xpH_box (t b:Nat) (cs:List A) (H:Heap):xpH ((t,.box b cs)::H)=(t,.box b cs)::xpH H:=id rfl
@[simp] theorem xpH_seq (t:Nat) (h:Value) (e sz:Nat) (rows:List (List A)) (H:Heap):xpH ((t,.seq h e sz rows)::H)=(t,.seq h e sz rows)::xpH H:=id rfl
@[simp] theorem xpH_raw (t b:Nat) (o:Obj) (H:Heap):xpH ((t,.raw b o)::H)=(t,.raw b o)::xpH H:=id rfl
@[simp] theorem xpH_map (t b:Nat) (d:TypeDesc) (es:List (L×L)) (H:Heap):xpH ((t,.map b d es)::H)=(t,.map b d es)::xpH H:=id rfl
@[simp] theorem xpH_mapS (t b:Nat) (d:TypeDesc) (es:List (L×List L)) (H:Heap):xpH ((t,.mapS b d es)::H)=(t,.mapS b d es)::xpH H:=id rfl
@[simp] theorem xpH_mapK (t b:Nat) (d:Bool) (es:List (KeyK×List L)) (H:Heap):xpH ((t,.mapK b d es)::H)=(t,.mapK b d es)::xpH H:=id rfl
@[simp] theorem xpH_seqs (t:Nat) (l:List (Value×TypeId×Nat×List (List A))) (H:Heap):xpH ((t,.seqs l)::H)=spreadL (stB t) 0 l++xpH H:=id rfl
theorem V.drawS {n:Nat}{id:Nat}{ops:Array Oper}{E:Env}{H:Heap}{Q:PostQ}(ρ:Nat->Option CR) (hm:P.follows .mixedOrders=true) (hd:depB ops.toList=true) (hn:(H.map (·.1)).Nodup)
  (h:vcD P ρ ops.toList 0 [] ops.toList E H fun E' H'=>Q .normal E' (xpH H')):V ⟨P,none,n⟩ (.region id ops true) E H Q:=by
 have h1:V ⟨P,none,n⟩ (.region id ops true) E H (fun e E' H'=>match e with | .normal=>Q .normal E' (xpH H') | e=>Q e E' H'):=V.draw ρ hm hd hn h
 intro hf x act H0 ms hi he
 refine wpIn_mono (h1 hf x act H0 ms hi he) ?_
 rintro e a' w' ⟨y,E',H',ms',rfl,hle,hi',he',hq⟩
 cases e with
 | normal=>exact⟨y,E',xpH H',ms',rfl,hle,Inv.xp (A0:=[]) hi',he',hq⟩
 | exit k=>exact⟨y,E',H',ms',rfl,hle,hi',he',hq⟩
 | ret=>exact⟨y,E',H',ms',rfl,hle,hi',he',hq⟩
 | goto k=>exact⟨y,E',H',ms',rfl,hle,hi',he',hq⟩
 | panic k=>exact⟨y,E',H',ms',rfl,hle,hi',he',hq⟩
 | outgrown=>exact⟨y,E',H',ms',rfl,hle,hi',he',hq⟩
attribute [simp] spreadL hdrsL ownsL stB
attribute [simp] vcCT vcOpsT bslO
end
section
variable {P:Program}
def loopsC:Code->List Code
 | .loop c=>c::loopsC c
 | .seq a b=>loopsC a++loopsC b
 | .cond _ a b=>loopsC a++loopsC b
 | .block _ c=>loopsC c
 | .scope c=>loopsC c
 | _=>[]
def loopO (f:Func) (k:Nat):Option Code:=match f.body with
 | some c=>(loopsC c)[k]?
 | none=>none
def loopC (f:Func) (k:Nat):Code:=(loopO f k).getD .skip
theorem vc_part {f:Func}{k:Nat}{c:Code}{C:Cfg}{E:Env}{H:Heap}{Q:PostQ}(h:loopO f k=some c) (hv:vcC C c E H Q):vcC C (loopC f k) E H Q:=by
 unfold loopC
 rw[h]
 exact hv
theorem vc_of_part {f:Func}{k:Nat}{c:Code}{C:Cfg}{E:Env}{H:Heap}{Q:PostQ}(h:loopO f k=some c) (hv:vcC C (loopC f k) E H Q):vcC C c E H Q:=by
 unfold loopC at hv
 rw[h]at hv
 exact hv
theorem sub_ins {t:Nat}{e:Ent}:∀ {H K:Heap},hget t H=some e->K.Sublist (hdel t H)->∃K':Heap,K'.Sublist H∧K'.Perm ((t,e)::K)
 | [],_,h,_=>by simp at h
 | (s,e1)::r,K,h,hs=>by
  rw[hget_c]at h
  rw[hdel_c]at hs
  by_cases hst:s=t
  ·subst hst
   rw[if_pos rfl]at h hs
   cases h
   exact⟨(s,e)::K,hs.cons_cons _,List.Perm.refl _⟩
  ·rw[if_neg hst]at h hs
   cases hs with
   | cons _ h2=>
    obtain⟨K',k1,k2⟩:=sub_ins h h2
    exact⟨K',k1.cons _,k2⟩
   | cons_cons _ h2=>
    obtain⟨K',k1,k2⟩:=sub_ins h h2
    exact⟨(s,e1)::K',k1.cons_cons _,(k2.cons _).trans (List.Perm.swap _ _ _)⟩
theorem subP_of:∀ {H' H:Heap},subH H' H->subP H' H
 | [],H,_=>⟨[],List.nil_sublist _,List.Perm.refl _⟩
 | (t,e)::r,H,h=>by
  simp only[subH]at h
  obtain⟨K,k1,k2⟩:=subP_of h.2
  obtain⟨K',k3,k4⟩:=sub_ins h.1 k1
  exact⟨K',k3,k4.trans (k2.cons _)⟩
def accC (i:Nat) (r:List Nat) (c:Option Nat) (acc:List (Nat×List Nat×Option Nat)):List (Nat×List Nat×Option Nat):=match r,c with
 | [],none=>acc
 | _,_=>(i,r,c)::acc
def prsC (i:Nat) (q:List Nat×Option Nat):List (Nat×List Nat×Option Nat)->List (Nat×Nat)->List (Nat×Nat)
 | [],prs=>prs
 | z::acc,prs=>prsC i q acc (if tagC z.2 q=true then (i,z.1)::prs else prs)
def chkD (ops:List Oper) (prs:List (Nat×Nat)):Bool:=prs.all fun p=>dirB ops p.1 p.2||relB ops p.1 p.2
@[congr] theorem chkD_congr {ops:List Oper}{prs prs':List (Nat×Nat)}{z:Prop}(_:(True∧True)=z) (h:prs=prs'):chkD ops prs=chkD ops prs':=by rw[h]
@[simp] theorem chkD_nil (ops:List Oper):chkD ops []=true:=id rfl
@[simp] theorem accC_n (i:Nat) (acc:List (Nat×List Nat×Option Nat)):accC i [] none acc=acc:=id rfl
@[simp] theorem accC_c (i t:Nat) (r:List Nat) (c:Option Nat) (acc:List (Nat×List Nat×Option Nat)):accC i (t::r) c acc=(i,t::r,c)::acc:=id rfl
@[simp] theorem accC_s (i t:Nat) (r:List Nat) (acc:List (Nat×List Nat×Option Nat)):accC i r (some t) acc=(i,r,some t)::acc:=by cases r<;>rfl
@[simp] theorem prsC_n (i:Nat) (q:List Nat×Option Nat) (prs:List (Nat×Nat)):prsC i q [] prs=prs:=id rfl
@[simp] theorem prsC_c (i:Nat) (q:List Nat×Option Nat) (z:Nat×List Nat×Option Nat) (acc:List (Nat×List Nat×Option Nat)) (prs:List (Nat×Nat)):prsC i q (z::acc) prs=prsC i q acc (if tagC z.2 q=true then (i,z.1)::prs else prs):=id rfl
theorem prsC_chk {ops:List Oper}{i:Nat}{q:List Nat×Option Nat}:∀(acc:List (Nat×List Nat×Option Nat)) (prs:List (Nat×Nat)),chkD ops (prsC i q acc prs)=true->chkD ops prs=true∧∀z∈acc,dOr (tagC z.2 q) (dOr (!dirB ops i z.1) (relB ops i z.1))=true
 | [],prs,h=>⟨h,by simp⟩
 | z::acc,prs,h=>by
  rw[prsC_c]at h
  obtain⟨h1,h2⟩:=prsC_chk acc _ h
  cases ht:tagC z.2 q with
  | false=>
   rw[ht]at h1
   simp only[Bool.false_eq_true,if_false]at h1
   refine⟨h1,?_⟩
   intro z' hz
   rcases List.mem_cons.1 hz with rfl | hz
   ·rw[ht,dOr_f]
   ·exact h2 z' hz
  | true=>
   rw[ht]at h1
   simp only[if_true,chkD,List.all_cons,Bool.and_eq_true]at h1
   refine⟨h1.2,?_⟩
   intro z' hz
   rcases List.mem_cons.1 hz with rfl | hz
   ·rw[ht,dOr_t]
    have h3:=h1.1
    cases hd:dirB ops i z'.1 with
    | true=>rfl
    | false=>rw[hd]at h3;simpa using h3
   ·exact h2 z' hz
def vcX (P:Program) (ρ:Nat->Option CR) (ops:List Oper):Nat->List (Nat×List Nat×Option Nat)->List (Nat×Nat)->List Oper->Env->Heap->(Env->Heap->Prop)->Prop
 | _,_,prs,[],E,H,K=>chkD ops prs=true∧K E H
 | i,acc,prs,o::rest,E,H,K=>∀u b,match fStep P ρ u b ops o E (fun t=>hget t H) with
  | some (p,a,ch)=>p∧vcX P ρ ops (i+1) (accC i (rdT E o) (chT ch) acc) (prsC i (rdT E o,chT ch) acc prs) rest (put E o.dst a) (happ ch H) K
  | none=>False
@[congr] theorem vcX_congr {P:Program}{ρ:Nat->Option CR}{ops:List Oper}{i i':Nat}{acc acc':List (Nat×List Nat×Option Nat)}{prs prs':List (Nat×Nat)}{l l':List Oper}{E:Env}{H H':Heap}{K:Env->Heap->Prop}{z:Prop}(_:(True∧True)=z)
  (h1:i=i') (h2:acc=acc') (h3:prs=prs') (h4:H=H'):vcX P ρ ops i acc prs l E H K=vcX P ρ ops i' acc' prs' l E H' K:=by rw[h1,h2,h3,h4]
theorem vcX_D {ρ:Nat->Option CR}{ops:List Oper}{K:Env->Heap->Prop}:∀(l:List Oper) (i:Nat) (acc:List (Nat×List Nat×Option Nat)) (prs:List (Nat×Nat)) (E:Env) (H:Heap),vcX P ρ ops i acc prs l E H K ->
  chkD ops prs=true∧∀accD:List (Nat×List Nat×Option Nat),(∀z∈accD,z∈acc∨z.2=([],none))->vcD P ρ ops i accD l E H K
 | [],i,acc,prs,E,H,h=>⟨h.1,fun _ _=>h.2⟩
 | o::l,i,acc,prs,E,H,h=>by
  simp only[vcX]at h
  constructor
  ·have h0:=h .nilIface 0
   split at h0
   ·exact (prsC_chk acc prs (vcX_D l _ _ _ _ _ h0.2).1).1
   ·exact h0.elim
  ·intro accD hacc
   simp only[vcD]
   intro u b
   have h0:=h u b
   split at h0
   ·rename_i p a ch hs
    rw[hs]
    obtain⟨k1,k2⟩:=vcX_D l _ _ _ _ _ h0.2
    obtain⟨-,k3⟩:=prsC_chk acc prs k1
    refine⟨h0.1,List.all_eq_true.2 fun z hz=>?_,k2 _ fun z hz=>?_⟩
    ·rcases hacc z hz with h1 | h1
     ·exact k3 z h1
     ·rw[h1]
      have:tagC ([],none) (rdT E o,chT ch)=false:=by
       cases hc:chT ch<;>simp[tagC]
      rw[this,dOr_f]
    ·rcases List.mem_cons.1 hz with rfl | hz
     ·generalize rdT E o=r
      generalize chT ch=c
      cases r with
      | nil=>cases c with
       | none=>exact .inr rfl
       | some t=>exact .inl (by simp)
      | cons t r=>exact .inl (by simp)
     ·rcases hacc z hz with h1 | h1
      ·left
       generalize rdT E o=r
       generalize chT ch=c
       cases r with
       | nil=>cases c with
        | none=>exact h1
        | some t=>simp[h1]
       | cons t r=>simp[h1]
      ·exact .inr h1
   ·exact h0.elim
theorem V.drawX {n:Nat}{id:Nat}{ops:Array Oper}{E:Env}{H:Heap}{Q:PostQ}(ρ:Nat->Option CR) (hm:P.follows .mixedOrders=true) (hd:depB ops.toList=true) (hn:(H.map (·.1)).Nodup)
  (h:vcX P ρ ops.toList 0 [] [] ops.toList E H fun E' H'=>Q .normal E' H'):V ⟨P,none,n⟩ (.region id ops true) E H Q:=
 V.draw ρ hm hd hn ((vcX_D _ _ _ _ _ _ h).2 [] (by simp))
attribute [simp] vcX
end
section
variable {P:Program}
def restO:Nat->Code->Option Code
 | 0,c=>some c
 | k+1,.seq _ b=>restO k b
 | _,_=>none
def restF (f:Func) (k:Nat):Option Code:=match f.body with
 | some c=>restO k c
 | none=>none
def restC (f:Func) (k:Nat):Code:=(restF f k).getD .skip
def vcN (C:Cfg):Nat->Code->Env->Heap->PostQ->Prop
 | 0,c,E,H,Q=>V C c E H Q
 | k+1,.seq a b,E,H,Q=>vcC C a E H fun e E' H'=>match e with
  | .normal=>vcN C k b E' H' Q
  | .exit i=>Q (.exit i) E' H'
  | .ret=>Q .ret E' H'
  | _=>False
 | _+1,c,E,H,Q=>vcC C c E H Q
theorem vcN_ok {C:Cfg}:∀(k:Nat) (c:Code) (E:Env) (H:Heap) (Q:PostQ),fitsC C.n c=true->vcN C k c E H Q->W C c E H Q
 | 0,c,E,H,Q,hf,h=>h hf
 | k+1,c,E,H,Q,hf,h=>by
  cases c with
  | seq a b=>
   simp only[fitsC,Bool.and_eq_true]at hf
   refine W.seq ((vcC_ok a E H _ hf.1 h).mono ?_)
   intro e E' H' hq
   cases e with
   | normal=>exact vcN_ok k b E' H' Q hf.2 hq
   | exit i=>exact hq
   | ret=>exact hq
   | goto l=>exact hq
   | panic c=>exact hq
   | outgrown=>exact hq
  | _=>exact vcC_ok _ E H Q hf h
theorem callS_cut (k:Nat) {g:FuncId}{fn:Func}{c:Code}{n:Nat}{rs:List ResultVar}{az:List A}{H:Heap}{K:A->Heap->Prop}(hf:P.funcs[g]?=some fn) (hb:fn.body=some c) (hn:fn.ntmps=n)
  (hr:fn.results=rs.toArray) (hnm:(fn.name == "runtime.NumGoroutine")=false) (hl:az.length<=n) (hfit:fitsC n c=true)
  (h:vcN ⟨P,none,n⟩ k c (envOf az) H (RetV P rs K)):CallS P g az H K:=callS_ofW hf hb hn hr hnm hl hfit (vcN_ok k c _ H _ hfit h)
theorem callFz_cut (k:Nat) {g:FuncId}{fn:Func}{c:Code}{n:Nat}{rs:List ResultVar}{az:List A}{r:A}(hf:P.funcs[g]?=some fn) (hb:fn.body=some c) (hn:fn.ntmps=n)
  (hr:fn.results=rs.toArray) (hnm:(fn.name == "runtime.NumGoroutine")=false) (hl:az.length<=n) (hfit:fitsC n c=true)
  (h:vcN ⟨P,none,n⟩ k c (envOf az) [] (RetV P rs fun r' H'=>(frz H' r').1∧(frz H' r').2=r)):CallFn P g az r:=
 (callS_ofW hf hb hn hr hnm hl hfit (vcN_ok k c _ [] _ hfit h)).frz fun _ _ h=>h
attribute [simp] vcN
end
end Go.Proofs.YtpadinblmjlggaaGreatDoor
