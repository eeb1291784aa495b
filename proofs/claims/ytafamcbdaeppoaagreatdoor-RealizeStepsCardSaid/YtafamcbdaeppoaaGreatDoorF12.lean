/- Texts joined by a program: Ha,Hb,Hc,De,Df,Pa. -/
import Derived.Lib.ItoaNum
import Derived.Test.YtafamcbdaeppoaaGreatDoorF11
set_option linter.unusedSimpArgs false
set_option linter.unusedVariables false
set_option maxHeartbeats 4000000
set_option maxRecDepth 10000
namespace Go.Proofs.YtafamcbdaeppoaaGreatDoor
structure Pin where
 part:List UInt8
 port:List UInt8
 deriving DecidableEq
abbrev noPin:Pin:=⟨[],[]⟩
abbrev encPin (p:Pin):List L:=[.str p.part,.str p.port]
structure Made where
 kind:Int
 name:List UInt8
 delay:Int
 signal:Int
 arg:Option Expr
 valve:Int
 line:Int
structure Mk where
 parts:List Made
 joins:List (Pin×Pin)
 number:Nat
 signal:Int
 gates:List (Int×Pin)
abbrev numT (n:Nat):List UInt8:=Go.Lib.decDigits n
def letterT (a:Nat):List UInt8:=[UInt8.ofNat (65+a)]
def ownT (c:Control) (i:Nat):List UInt8:=(if kindAt c i=2 then 84 else 77)::numT i
abbrev supPin:Pin:=⟨[83],[49]⟩
def joinD (a b:Pin):List (Pin×Pin):=if a=noPin∨b=noPin then [] else [(a,b)]
def Mk.add (m:Mk) (kind:Int) (name:List UInt8) (delay line:Int):Mk:={ m with parts:=m.parts++[⟨kind,name,delay,m.signal,none,-1,line⟩] }
def Mk.join (m:Mk) (a b:Pin):Mk:={ m with joins:=m.joins++joinD a b }
def Mk.feed (m:Mk) (name:List UInt8):Mk:=m.join supPin ⟨name,[49]⟩
def getG:List (Int×Pin)->Int->Option Pin
 | [],_=>none
 | q::r,k=>if q.1=k then some q.2 else getG r k
def putG:List (Int×Pin)->Int->Pin->List (Int×Pin)
 | [],k,p=>[(k,p)]
 | q::r,k,p=>if q.1=k then (k,p)::r else q::putG r k p
def portM (c:Control) (gates:List (Int×Pin)) (line:Int):Pin:=
 if line<2*c.actuators then ⟨letterT (line.toNat / 2)++numT (line.toNat % 2),[50]⟩
 else if line<firstC c then ⟨c.inputs.getD (line-2*c.actuators).toNat [],[50]⟩
 else if kindAt c (line-firstC c)=1 then ⟨ownT c (line-firstC c).toNat,[52]⟩
 else if kindAt c (line-firstC c)=2 then ⟨ownT c (line-firstC c).toNat,[50]⟩
 else (getG gates line).getD noPin
structure Dl where
 parts:List Made
 joins:List (Pin×Pin)
 num:Nat
 pin:Pin
def airD (fl:Bool) (p:Pin):List (Pin×Pin):=if fl=true then joinD p supPin else joinD supPin p
def notD (fl:Bool) (sg:Int) (d:Dl) (x:Expr):Dl:=
 ⟨d.parts++[⟨5,78::numT d.num,0,sg,some x,-1,-1⟩],d.joins++airD fl ⟨78::numT d.num,[49]⟩++joinD d.pin ⟨78::numT d.num,[49,48]⟩,d.num+1,⟨78::numT d.num,[50]⟩⟩
def twinD (sg kind:Int) (letter:UInt8) (d:Dl) (p:Pin):Dl:=
 ⟨d.parts++[⟨kind,letter::numT d.num,0,sg,none,-1,-1⟩],d.joins++joinD d.pin ⟨letter::numT d.num,[49]⟩++joinD p ⟨letter::numT d.num,[49,49]⟩,d.num+1,⟨letter::numT d.num,[50]⟩⟩
structure Ds' where
 parts:List Made
 joins:List (Pin×Pin)
 num:Nat
 pins:List Pin
def foldD (sg:Int) (op:Int) (r:Ds'):Dl:=match r.pins with
 | p::ps=>ps.foldl (twinD sg (if op=3 then 9 else 8) (if op=3 then 80 else 81)) ⟨r.parts,r.joins,r.num,p⟩
 | []=>⟨r.parts,r.joins,r.num,noPin⟩
def notsD (fl:Bool) (sg:Int) (r:Ds') (x:Option Expr):Dl:=match x with
 | some y=>notD fl sg ⟨r.parts,r.joins,r.num,r.pins.headD noPin⟩ y
 | none=>⟨r.parts,r.joins,r.num,noPin⟩
mutual
def exprD (fl:Bool) (pf:Int->Pin) (sg:Int):Expr->Nat->Dl
 | ⟨op,ix,args⟩,k=>
  if op=0 then ⟨[],[],k,if ix=1 then supPin else noPin⟩
  else if op=1 then ⟨[],[],k,pf ix⟩
  else if op=2 then notsD fl sg (argsD fl pf sg args k) args.head?
  else foldD sg op (argsD fl pf sg args k)
def argsD (fl:Bool) (pf:Int->Pin) (sg:Int):List Expr->Nat->Ds'
 | [],k=>⟨[],[],k,[]⟩
 | x::xs,k=>
  ⟨(exprD fl pf sg x k).parts++(argsD fl pf sg xs (exprD fl pf sg x k).num).parts,(exprD fl pf sg x k).joins++(argsD fl pf sg xs (exprD fl pf sg x k).num).joins,
    (argsD fl pf sg xs (exprD fl pf sg x k).num).num,(exprD fl pf sg x k).pin::(argsD fl pf sg xs (exprD fl pf sg x k).num).pins⟩
end
theorem exprD_eq (fl:Bool) (pf:Int->Pin) (sg:Int) (x:Expr) (k:Nat):exprD fl pf sg x k =
  if x.op=0 then ⟨[],[],k,if x.index=1 then supPin else noPin⟩
  else if x.op=1 then ⟨[],[],k,pf x.index⟩
  else if x.op=2 then notsD fl sg (argsD fl pf sg x.args k) x.args.head?
  else foldD sg x.op (argsD fl pf sg x.args k):=by
 cases x
 rw[exprD]
theorem argsD_snoc (fl:Bool) (pf:Int->Pin) (sg:Int) (y:Expr):∀(xs:List Expr) (k:Nat),argsD fl pf sg (xs++[y]) k =
  ⟨(argsD fl pf sg xs k).parts++(exprD fl pf sg y (argsD fl pf sg xs k).num).parts,(argsD fl pf sg xs k).joins++(exprD fl pf sg y (argsD fl pf sg xs k).num).joins,
    (exprD fl pf sg y (argsD fl pf sg xs k).num).num,(argsD fl pf sg xs k).pins++[(exprD fl pf sg y (argsD fl pf sg xs k).num).pin]⟩
 | [],k=>by simp[argsD]
 | x::xs,k=>by simp[argsD,argsD_snoc fl pf sg y xs]
theorem argsD_len (fl:Bool) (pf:Int->Pin) (sg:Int):∀(xs:List Expr) (k:Nat),(argsD fl pf sg xs k).pins.length=xs.length
 | [],k=>rfl
 | x::xs,k=>by simp[argsD,argsD_len fl pf sg xs]
def Mk.app (m:Mk) (d:Dl):Mk:={ m with parts:=m.parts++d.parts,joins:=m.joins++d.joins,number:=d.num }
def Mk.expr (c:Control) (m:Mk) (x:Expr):Dl:=exprD false (portM c m.gates) m.signal x m.number
def Mk.valve (m:Mk) (a:Int):Mk:={ m with parts:=m.parts.set (m.parts.length-1) (match m.parts[m.parts.length-1]? with
 | some p=>{ p with valve:=a }
 | none=>⟨0,[],0,0,none,0,0⟩) }
def actM (m:Mk) (a:Nat):Mk:=
 (((((((((m.add 1 (letterT a) 0 (-1)).add 6 (letterT a++[48]) 0 (2*a)).feed (letterT a++[48])).add 6 (letterT a++[49]) 0 (2*a+1)).feed (letterT a++[49])).add 2 (86::letterT a) 0 (-1)).valve a).feed (86::letterT a)).join
   ⟨86::letterT a,[50]⟩ ⟨letterT a,[50]⟩).join ⟨86::letterT a,[52]⟩ ⟨letterT a,[52]⟩
def inM (c:Control) (m:Mk) (i:Nat):Mk:=(m.add 7 (c.inputs.getD i []) 0 (2*c.actuators+i)).feed (c.inputs.getD i [])
def machineM (c:Control):Mk:=(List.range c.inputs.length).foldl (inM c) ((List.range c.actuators.toNat).foldl actM ((⟨[],[],0,-1,[]⟩:Mk).add 0 [83] 0 (-1)))
def Mk.sig (m:Mk) (i:Nat):Mk:={ m with signal:=i }
def gateM (c:Control) (m:Mk) (i:Nat):Mk:=
 if kindAt c i=0 then
  { (m.sig i).app ((m.sig i).expr c (((c.signals[i]?).map (·.on)).getD ⟨0,0,[]⟩)) with gates:=putG m.gates (firstC c+i) ((m.sig i).expr c (((c.signals[i]?).map (·.on)).getD ⟨0,0,[]⟩)).pin }
 else m.sig i
def Mk.to (c:Control) (m:Mk) (x:Expr) (p:Pin):Mk:=(m.app (m.expr c x)).join (m.expr c x).pin p
def sigM (c:Control) (m:Mk) (i:Nat):Mk:=match c.signals[i]? with
 | some x=>
  if x.kind=1 then (((((m.sig i).add 2 (ownT c i) 0 (firstC c+i)).feed (ownT c i)).to c x.on ⟨ownT c i,[49,52]⟩).to c x.off ⟨ownT c i,[49,50]⟩)
  else if x.kind=2 then (((m.sig i).add 12 (ownT c i) x.delay (firstC c+i)).feed (ownT c i)).to c x.on ⟨ownT c i,[49,50]⟩
  else m.sig i
 | none=>m
def pilM (c:Control) (m:Mk) (a:Nat):Mk:=
 (m.join (portM c m.gates (c.plus.getD a 0)) ⟨86::letterT a,[49,52]⟩).join (portM c m.gates (c.minus.getD a 0)) ⟨86::letterT a,[49,50]⟩
def wholeM (c:Control):Mk:=(List.range c.actuators.toNat).foldl (pilM c) ((List.range c.signals.length).foldl (sigM c) ((List.range c.signals.length).foldl (gateM c) (machineM c)))
mutual
def sizeN:Expr->Nat
 | ⟨_,_,args⟩=>1+sizeNL args
def sizeNL:List Expr->Nat
 | []=>0
 | x::xs=>sizeN x+sizeNL xs
end
theorem sizeN_eq (x:Expr):sizeN x=1+sizeNL x.args:=by cases x;rw[sizeN]
theorem size_pre:∀(N:Nat) (x:Expr),SizeOf.sizeOf x<N->∀d:Int,(∀p∈preE x d,p.1<=16)->sizeN x=(preE x d).length
 | 0,_,h,_,_=>absurd h (Nat.not_lt_zero _)
 | N+1,x,hN,d,h1=>by
  have hd:d<=16:=h1 (d,x) (by rw[preE_eq];simp)
  have key:∀l:List Expr,(∀y∈l,y∈x.args)->sizeNL l=(preL l (d+1)).length:=by
   intro l
   induction l with
   | nil=>intro _;rfl
   | cons y l ih=>
    intro hl
    have hy:=hl y (by simp)
    rw[sizeNL,preL,List.length_append,ih fun z hz=>hl z (by simp[hz])]
    rw[size_pre N y (by have:=Expr.lt_of_mem hy;omega) (d+1) fun p hp=>h1 p ?_]
    rw[preE_eq,if_pos hd]
    exact List.mem_cons_of_mem _ (preL_mem hp hy)
  rw[sizeN_eq,preE_eq,if_pos hd,key x.args fun _ h=>h,List.length_cons]
  omega
theorem meas_len:∀ {l:List (Int×Expr)}{s s':Int×Int},l.foldlM measS s=.ok s'->s'.1=s.1+l.length∧(l≠[]->s'.1<=256)
 | [],s,s',h=>by
  simp only[List.foldlM_nil,pure,Except.pure,Except.ok.injEq]at h
  subst h
  exact⟨by simp,fun h=>absurd rfl h⟩
 | q::r,s,s',h=>by
  rw[List.foldlM_cons]at h
  cases hs:measS s q with
  | error e=>rw[hs]at h;simp[bind,Except.bind]at h
  | ok s1=>
   rw[hs]at h
   have h2:=meas_len (l:=r) (s:=s1) (s':=s') h
   unfold measS at hs
   split at hs
   ·cases hs
   ·rename_i hc
    simp only[Except.ok.injEq]at hs
    subst hs
    refine⟨by rw[h2.1];simp;omega,fun _=>?_⟩
    cases r with
    | nil=>have:=h2.1;simp at this;omega
    | cons a b=>exact h2.2 (by simp)
theorem size_check {x:Expr}{n:Int}(h:checkE x n=0):sizeN x<=256:=by
 unfold checkE at h
 split at h
 ·cases h
 ·split at h
  ·cases h
  ·rename_i s hm
   have h1:=meas_len hm
   rw[size_pre (SizeOf.sizeOf x+1) x (by omega) 1 fun p hp=>?_]
   ·have h2:=h1.2 (by rw[preE_eq];simp)
    rw[h1.1]at h2
    simp only at h2
    omega
   ·obtain⟨s1,s2,h3⟩:=fold_ok hm p hp
    unfold measS at h3
    split at h3
    ·cases h3
    ·omega
structure Small (k:Nat) (n:Nat) (ps:List Made) (js:List (Pin×Pin)) (m:Nat):Prop where
 num:m=k+ps.length
 parts:ps.length<=n
 joins:js.length<=3*ps.length
theorem joinD_len (a b:Pin):(joinD a b).length<=1:=by
 unfold joinD
 split<;>simp
theorem airD_len (fl:Bool) (p:Pin):(airD fl p).length<=1:=by
 unfold airD
 split<;>exact joinD_len _ _
theorem twin_small {sg kind:Int}{letter:UInt8}{k:Nat}:∀(ps:List Pin) {n:Nat}{d:Dl},Small k n d.parts d.joins d.num->Small k (n+ps.length) (ps.foldl (twinD sg kind letter) d).parts (ps.foldl (twinD sg kind letter) d).joins (ps.foldl (twinD sg kind letter) d).num
 | [],n,d,h=>by simpa using h
 | p::ps,n,d,h=>by
  have h1:Small k (n+1) (twinD sg kind letter d p).parts (twinD sg kind letter d p).joins (twinD sg kind letter d p).num:=by
   obtain⟨a1,a2,a3⟩:=h
   have j1:=joinD_len d.pin ⟨letter::numT d.num,[49]⟩
   have j2:=joinD_len p ⟨letter::numT d.num,[49,49]⟩
   refine⟨?_,?_,?_⟩
   ·simp only[twinD,List.length_append,List.length_cons,List.length_nil];omega
   ·simp only[twinD,List.length_append,List.length_cons,List.length_nil];omega
   ·simp only[twinD,List.length_append,List.length_cons,List.length_nil];omega
  have h2:=twin_small (sg:=sg) (kind:=kind) (letter:=letter) ps h1
  rw[List.foldl_cons,List.length_cons,show n+(ps.length+1)=n+1+ps.length by omega]
  exact h2
theorem sizeN_pos (x:Expr):1<=sizeN x:=by rw[sizeN_eq];omega
theorem sizeNL_len:∀xs:List Expr,xs.length<=sizeNL xs
 | []=>by simp
 | x::xs=>by
  have:=sizeNL_len xs
  have:=sizeN_pos x
  rw[sizeNL,List.length_cons]
  omega
mutual
theorem expr_small (fl:Bool) (pf:Int->Pin) (sg:Int):∀(x:Expr) (k:Nat),Small k (sizeN x-1) (exprD fl pf sg x k).parts (exprD fl pf sg x k).joins (exprD fl pf sg x k).num
 | ⟨op,ix,args⟩,k=>by
  have h:=args_small fl pf sg args k
  have hl:=argsD_len fl pf sg args k
  have hn:=sizeNL_len args
  rw[exprD_eq,sizeN_eq]
  dsimp only
  split
  ·exact⟨by simp,by simp,by simp⟩
  ·split
   ·exact⟨by simp,by simp,by simp⟩
   ·generalize argsD fl pf sg args k=r at *
    obtain⟨r1,r2,r3,r4⟩:=r
    dsimp only at h hl ⊢
    split
    ·obtain⟨a1,a2,a3⟩:=h
     have j1:=airD_len fl ⟨78::numT r3,[49]⟩
     have j2:=joinD_len (r4.headD noPin) ⟨78::numT r3,[49,48]⟩
     cases args with
     | nil=>exact⟨a1,by simp only[notsD,List.head?_nil];omega,a3⟩
     | cons y ys=>
      simp only[List.length_cons]at a2 hn
      simp only[List.head?_cons,notsD]
      refine⟨?_,?_,?_⟩
      ·simp only[notD,List.length_append,List.length_cons,List.length_nil];omega
      ·simp only[notD,List.length_append,List.length_cons,List.length_nil];omega
      ·simp only[notD,List.length_append,List.length_cons,List.length_nil];omega
    ·unfold foldD
     dsimp only
     cases r4 with
     | nil=>exact⟨h.num,by have:=h.parts;dsimp only;omega,h.joins⟩
     | cons p ps=>
      have h2:=twin_small (sg:=sg) (kind:=if op=3 then 9 else 8) (letter:=if op=3 then 80 else 81) ps (d:=⟨r1,r2,r3,p⟩) h
      simp only[List.length_cons]at hl
      exact⟨h2.num,Nat.le_trans h2.parts (by omega),h2.joins⟩
theorem args_small (fl:Bool) (pf:Int->Pin) (sg:Int):∀(xs:List Expr) (k:Nat),Small k (sizeNL xs-xs.length) (argsD fl pf sg xs k).parts (argsD fl pf sg xs k).joins (argsD fl pf sg xs k).num
 | [],k=>⟨by simp[argsD],by simp[argsD],by simp[argsD]⟩
 | x::xs,k=>by
  obtain⟨a1,a2,a3⟩:=expr_small fl pf sg x k
  obtain⟨b1,b2,b3⟩:=args_small fl pf sg xs (exprD fl pf sg x k).num
  have hn:=sizeNL_len xs
  have hx:=sizeN_pos x
  rw[argsD,sizeNL]
  refine⟨?_,?_,?_⟩
  ·simp only[List.length_append];omega
  ·simp only[List.length_append,List.length_cons];omega
  ·simp only[List.length_append];omega
end
structure Dr where
 gears:List Made
 links:List (Pin×Pin)
 ends:List Pin
 count:Nat
def Dr.link (d:Dr) (a b:Pin):Dr:={ d with links:=d.links++joinD a b }
def Dr.put (d:Dr) (p:Made) (air:Bool):Dr:={ d with gears:=d.gears++[p],links:=d.links++(if air=true then joinD ⟨p.name,[49]⟩ supPin else []) }
def Dr.ended (d:Dr) (l:List Pin):Dr:={ d with ends:=d.ends++l }
def Dr.app (d:Dr) (x:Dl):Dr:={ d with gears:=d.gears++x.parts,links:=d.links++x.joins,count:=x.num }
def Dr.expr (d:Dr) (x:Expr) (sg:Int):Dl:=exprD true (fun i=>d.ends.getD i.toNat noPin) sg x d.count
def actR (d:Dr) (a:Nat):Dr:=
 ((((((d.put ⟨1,letterT a,0,-1,none,-1,-1⟩ false).put ⟨6,letterT a++[48],0,-1,none,-1,2*a⟩ true).put ⟨6,letterT a++[49],0,-1,none,-1,2*a+1⟩ true).put ⟨2,86::letterT a,0,-1,none,a,-1⟩ true).link
   ⟨86::letterT a,[50]⟩ ⟨letterT a,[50]⟩).link ⟨86::letterT a,[52]⟩ ⟨letterT a,[52]⟩).ended [⟨letterT a++[48],[50]⟩,⟨letterT a++[49],[50]⟩]
def inR37 (c:Control) (d:Dr) (i:Nat):Dr:=(d.put ⟨7,c.inputs.getD i [],0,-1,none,-1,2*c.actuators+i⟩ true).ended [⟨c.inputs.getD i [],[50]⟩]
def sigF (c:Control) (d:Dr) (i:Nat):Dr:=match c.signals[i]? with
 | some x=>
  if x.kind=1 then (d.put ⟨2,ownT c i,0,i,none,-1,firstC c+i⟩ true).ended [⟨ownT c i,[52]⟩]
  else if x.kind=2 then (d.put ⟨12,ownT c i,x.delay,i,none,-1,firstC c+i⟩ true).ended [⟨ownT c i,[50]⟩]
  else d.ended [noPin]
 | none=>d
def frameR (c:Control):Dr:=(List.range c.signals.length).foldl (sigF c) ((List.range c.inputs.length).foldl (inR37 c) ((List.range c.actuators.toNat).foldl actR ((⟨[],[],[],0⟩:Dr).put ⟨0,[83],0,-1,none,-1,-1⟩ false)))
def gateR (c:Control) (d:Dr) (i:Nat):Dr:=match c.signals[i]? with
 | some x=>if x.kind=0 then { d.app (d.expr x.on i) with ends:=d.ends.set (firstC c+i).toNat (d.expr x.on i).pin } else d
 | none=>d
def Dr.to (d:Dr) (x:Expr) (sg:Int) (p:Pin):Dr:=(d.app (d.expr x sg)).link (d.expr x sg).pin p
def sigR (c:Control) (d:Dr) (i:Nat):Dr:=match c.signals[i]? with
 | some x=>
  if x.kind=0 then d
  else if x.kind=2 then d.to x.on i ⟨ownT c i,[49,50]⟩
  else (d.to x.on i ⟨ownT c i,[49,52]⟩).to x.off i ⟨ownT c i,[49,50]⟩
 | none=>d
def pilR (c:Control) (d:Dr) (a:Nat):Dr:=
 (d.link (d.ends.getD (c.plus.getD a 0).toNat noPin) ⟨86::letterT a,[49,52]⟩).link (d.ends.getD (c.minus.getD a 0).toNat noPin) ⟨86::letterT a,[49,50]⟩
def wholeR (c:Control):Dr:=(List.range c.actuators.toNat).foldl (pilR c) ((List.range c.signals.length).foldl (sigR c) ((List.range c.signals.length).foldl (gateR c) (frameR c)))
inductive Flips:List (Pin×Pin)->List (Pin×Pin)->Prop
 | nil:Flips [] []
 | keep {p l m}:Flips l m->Flips (p::l) (p::m)
 | swap {a b l m}:Flips l m->Flips ((a,b)::l) ((b,a)::m)
theorem Flips.refl:∀l,Flips l l
 | []=>.nil
 | _::l=>.keep (Flips.refl l)
theorem Flips.app {l m l' m':List (Pin×Pin)}(h:Flips l m) (h':Flips l' m'):Flips (l++l') (m++m'):=by
 induction h with
 | nil=>exact h'
 | keep _ ih=>exact .keep ih
 | swap _ ih=>exact .swap ih
theorem joinD_flip (a b:Pin):Flips (joinD a b) (joinD b a):=by
 unfold joinD
 by_cases h:a=noPin∨b=noPin
 ·rw[if_pos h,if_pos h.symm]
  exact .nil
 ·rw[if_neg h,if_neg fun e=>h e.symm]
  exact .swap .nil
theorem airD_flip (p:Pin):Flips (airD false p) (airD true p):=joinD_flip _ _
structure SameD (a b:Dl):Prop where
 parts:a.parts=b.parts
 joins:Flips a.joins b.joins
 num:a.num=b.num
 pin:a.pin=b.pin
theorem twin_same {sg kind:Int}{letter:UInt8}:∀(ps:List Pin) {a b:Dl},SameD a b->SameD (ps.foldl (twinD sg kind letter) a) (ps.foldl (twinD sg kind letter) b)
 | [],a,b,h=>h
 | p::ps,a,b,h=>by
  refine twin_same ps ?_
  obtain⟨a1,a2,a3,a4⟩:=a
  obtain⟨b1,b2,b3,b4⟩:=b
  obtain⟨rfl,h2,rfl,rfl⟩:=h
  exact⟨rfl,(h2.app (Flips.refl _)).app (Flips.refl _),rfl,rfl⟩
mutual
theorem expr_same {pf qf:Int->Pin}(sg:Int):∀(x:Expr) (k:Nat),(∀v∈varsE x,pf v=qf v)->SameD (exprD false pf sg x k) (exprD true qf sg x k)
 | ⟨op,ix,args⟩,k,h=>by
  have ha:=args_same (pf:=pf) (qf:=qf) sg args k fun v hv=>h v (by simp only[varsE];exact List.mem_append_right _ hv)
  obtain⟨h1,h2,h3,h4⟩:=ha
  rw[exprD_eq,exprD_eq]
  dsimp only
  split
  ·exact⟨rfl,.nil,rfl,rfl⟩
  ·split
   ·rename_i h1
    exact⟨rfl,.nil,rfl,h ix (by simp[varsE,h1])⟩
   ·generalize argsD false pf sg args k=r at *
    generalize argsD true qf sg args k=q at *
    obtain⟨r1,r2,r3,r4⟩:=r
    obtain⟨q1,q2,q3,q4⟩:=q
    dsimp only at h1 h2 h3 h4 ⊢
    subst h1 h3 h4
    split
    ·unfold notsD
     cases args.head? with
     | none=>exact⟨rfl,h2,rfl,rfl⟩
     | some y=>exact⟨rfl,(h2.app (airD_flip _)).app (Flips.refl _),rfl,rfl⟩
    ·unfold foldD
     dsimp only
     cases r4 with
     | nil=>exact⟨rfl,h2,rfl,rfl⟩
     | cons p ps=>exact twin_same ps ⟨rfl,h2,rfl,rfl⟩
theorem args_same {pf qf:Int->Pin}(sg:Int):∀(xs:List Expr) (k:Nat),(∀v∈varsL xs,pf v=qf v)->(argsD false pf sg xs k).parts=(argsD true qf sg xs k).parts∧Flips (argsD false pf sg xs k).joins (argsD true qf sg xs k).joins ∧
  (argsD false pf sg xs k).num=(argsD true qf sg xs k).num∧(argsD false pf sg xs k).pins=(argsD true qf sg xs k).pins
 | [],k,_=>⟨rfl,.nil,rfl,rfl⟩
 | x::xs,k,h=>by
  obtain⟨a1,a2,a3,a4⟩:=expr_same (pf:=pf) (qf:=qf) sg x k fun v hv=>h v (by simp only[varsL];exact List.mem_append_left _ hv)
  obtain⟨b1,b2,b3,b4⟩:=args_same (pf:=pf) (qf:=qf) sg xs (exprD false pf sg x k).num fun v hv=>h v (by simp only[varsL];exact List.mem_append_right _ hv)
  simp only[argsD]
  rw[<- a3]
  exact⟨by rw[a1,b1],a2.app b2,b3,by rw[a4,b4]⟩
end
theorem grow_o (n:Int) (h0:0<=n) (h1:n<=4294967296):CallOwn Tryz.prog 327 [.nils,aI n] 3 1 []:=by
 refine callO_of Tryz.func327 rfl Tryz.ntmps327 (rs:=[.tmp 4]) rfl (by kernel_rfl) (by simp) (by kernel_rfl) ?_
 by_cases hn:0<n
 ·simp[hn,Int.not_lt.2 h0]
  omega
 ·have e:n=0:=by omega
  subst e
  simp
def sumL (xss:List (List Int)):Nat:=(xss.map List.length).sum
theorem concat_o (xss:List (List Int)) (h:sumL xss<=4294967296) (h1:xss.length<=4294967296):CallOwn Tryz.prog 244 [.dat (.sl (xss.map fun xs=>[.sl (xs.map encI)]))] 3 1 (xss.flatten.map rI):=by
 refine callO_of Tryz.func244 rfl Tryz.ntmps244 (rs:=[.tmp 2]) rfl (by kernel_rfl) (by simp) (by kernel_rfl) ?_
 have hle:∀i,(xss.take i).flatten.length<=sumL xss:=by
  intro i
  have e:xss=xss.take i++xss.drop i:=(List.take_append_drop i xss).symm
  have:sumL xss=sumL (xss.take i)+sumL (xss.drop i):=by
   unfold sumL
   conv=>lhs;rw[e]
   rw[List.map_append,List.sum_append]
  rw[List.length_flatten]
  unfold sumL at this ⊢
  omega
 have hst:∀i y,xss[i]?=some y->(xss.take (i+1)).flatten=(xss.take i).flatten++y:=by
  intro i y hy
  rw[List.take_add_one,hy]
  simp
 obtain⟨L,hL⟩:∃L:Nat->Nat,∀i,L i=(xss.take i).flatten.length:=⟨_,fun _=>rfl⟩
 have hL0:L 0=0:=by simp[hL]
 have hLs:∀i y,xss[i]?=some y->L (i+1)=L i+y.length:=by
  intro i y hy
  rw[hL,hL,hst i y hy,List.length_append]
 have hLm:∀i,L i<=sumL xss:=fun i=>by rw[hL];exact hle i
 simp
 refine V.forI (σ:=Unit) xss.length [0,2,9,10] (by simp;exact rfl) (fun i _=>[(11,aI i),(3,aI (L i))]) (fun _ _=>[]) (fun _ _=>True) () (by simp) (by simp[hL0]) ⟨by simp;exact rfl,by simp⟩ ?_ ?_
 ·rintro i-hi -
  have hy:=List.getElem?_eq_getElem hi
  have hs:=hLs i _ hy
  have hl:=hLm (i+1)
  simp[hi,hs]
  omega
 ·rintro - -
  have hl:=hLm xss.length
  simp
  refine (grow_o _ (by omega) (by omega)).s 50 ?_
  intro hd
  simp
  refine V.forL (γ:=Value) xss [2,25,26] (by simp;exact rfl) (fun i _ g=>[(27,aI i),(6,.own 50 g)]) (fun i _ g=>[(50,.seq g 3 1 ((xss.take i).flatten.map rI))]) (fun (_:Unit) (_:List Int)=>(Except.ok ():Except Unit Unit)) (fun _ _=>True) () hd trivial (by simp) ⟨by simp;exact rfl,by simp⟩ ?_ ?_
  ·rintro i-g y hi hy - -
   have hy':xss[i]?=some y:=by rw[List.getElem?_eq_getElem hi,hy]
   have hs:=hst i _ hy'
   have hl2:=hle (i+1)
   rw[hs,List.length_append]at hl2
   rw[hs]
   generalize (xss.take i).flatten=zs at hl2
   simp[hi,hy]
   omega
  ·rintro-g - -
   simp
theorem rowsD_I (xs:List Int):rowsD (xs.map rI)=xs.map encI:=by unfold rowsD;rw[List.map_map];rfl
theorem rowsD_B (xs:List Bool):rowsD (xs.map rB)=xs.map encB:=by unfold rowsD;rw[List.map_map];rfl
theorem allD_I (xs:List Int):allD (xs.map rI)=true:=by simp[allD,isD]
theorem allD_B (xs:List Bool):allD (xs.map rB)=true:=by simp[allD,isD]
attribute [simp] rowsD_I rowsD_B allD_I allD_B
theorem concat_fn (xss:List (List Int)) (h:sumL xss<=4294967296) (h1:xss.length<=4294967296):CallFn Tryz.prog 244 [.dat (.sl (xss.map fun xs=>[.sl (xs.map encI)]))] (aIs xss.flatten):=by
 have:=(concat_o xss h h1).fn (by simp[allD,isD])
 rwa [rowsD_I]at this
def firstErr {ι:Type}(f:ι->Int):List ι->Int
 | []=>0
 | x::xs=>if f x≠0 then f x else firstErr f xs
def NoE (f:Nat->Int) (n:Nat):Prop:=∀j,j<n->f j=0
theorem NoE.zero (f:Nat->Int):NoE f 0:=fun j h=>absurd h (Nat.not_lt_zero j)
theorem NoE.succ {f:Nat->Int}{n:Nat}(h:NoE f n) (e:f n=0):NoE f (n+1):=fun j hj=>by
 rcases Nat.lt_or_ge j n with h1 | h1
 ·exact h j h1
 ·obtain rfl:j=n:=by omega
  exact e
theorem firstErr_app {ι:Type}(f:ι->Int):∀(l r:List ι),(∀x∈l,f x=0)->firstErr f (l++r)=firstErr f r
 | [],_,_=>rfl
 | x::l,r,h=>by
  simp only[List.cons_append,firstErr,h x (by simp),ne_eq,not_true_eq_false,if_false]
  exact firstErr_app f l r fun y hy=>h y (by simp[hy])
theorem firstErr_at {f:Nat->Int}{n i:Nat}(h:NoE f i) (hi:i<n) (e:f i≠0):firstErr f (List.range n)=f i:=by
 have e1:List.range n=List.range i++(i::(List.range n).drop (i+1)):=by
  have h1:=List.take_append_drop i (List.range n)
  rw[List.take_range,Nat.min_eq_left (by omega)]at h1
  rw[<- h1]
  congr 1
  rw[h1,List.drop_eq_getElem_cons (by simpa using hi)]
  simp
 rw[e1,firstErr_app f _ _ (fun x hx=>h x (by simpa using hx))]
 simp[firstErr,e]
theorem firstErr_all {f:Nat->Int}{n:Nat}(h:NoE f n):firstErr f (List.range n)=0:=by
 have:=firstErr_app f (List.range n) [] (fun x hx=>h x (by simpa using hx))
 simpa [firstErr]using this
theorem firstErr_zero {f:Nat->Int}:∀ {n:Nat},firstErr f (List.range n)=0->NoE f n:=by
 intro n h j hj
 by_cases hz:f j=0
 ·exact hz
 ·-- the least index with an error
  have hex:∃k,k<=j∧f k≠0∧NoE f k:=by
   clear h hj n
   induction j using Nat.strongRecOn with
   | ind j ih=>
    by_cases hn:NoE f j
    ·exact⟨j,Nat.le_refl _,hz,hn⟩
    ·simp only[NoE,Classical.not_forall]at hn
     obtain⟨m,hm,hmz⟩:=hn
     obtain⟨k,h1,h2,h3⟩:=ih m hm hmz
     exact⟨k,by omega,h2,h3⟩
  obtain⟨k,h1,h2,h3⟩:=hex
  rw[firstErr_at h3 (by omega) h2]at h
  exact absurd h h2
def namesB (c:Control) (n:Nat):List (List UInt8):=(List.range n).map fun k:Nat=>namedC c k
theorem namesB_succ (c:Control) (n:Nat):namesB c (n+1)=namesB c n++[namedC c n]:=by simp[namesB,List.range_succ]
@[simp] theorem namesB_length (c:Control) (n:Nat):(namesB c n).length=n:=by simp[namesB]
def inpE (c:Control) (i:Nat):Int:=nameE (namedC c (2*c.actuators.toNat+i:Nat)) (namesB c (2*c.actuators.toNat+i))
def sigE (c:Control) (i:Nat):Int:=match c.signals[i]? with
 | some s=>signalE c i s (namesB c (2*c.actuators.toNat+c.inputs.length+i))
 | none=>0
def pilotE (c:Control):Int:=
 if (c.plus.length:Int)≠c.actuators∨(c.minus.length:Int)≠c.actuators then 8
 else if (c.plus++c.minus).any (fun l=>decide (l<0)||decide (countC c<=l)) then 6 else 0
def checkC (c:Control):Int:=
 if c.actuators<1∨c.actuators>6 then 2
 else if c.inputs.length>16∨c.signals.length>64 then 5
 else if firstErr (inpE c) (List.range c.inputs.length)≠0 then firstErr (inpE c) (List.range c.inputs.length)
 else if firstErr (sigE c) (List.range c.signals.length)≠0 then firstErr (sigE c) (List.range c.signals.length)
 else pilotE c
theorem lineName_eq (k:Nat) (hk:k<12):lineName k=[UInt8.ofNat (97+k / 2),UInt8.ofNat (48+k % 2)]:=by
 unfold lineName
 have ed:Int.tdiv (k:Int) 2=((k / 2:Nat):Int):=by rw[Int.tdiv_eq_ediv_of_nonneg (by omega)];rfl
 have em:Int.tmod (k:Int) 2=((k % 2:Nat):Int):=by rw[Int.tmod_eq_emod_of_nonneg (by omega)];rfl
 rw[ed,em,encU_ascii (by omega) (by omega),encU_ascii (by omega) (by omega)]
 simp only[List.singleton_append,List.cons.injEq,and_true]
 constructor<;>congr 1
theorem lineName_inj {j k:Nat}(hj:j<12) (hk:k<12) (h:lineName j=lineName k):j=k:=by
 rw[lineName_eq j hj,lineName_eq k hk]at h
 simp only[List.cons.injEq,and_true]at h
 obtain⟨h1,h2⟩:=h
 have e1:=congrArg UInt8.toNat h1
 have e2:=congrArg UInt8.toNat h2
 simp only[UInt8.toNat_ofNat']at e1 e2
 omega
theorem named_line {c:Control}{k:Nat}(h:(k:Int)<2*c.actuators):namedC c k=lineName k:=by
 unfold namedC;rw[if_pos h]
theorem closure1_fn (c:Control) (h:Sm c) (n:Int):CallFn Tryz.prog 245 [aI n,.rptr (encC c)] (aB (decide (n<0)||decide (countC c<=n))):=by
 refine callFz_of Tryz.func245 rfl Tryz.ntmps245 (rs:=[.tmp 3]) rfl (by kernel_rfl) (by simp) (by kernel_rfl) ?_
 simp
 refine GCall.fn (aI (countC c)) (fun hn=>⟨by omega,count_c c h⟩) ?_
 simp
theorem vars_right {n:Int}:∀(N:Nat) (x:Expr),SizeOf.sizeOf x<N->RightE n x->∀k∈varsE x,0<=k∧k<n
 | 0,_,h,_,_,_=>absurd h (Nat.not_lt_zero _)
 | N+1,x,hN,hr,k,hk=>by
  rw[varsE_eq]at hk
  rcases List.mem_append.1 hk with hk | hk
  ·split at hk
   ·rename_i hop
    simp only[List.mem_singleton]at hk
    subst hk
    have:=hr.node
    unfold nodeR at this
    simp only[hop]at this
    split at this<;>try omega
    split at this<;>try omega
    simp at this
    omega
   ·simp at hk
  ·have hL:∀l:List Expr,(∀y∈l,y∈x.args)->k∈varsL l->0<=k∧k<n:=by
    intro l
    induction l with
    | nil=>intro _ h;simp[varsL]at h
    | cons y l ih=>
     intro hl h
     simp only[varsL,List.mem_append]at h
     rcases h with h | h
     ·have hm:=hl y (by simp)
      exact vars_right N y (by have:=Expr.lt_of_mem hm;omega) (hr.args y hm) k h
     ·exact ih (fun z hz=>hl z (by simp[hz])) h
   exact hL x.args (fun _ h=>h) hk
theorem vars_check {x:Expr}{n:Int}(h:checkE x n=0):∀k∈varsE x,0<=k∧k<n:=vars_right (SizeOf.sizeOf x+1) x (by omega) (right_of_check h).1
theorem line_notin {c:Control}{k:Nat}(h:(k:Int)<2*c.actuators) (ha:c.actuators<=6):namedC c k∉namesB c k:=by
 intro hm
 obtain⟨j,hj,e⟩:=List.mem_map.1 hm
 simp only[List.mem_range]at hj
 rw[named_line (c:=c) (k:=j) (by omega),named_line h]at e
 have:=lineName_inj (by omega) (by omega) e
 omega
theorem check_s (c:Control) (hc:OkC c):CallS Tryz.prog 167 [aC c] [] fun r H'=>(checkC c=0->∃m,r=.tuple [.map 30 m,aI 0]∧H'=[chkMap m (namesB c (countC c).toNat)])∧(checkC c≠0->r=.tuple [.any,aI (checkC c)]∧H'=[]):=by
 refine CallS.dropP (callS_of Tryz.func167 rfl Tryz.ntmps167 (rs:=[.tmp 2,.tmp 3]) rfl (by kernel_rfl) (by simp) (by kernel_rfl) (K:=fun r H'=>(checkC c=0->∃m,r=.tuple [.map 30 m,aI 0]∧subP [chkMap m (namesB c (countC c).toNat)] H')∧(checkC c≠0->r=.tuple [.any,aI (checkC c)])) ?_) ?_
 ·by_cases ha:c.actuators<1∨c.actuators>6
  ·have e:checkC c=2:=by simp[checkC,ha]
   rw[e]
   simp
   intro h1 h2
   omega
  ·have ha':1<=c.actuators∧c.actuators<=6∧¬c.actuators<1∧¬ 6<c.actuators:=by omega
   by_cases hm:c.inputs.length>16∨c.signals.length>64
   ·have e:checkC c=5:=by simp only[checkC];rw[if_neg ha,if_pos hm]
    rw[e]
    simp[ha'.1,ha'.2]
    intro h1 h2
    omega
   ·have hsm:Sm c:=⟨by omega,by omega,by omega⟩
    obtain⟨N,hN⟩:∃N:Nat,c.actuators=N:=⟨c.actuators.toNat,by omega⟩
    have hNN:c.actuators.toNat=N:=by omega
    have hm':(c.inputs.length:Int)<=16∧(c.signals.length:Int)<=64∧¬ 16<(c.inputs.length:Int)∧¬ 64<(c.signals.length:Int):=by omega
    have hcn:countC c=2*c.actuators+c.inputs.length+c.signals.length:=rfl
    have e:checkC c=if firstErr (inpE c) (List.range c.inputs.length)≠0 then firstErr (inpE c) (List.range c.inputs.length)
      else if firstErr (sigE c) (List.range c.signals.length)≠0 then firstErr (sigE c) (List.range c.signals.length) else pilotE c:=by
     simp only[checkC];rw[if_neg ha,if_neg hm]
    simp[ha'.1,ha'.2,hm'.1,hm'.2]
    intro m b
    refine⟨by omega,?_⟩
    refine V.forI (σ:=Unit) (2*N) [1,2,3,4,45] (by simp;exact rfl) (fun i _=>[(46,aI i)]) (fun i _=>[chkMap m (namesB c i)]) (fun _ _=>True) () trivial (by simp) ⟨by simp;exact rfl,by simp[namesB,mapOf]⟩ ?_ ?_
    ·rintro i-hi -
     have hin:(i:Int)<2*c.actuators:=by omega
     simp[hin]
     refine V.draw (fun t=>if t=55 then some (.fn (aT (namedC c i))) else none) (by kernel_rfl) (by kernel_rfl) (by simp) ?_
     have e1:=named_fn c hsm ⟨by omega,by omega⟩ i (by omega) (by omega)
     have e2:=mput_of (line_notin (c:=c) (k:=i) hin (by omega))
     simp at e1 e2 ⊢
     rw[e2,<- namesB_succ]
     exact⟨e1,by omega,rfl⟩
    ·rintro - -
     have hin:¬((N:Int)<c.actuators)∧c.actuators<=N:=by omega
     simp[hin.1,hin.2]
     refine V.forI (σ:=Unit) c.inputs.length [1,4,59,60] (by simp;exact rfl) (fun i _=>[(61,aI i)]) (fun i _=>[chkMap m (namesB c (2*N+i))]) (fun i _=>NoE (inpE c) i) () (NoE.zero _) (by simp) ⟨by simp;exact rfl,by simp⟩ ?_ ?_
     ·rintro i-hi hI
      obtain⟨y,hy⟩:∃y,c.inputs[i]=y:=⟨_,rfl⟩
      have hn:namedC c (2*N+i:Nat)=y:=by
       refine named_inp (by omega) (by simp only[firstC];omega) ?_
       rw[<- hy,show ((2*N+i:Nat)-2*c.actuators:Int).toNat=i by omega]
       exact List.getElem?_eq_getElem hi
      have hin:inpE c i=nameE y (namesB c (2*N+i)):=by rw[inpE,hNN,hn]
      simp[hi,hy]
      refine ((cname_s b m c y (hc.names y (hy▸List.getElem_mem hi)) (namesB c (2*N+i)) (by simp;omega)).perm (List.Perm.swap _ _ _)).mono ?_
      rintro rr H' ⟨rfl,rfl⟩
      rw[<- hin]
      by_cases hz:inpE c i=0
      ·have hs:=namesB_succ c (2*N+i)
       rw[hn]at hs
       simp[hz]
       exact⟨by omega,hI.succ hz,by rw[<- hs];rfl⟩
      ·have hf:=firstErr_at hI hi hz
       have e':checkC c=inpE c i:=by rw[e,hf,if_pos hz]
       simp[hz,e']
     ·rintro-hI
      have hf:=firstErr_all hI
      rw[hf]at e
      simp at e
      simp
      refine V.forI (σ:=Unit) c.signals.length [1,4,74] (by simp;exact rfl) (fun i _=>[(75,aI i)]) (fun i _=>[chkMap m (namesB c (2*N+c.inputs.length+i))]) (fun i _=>NoE (sigE c) i) () (NoE.zero _) (by simp) ⟨by simp;exact rfl,by simp⟩ ?_ ?_
      ·rintro i-hi hI2
       obtain⟨y,hy⟩:∃y,c.signals[i]=y:=⟨_,rfl⟩
       have hyo:c.signals[i]?=some y:=by rw[List.getElem?_eq_getElem hi,hy]
       have hn:namedC c (2*N+c.inputs.length+i:Nat)=y.name:=by
        refine named_sig (s:=y) (by simp only[firstC];omega) (by simp only[firstC];omega) ?_
        rw[show ((2*N+c.inputs.length+i:Nat)-firstC c:Int).toNat=i by simp only[firstC];omega]
        exact hyo
       have hsE:sigE c i=signalE c i y (namesB c (2*N+c.inputs.length+i)):=by simp only[sigE,hyo,hNN]
       simp[hi]
       refine ((signal_s b m c hsm i y hyo (hc.sigs y (hy▸List.getElem_mem hi)) (namesB c (2*N+c.inputs.length+i)) (by simp;omega) (fun h=>vars_check h)).perm (List.Perm.swap _ _ _)).mono ?_
       rintro rr H' ⟨rfl,rfl⟩
       rw[<- hsE]
       by_cases hz:sigE c i=0
       ·have hs:=namesB_succ c (2*N+c.inputs.length+i)
        rw[hn]at hs
        have hne:nameE y.name (namesB c (2*N+c.inputs.length+i))=0:=by
         rw[hsE]at hz
         by_cases h0:nameE y.name (namesB c (2*N+c.inputs.length+i))=0
         ·exact h0
         ·simp[signalE,h0]at hz
        simp[hz,hne]
        exact⟨by omega,hI2.succ hz,by rw[<- hs];rfl⟩
       ·have hf:=firstErr_at hI2 hi hz
        have e':checkC c=sigE c i:=by rw[e,hf,if_neg hz]
        simp[hz,e']
      ·rintro-hI2
       have hf:=firstErr_all hI2
       rw[hf]at e
       simp at e
       by_cases hpl:(c.plus.length:Int)≠c.actuators∨(c.minus.length:Int)≠c.actuators
       ·have e':checkC c=8:=by rw[e,pilotE,if_pos hpl]
        rw[e']
        simp
        intro h1 h2
        omega
       ·have h1:(c.plus.length:Int)=c.actuators:=by omega
        have h2:(c.minus.length:Int)=c.actuators:=by omega
        have e':checkC c=if (c.plus++c.minus).any (fun l=>decide (l<0)||decide (countC c<=l)) then 6 else 0:=by rw[e,pilotE,if_neg hpl]
        have hcc:=concat_fn [c.plus,c.minus] (by simp[sumL];omega) (by simp)
        simp at hcc
        simp[h1,h2]
        refine hcc.s ?_
        simp
        refine (containsF_fn (c.plus++c.minus) (fun l=>decide (l<0)||decide (countC c<=l)) 245 [] [.rptr (encC c)] (by simp;omega) (fun n _=>by simpa using closure1_fn c hsm n)).s ?_
        cases hany:(c.plus++c.minus).any (fun l=>decide (l<0)||decide (countC c<=l))
        ·rw[hany]at e'
         simp at e'
         rw[e']
         simp
         rw[show (countC c).toNat=2*N+c.inputs.length+c.signals.length by omega]
         exact⟨_,List.singleton_sublist.2 (List.mem_cons_self),List.Perm.refl _⟩
        ·rw[hany]at e'
         simp at e'
         rw[e']
         simp
 ·rintro r H' ⟨h1,h2⟩
  by_cases hz:checkC c=0
  ·obtain⟨m,e1,e2⟩:=h1 hz
   exact⟨_,e2,fun _=>⟨m,e1,rfl⟩,fun h=>absurd hz h⟩
  ·exact⟨[],⟨[],List.nil_sublist _,List.Perm.refl _⟩,fun h=>absurd h hz,fun _=>⟨h2 hz,rfl⟩⟩
theorem Check_fn (c:Control) (hc:OkC c):CallFn Tryz.prog 102 [aC c] (aI (checkC c)):=by
 refine callFz_of Tryz.func102 rfl Tryz.ntmps102 (rs:=[.tmp 2]) rfl (by kernel_rfl) (by simp) (by kernel_rfl) ?_
 simp
 refine (CallS.frame (H1:=[]) (check_s c hc)).mono ?_
 rintro r H' ⟨H2,⟨h1,h2⟩,rfl⟩
 by_cases hz:checkC c=0
 ·obtain⟨m,rfl,rfl⟩:=h1 hz
  simp[hz]
 ·obtain⟨rfl,rfl⟩:=h2 hz
  simp
mutual
def szE:Expr->Nat
 | ⟨_,_,args⟩=>1+szL args
def szL:List Expr->Nat
 | []=>0
 | x::xs=>szE x+szL xs
end
mutual
def dpE:Expr->Nat
 | ⟨_,_,args⟩=>1+dpL args
def dpL:List Expr->Nat
 | []=>0
 | x::xs=>max (dpE x) (dpL xs)
end
theorem szE_eq (x:Expr):szE x=1+szL x.args:=by cases x;simp[szE]
theorem dpE_eq (x:Expr):dpE x=1+dpL x.args:=by cases x;simp[dpE]
mutual
def ndE:Expr->List Expr
 | ⟨op,ix,args⟩=>⟨op,ix,args⟩::ndL args
def ndL:List Expr->List Expr
 | []=>[]
 | x::xs=>ndE x++ndL xs
end
mutual
theorem ndE_len:∀x:Expr,(ndE x).length=szE x
 | ⟨op,ix,args⟩=>by simp[ndE,szE,ndL_len args];omega
theorem ndL_len:∀l:List Expr,(ndL l).length=szL l
 | []=>by simp[ndL,szL]
 | x::xs=>by simp[ndL,szL,ndE_len x,ndL_len xs]
end
mutual
theorem preE_all:∀(x:Expr) (d:Int),d+dpE x<=17->(preE x d).map (·.2)=ndE x∧∀p∈preE x d,p.1<=16
 | ⟨op,ix,args⟩,d,h=>by
  simp only[dpE]at h
  have hd:d<=16:=by omega
  obtain⟨h1,h2⟩:=preL_all args (d+1) (by omega)
  simp only[preE,hd,if_true,List.map_cons,ndE,h1,true_and]
  intro p hp
  rcases List.mem_cons.1 hp with rfl | hp
  ·exact hd
  ·exact h2 p hp
theorem preL_all:∀(l:List Expr) (d:Int),d+dpL l<=17->(preL l d).map (·.2)=ndL l∧∀p∈preL l d,p.1<=16
 | [],_,_=>by simp[preL,ndL]
 | x::xs,d,h=>by
  simp only[dpL]at h
  obtain⟨h1,h2⟩:=preE_all x d (by omega)
  obtain⟨h3,h4⟩:=preL_all xs d (by omega)
  simp only[preL,List.map_append,ndL,h1,h3,true_and]
  intro p hp
  rcases List.mem_append.1 hp with hp | hp
  ·exact h2 p hp
  ·exact h4 p hp
end
mutual
theorem preE_deep:∀(x:Expr) (d:Int),d<=17->17<d+dpE x->∃p∈preE x d,p.1>16
 | ⟨op,ix,args⟩,d,h0,h=>by
  simp only[dpE]at h
  by_cases hd:d<=16
  ·obtain⟨p,hp,h1⟩:=preL_deep args (d+1) (by omega) (by omega)
   exact⟨p,by simp only[preE,hd,if_true];exact List.mem_cons_of_mem _ hp,h1⟩
  ·exact⟨(d,⟨op,ix,args⟩),by simp[preE],by simp only;omega⟩
theorem preL_deep:∀(l:List Expr) (d:Int),d<=17->17<d+dpL l->∃p∈preL l d,p.1>16
 | [],d,h0,h=>by simp only[dpL]at h;omega
 | x::xs,d,h0,h=>by
  simp only[dpL]at h
  by_cases hx:17<d+dpE x
  ·obtain⟨p,hp,h1⟩:=preE_deep x d h0 hx
   exact⟨p,by simp only[preL];exact List.mem_append.2 (.inl hp),h1⟩
  ·obtain⟨p,hp,h1⟩:=preL_deep xs d h0 (by omega)
   exact⟨p,by simp only[preL];exact List.mem_append.2 (.inr hp),h1⟩
end
theorem measFold_ok:∀(l:List (Int×Expr)) (s:Int×Int),(∀p∈l,p.1<=16)->s.1+l.length<=256->∃s',l.foldlM measS s=.ok s'
 | [],s,_,_=>⟨s,rfl⟩
 | p::l,s,h,hl=>by
  have h0:=h p (by simp)
  simp only[List.length_cons]at hl
  simp only[List.foldlM_cons,measS]
  rw[if_neg (by omega)]
  exact measFold_ok l _ (fun q hq=>h q (by simp[hq])) (by simp only;omega)
theorem measFold_err:∀(l:List (Int×Expr)) (s:Int×Int),((∃p∈l,p.1>16)∨s.1+l.length>256∧l≠[])->s.1<=256->l.foldlM measS s=.error ()
 | [],s,h,_=>by rcases h with⟨p,hp,_⟩|h;simp at hp;exact absurd rfl h.2
 | p::l,s,h,hs=>by
  simp only[List.foldlM_cons,measS]
  by_cases hc:s.1+1>256∨p.1>16
  ·rw[if_pos hc];rfl
  ·rw[if_neg hc]
   refine measFold_err l _ ?_ (by simp only;omega)
   rcases h with⟨q,hq,h1⟩|h
   ·rcases List.mem_cons.1 hq with rfl | hq
    ·omega
    ·exact .inl ⟨q,hq,h1⟩
   ·simp only[List.length_cons]at h
    refine .inr ⟨by simp only;omega,?_⟩
    rintro rfl
    simp at h
    omega
theorem meas_iff (x:Expr):(∃s,meas x=.ok s)↔szE x<=256∧dpE x<=16:=by
 constructor
 ·rintro⟨s,h⟩
  by_cases hd:dpE x<=16
  ·refine⟨?_,hd⟩
   obtain⟨h1,h2⟩:=preE_all x 1 (by omega)
   have hl:(preE x 1).length=szE x:=by rw[<- ndE_len,<- h1,List.length_map]
   rcases Nat.lt_or_ge 256 (szE x) with hg | hg
   ·have:=measFold_err (preE x 1) (0,0) (.inr ⟨by simp only;omega,by rw[preE_eq];simp⟩) (by simp)
    unfold meas at h
    rw[this]at h
    cases h
   ·exact hg
  ·obtain⟨p,hp,h1⟩:=preE_deep x 1 (by omega) (by omega)
   have:=measFold_err (preE x 1) (0,0) (.inl ⟨p,hp,h1⟩) (by simp)
   unfold meas at h
   rw[this]at h
   cases h
 ·rintro⟨h1,h2⟩
  obtain⟨h3,h4⟩:=preE_all x 1 (by omega)
  have hl:(preE x 1).length=szE x:=by rw[<- ndE_len,<- h3,List.length_map]
  exact measFold_ok _ _ h4 (by simp only;omega)
mutual
theorem deep_iff:∀(x:Expr) (m:Int),deepE x m=decide ((dpE x:Int)<=m)
 | ⟨op,ix,args⟩,m=>by
  have e:dpE ⟨op,ix,args⟩=1+dpL args:=by simp[dpE]
  simp only[deepE]
  by_cases h1:m<1
  ·rw[if_pos h1]
   exact (decide_eq_false (by rw[e];omega)).symm
  ·rw[if_neg h1]
   by_cases h2:m=1
   ·rw[if_pos h2]
    subst h2
    cases args with
    | nil=>exact (decide_eq_true (by rw[e];simp[dpL])).symm
    | cons y l=>
     have:1<=dpE y:=by rw[dpE_eq];omega
     exact (decide_eq_false (by rw[e];simp only[dpL];omega)).symm
   ·rw[if_neg h2,deepL_iff args (m-1) (by omega)]
    exact decide_eq_decide.2 (by rw[e];omega)
theorem deepL_iff:∀(l:List Expr) (m:Int),0<=m->deepL l m=decide ((dpL l:Int)<=m)
 | [],m,h=>by simp[deepL,dpL,h]
 | x::xs,m,h=>by
  simp only[deepL,dpL,deep_iff x m,deepL_iff xs m h]
  rw[<- Bool.decide_and]
  exact decide_eq_decide.2 (by omega)
end
mutual
theorem cnt_iff:∀(x:Expr) (m:Int),0<=m->((szE x:Int)<=m->cntE x m=szE x)∧(m<szE x->m<cntE x m)
 | ⟨op,ix,args⟩,m,h=>by
  simp only[cntE,szE]
  by_cases h0:m=0
  ·subst h0
   refine⟨fun h=>by omega,fun _=>?_⟩
   have:=cntL_iff args 0 1 (by omega)
   by_cases hs:(1:Int)+szL args<=0
   ·omega
   ·exact this.2 (by omega)
  ·have:=cntL_iff args m 1 (by omega)
   refine⟨fun h1=>?_,fun h1=>this.2 (by omega)⟩
   have h2:=this.1 (by omega)
   omega
theorem cntL_iff:∀(l:List Expr) (m n:Int),0<=n->(n+szL l<=m->cntL l m n=n+szL l)∧(m<n+szL l->m<cntL l m n)
 | [],m,n,_=>by simp[cntL,szL]
 | x::xs,m,n,hn=>by
  simp only[cntL,szL]
  by_cases h:n<=m
  ·rw[if_pos h]
   have h1:=cnt_iff x (m-n) (by omega)
   by_cases hx:(szE x:Int)<=m-n
   ·have e:=h1.1 hx
    have h2:=cntL_iff xs m (n+cntE x (m-n)) (by omega)
    rw[e]at h2 ⊢
    refine⟨fun h3=>?_,fun h3=>h2.2 (by omega)⟩
    have:=h2.1 (by omega)
    omega
   ·have e:=h1.2 (by omega)
    have h2:=cntL_iff xs m (n+cntE x (m-n)) (by omega)
    exact⟨fun h3=>by omega,fun _=>h2.2 (by omega)⟩
  ·rw[if_neg h]
   exact⟨fun h1=>by omega,fun _=>by omega⟩
end
theorem light_iff (x:Expr):lightE x=true↔szE x<=256∧dpE x<=16:=by
 unfold lightE
 rw[Bool.and_eq_true,deep_iff,decide_eq_true_eq,decide_eq_true_eq]
 have:=cnt_iff x 256 (by omega)
 constructor
 ·rintro⟨h1,h2⟩
  refine⟨?_,by omega⟩
  rcases Nat.lt_or_ge 256 (szE x) with h | h
  ·have:=this.2 (by omega);omega
  ·exact h
 ·rintro⟨h1,h2⟩
  exact⟨by have:=this.1 (by omega);omega,by omega⟩
theorem szL_ge:∀l:List Expr,l.length<=szL l
 | []=>by simp[szL]
 | x::xs=>by have:=szL_ge xs;have:1<=szE x:=by rw[szE_eq];omega
             simp only[szL,List.length_cons];omega
theorem node_same (x:Expr) (n:Int) (h:szE x<=256):nodeR x n=nodeT x n:=by
 have hl:=szL_ge x.args
 rw[szE_eq]at h
 unfold nodeR nodeT
 by_cases h1:x.op<0∨x.op>=5
 ·rw[if_pos h1,if_pos h1]
 ·rw[if_neg h1,if_neg h1]
  obtain ho | ho | ho | ho | ho:x.op=0∨x.op=1∨x.op=2∨x.op=3∨x.op=4:=by omega
  all_goals
   simp only[ho]
   simp
   try simp only[<- List.length_eq_zero_iff]
   repeat' split
   all_goals first | rfl | omega
mutual
theorem nodes_list:∀(x:Expr) (n:Int),nodesE x n=firstErr (fun y=>nodeT y n) (ndE x)
 | ⟨op,ix,args⟩,n=>by simp only[nodesE,ndE,firstErr,nodesL_list args n]
theorem nodesL_list:∀(l:List Expr) (n:Int),nodesL l n=firstErr (fun y=>nodeT y n) (ndL l)
 | [],n=>by simp[nodesL,ndL,firstErr]
 | x::xs,n=>by
  simp only[nodesL,ndL,nodes_list x n,nodesL_list xs n]
  generalize ndE x=a
  induction a with
  | nil=>simp[firstErr]
  | cons y a ih=>
   simp only[List.cons_append,firstErr]
   by_cases h:nodeT y n=0
   ·simp only[h,ne_eq,not_true_eq_false,if_false];exact ih
   ·simp[h]
end
mutual
theorem ndE_sz:∀(x:Expr) (y:Expr),y∈ndE x->szE y<=szE x
 | ⟨op,ix,args⟩,y,h=>by
  simp only[ndE]at h
  rcases List.mem_cons.1 h with rfl | h
  ·exact Nat.le_refl _
  ·have:=ndL_sz args y h;simp only[szE];omega
theorem ndL_sz:∀(l:List Expr) (y:Expr),y∈ndL l->szE y<=szL l
 | [],y,h=>by simp[ndL]at h
 | x::xs,y,h=>by
  simp only[ndL]at h
  simp only[szL]
  rcases List.mem_append.1 h with h | h
  ·have:=ndE_sz x y h;omega
  ·have:=ndL_sz xs y h;omega
end
theorem nodeFold (n:Int):∀l:List (Int×Expr),(match l.foldlM (nodeS n) () with | .ok _=>0 | .error e=>e)=firstErr (fun y=>nodeR y n) (l.map (·.2))
 | []=>rfl
 | p::l=>by
  simp only[List.foldlM_cons,List.map_cons,firstErr,nodeS]
  by_cases h:nodeR p.2 n=0
  ·simp only[h,ne_eq,not_true_eq_false,if_false]
   exact nodeFold n l
  ·simp only[h,ne_eq,not_false_eq_true,if_true]
   rfl
theorem firstErr_congr {ι:Type}{f g:ι->Int}:∀ {l:List ι},(∀x∈l,f x=g x)->firstErr f l=firstErr g l
 | [],_=>rfl
 | x::l,h=>by
  have ih:=firstErr_congr (l:=l) fun y hy=>h y (List.mem_cons_of_mem _ hy)
  simp only[firstErr,h x List.mem_cons_self,ih]
theorem check_same (x:Expr) (n:Int):refCheckE x n=checkE x n:=by
 unfold refCheckE checkE
 by_cases hn:n<0∨n>256
 ·rw[if_pos hn,if_pos hn]
 ·rw[if_neg hn,if_neg hn]
  by_cases hl:szE x<=256∧dpE x<=16
  ·have h1:lightE x=true:=(light_iff x).2 hl
   obtain⟨s,h2⟩:=(meas_iff x).2 hl
   rw[h1,h2]
   simp only[Bool.true_eq_false,if_false]
   have hk:=nodeFold n (preE x 1)
   rw[(preE_all x 1 (by omega)).1,firstErr_congr fun y hy=>node_same y n (Nat.le_trans (ndE_sz x y hy) hl.1),<- nodes_list]at hk
   cases hf:(preE x 1).foldlM (nodeS n) () with
   | ok u=>rw[hf]at hk;simp only at hk ⊢;exact hk.symm
   | error e=>rw[hf]at hk;simp only at hk ⊢;exact hk.symm
  ·have h1:lightE x=false:=by
    cases h:lightE x
    ·rfl
    ·exact absurd ((light_iff x).1 h) hl
   have h2:∃e,meas x=.error e:=by
    cases h:meas x with
    | ok s=>exact absurd ((meas_iff x).1 ⟨s,h⟩) hl
    | error e=>exact⟨e,rfl⟩
   obtain⟨e,h2⟩:=h2
   rw[h1,h2]
   simp
end Go.Proofs.YtafamcbdaeppoaaGreatDoor
