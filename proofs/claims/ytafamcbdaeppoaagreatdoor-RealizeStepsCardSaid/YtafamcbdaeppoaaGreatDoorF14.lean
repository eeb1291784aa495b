/- Texts joined by a program: Eh,Ei,Hm,Pk,Hn. -/
import Derived.Test.YtafamcbdaeppoaaGreatDoorF13
import Derived.Test.YtafamcbdaeppoaaGreatDoorF12
set_option linter.unusedSimpArgs false
set_option linter.unusedVariables false
set_option maxHeartbeats 4000000
set_option maxRecDepth 10000
namespace Go.Proofs.YtafamcbdaeppoaaGreatDoor
theorem allD_rep (n:Nat) (l:L):allD (List.replicate n [A.dat l])=true:=by simp[allD,List.all_replicate,isD]
theorem rowsD_rep (n:Nat) (l:L):rowsD (List.replicate n [A.dat l])=List.replicate n [l]:=by simp[rowsD]
attribute [simp] allD_rep rowsD_rep
def noSt:State:=⟨[],[],[],[],[]⟩
theorem CallSt.lend {g:FuncId}{az az':List A}{s:State}(h:CallSt g az' s) {H:Heap}{K:A->Heap->Prop}(τ:Nat) (hz:(frzs H az).1∧(frzs H az).2=az') (hk:∀hd,K (stA τ hd) (stH τ hd s++H)):CallS Tryz.prog g az H K:=by
 refine CallS.lend (K':=fun r H'=>∃hd,r=stA τ hd∧H'=stH τ hd s) (h.s τ fun hd=>⟨hd,rfl,by simp⟩) hz ?_
 rintro r H' ⟨hd,rfl,rfl⟩
 refine⟨by simp[stA],?_,hk hd⟩
 intro p hp
 simp only[stH,List.mem_cons,List.not_mem_nil,or_false]at hp
 rcases hp with rfl | rfl | rfl | rfl | rfl<;>simp
def gatesR (c:Control) (s:State):State×Int:=if rightC c s≠0 then (noSt,rightC c s) else (gatesP c s,0)
theorem Gates_fn (c:Control) (s:State) (hc:OkC c) (hs:SmS s):CallFn Tryz.prog 12 [aC c,aSt s] (.tuple [aSt (gatesR c s).1,aI (gatesR c s).2]):=by
 refine callFz_of Tryz.func12 rfl Tryz.ntmps12 (rs:=[.cell 4 29,.tmp 5]) rfl (by kernel_rfl) (by simp) (by kernel_rfl) ?_
 simp
 intro b4
 refine (Right_fn c s hc hs).s ?_
 simp
 by_cases hz:rightC c s=0
 ·obtain⟨z1,z2,z3⟩:=right_zero hz
  simp[hz]
  refine (gates_o c s hc (fine_of z1) hs z2).s 60 fun hd=>?_
  simp[stA,stH,hget,packA,gatesR,hz,encSt]
 ·simp[hz,gatesR,noSt,packA,encSt]
def evalP (c:Control) (s:State) (x:Expr):Bool×Int:=if rightC c s≠0 then (false,rightC c s) else if checkE x (countC c)≠0 then (false,checkE x (countC c)) else (evalE x (valuesOf s),0)
theorem EvalC_fn (c:Control) (s:State) (x:Expr) (hc:OkC c) (hs:SmS s) (hx:OkE x):CallFn Tryz.prog 53 [aC c,aSt s,aE x] (.tuple [aB (evalP c s x).1,aI (evalP c s x).2]):=by
 refine callFz_of Tryz.func53 rfl Tryz.ntmps53 (rs:=[.tmp 6,.tmp 7]) rfl (by kernel_rfl) (by simp) (by kernel_rfl) ?_
 simp
 refine (Right_fn c s hc hs).s ?_
 simp
 by_cases hz:rightC c s=0
 ·obtain⟨z1,z2,z3⟩:=right_zero hz
  have hl:=valuesOf_length z2
  have hsm:=(fine_of z1).sm
  simp[hz]
  refine V.draw (fun t=>if t=17 then some (.fn (aBs (valuesOf s))) else if t=18 then some (.fn (.tuple [aB (evalP c s x).1,aI (evalP c s x).2])) else none) (by kernel_rfl) (by kernel_rfl) (by simp) ?_
  have ev:=evalx_fn x hx (valuesOf s) (by have:=hsm.act;have:=hsm.inp;have:=hsm.sig;unfold countC at hl;omega)
  rw[hl]at ev
  have e:(A.tuple (if checkE x (countC c)=0 then [.dat (.bool (evalE x (valuesOf s))),.dat (.int .i64 0)] else [.dat (.bool false),.dat (.int .i64 (checkE x (countC c)))]))=.tuple [aB (evalP c s x).1,aI (evalP c s x).2]:=by
   by_cases h:checkE x (countC c)=0<;>simp[evalP,hz,h]
  rw[e]at ev
  have hv:=values_fn s hs
  simp
  exact⟨hv,ev⟩
 ·simp[hz,evalP]
def initV (c:Control) (i:Nat):List Bool:=(c.signals.take i).map (·.init)++List.replicate (c.signals.length-i) false
def newSt (c:Control) (i:Nat):State:=⟨List.replicate c.actuators.toNat 0,List.replicate c.actuators.toNat false,List.replicate c.inputs.length false,initV c i,List.replicate c.signals.length 0⟩
def firstSt (c:Control):State:=gatesP c (newSt c c.signals.length)
theorem initV_length (c:Control) (i:Nat) (h:i<=c.signals.length):(initV c i).length=c.signals.length:=by
 simp[initV]
 omega
theorem initV_set {c:Control}{i:Nat}{x:Signal}(h:c.signals[i]?=some x):(initV c i).set i x.init=initV c (i+1):=by
 obtain⟨hlt,hx⟩:=List.getElem?_eq_some_iff.1 h
 unfold initV
 rw[List.set_append_right _ _ (by simp;omega),List.take_add_one,h]
 simp only[Option.toList_some,List.map_append,List.map_cons,List.map_nil,List.append_assoc,List.singleton_append]
 congr 1
 have e:c.signals.length-i=(c.signals.length-(i+1))+1:=by omega
 rw[e,List.replicate_succ]
 simp[Nat.min_eq_left (Nat.le_of_lt hlt)]
theorem newSt_sm {c:Control}(h:Fine c):SmS (newSt c c.signals.length):=by
 obtain⟨h1,h2,h3,_⟩:=h
 have:=initV_length c c.signals.length (Nat.le_refl _)
 refine⟨?_,?_,?_,?_,?_⟩<;>simp[newSt]<;>omega
theorem newSt_shape {c:Control}(h:Fine c):shapeS c (newSt c c.signals.length):=by
 obtain⟨h1,h2,h3,_⟩:=h
 have:=initV_length c c.signals.length (Nat.le_refl _)
 refine⟨?_,?_,?_,?_,?_⟩<;>simp[newSt]<;>omega
def fewS (s:State):Bool:=decide ((s.ends.length:Int)<=40)&&decide ((s.valves.length:Int)<=40)&&decide ((s.inputs.length:Int)<=200)&&decide ((s.values.length:Int)<=200)&&decide ((s.timers.length:Int)<=200)
theorem FewStates_fn (s:State) (hs:OkSt s):CallFn Tryz.prog 45 [aSt s] (aB (fewS s)):=by
 have h1:=hs.ends
 have h2:=hs.valves
 have h3:=hs.inputs
 have h4:=hs.values
 have h5:=hs.timers
 refine callFz_of Tryz.func45 rfl Tryz.ntmps45 (rs:=[.tmp 2]) rfl (by kernel_rfl) (by simp) (by kernel_rfl) ?_
 simp[fewS]
theorem few_sm {s:State}(h:fewS s=true):SmS s:=by
 simp only[fewS,Bool.and_eq_true,decide_eq_true_eq]at h
 exact⟨by omega,by omega,by omega,by omega,by omega⟩
def fewN (c:Control):Bool:=!(((((decide ((c.inputs.length:Int)>32)||(decide ((c.signals.length:Int)>16)&&decide ((c.signals.length:Int)<=64)))||decide ((c.signals.length:Int)>128))||decide ((c.plus.length:Int)>40))||decide ((c.minus.length:Int)>40)))
def longB (s:List UInt8):Bool:=decide ((s.length:Int)>200)
def heavyB (s:Signal):Bool:=longB s.name || !lightE s.on || !lightE s.off
def fewC (c:Control):Bool:=fewN c && !(c.inputs.any longB) && !(c.signals.any heavyB)
theorem few_c {c:Control}(h:fewC c=true):c.plus.length<=1000000∧c.minus.length<=1000000:=by
 simp only[fewC,fewN,Bool.and_eq_true,Bool.not_eq_true',Bool.or_eq_false_iff,decide_eq_false_iff_not]at h
 obtain⟨⟨⟨⟨⟨h1,h2⟩,h3⟩,h4⟩,h5⟩,h6⟩:=h
 omega
theorem Few_fn (c:Control) (hc:OkC c):CallFn Tryz.prog 44 [aC c] (aB (fewC c)):=by
 have h1:=hc.inputs
 have h2:=hc.signals
 have h3:=hc.plus
 have h4:=hc.minus
 refine callFz_of Tryz.func44 rfl Tryz.ntmps44 (rs:=[.tmp 2]) rfl (by kernel_rfl) (by simp) (by kernel_rfl) ?_
 by_cases hn:fewN c=true
 ·have e:fewC c=(!(c.inputs.any longB) && !(c.signals.any heavyB)):=by rw[fewC,hn];rfl
  have hn':=hn
  simp only[fewN,Bool.not_eq_true',Bool.or_eq_false_iff,Bool.and_eq_false_iff,decide_eq_false_iff_not]at hn'
  obtain⟨⟨⟨⟨k1,k2⟩,k3⟩,k4⟩,k5⟩:=hn'
  simp[fewN]at hn
  simp[hn]
  refine⟨fun h=>by omega,fun _=>?_⟩
  refine V.forI (σ:=Unit) c.inputs.length [1] (by simp;exact rfl) (fun i _=>[(3,aI i)]) (fun _ _=>[]) (fun i _=>NoF longB (c.inputs.take i)) () (by simp[NoF]) (by simp) ⟨by simp;exact rfl,by simp⟩ ?_ ?_
  ·rintro i-hi hI
   obtain⟨x,hx⟩:∃x,c.inputs[i]=x:=⟨_,rfl⟩
   have hxo:c.inputs[i]?=some x:=by rw[List.getElem?_eq_getElem (by omega),hx]
   by_cases hb:longB x=true
   ·have e':fewC c=false:=by rw[e,any_at hxo hb];rfl
    simp[longB]at hb
    simp[hi,hx,e']
    intro h
    omega
   ·have hn2:=hI.snoc' hxo (by simpa using hb)
    simp[longB]at hb
    simp[hi,hx,hn2]
    exact⟨fun h=>by omega,fun _=>by omega⟩
  ·rintro-hI
   rw[List.take_length]at hI
   have ha:=hI.any
   rw[ha]at e
   simp at e
   simp
   refine V.forI (σ:=Unit) c.signals.length [1] (by simp;exact rfl) (fun i _=>[(4,aI i)]) (fun _ _=>[]) (fun i _=>NoF heavyB (c.signals.take i)) () (by simp[NoF]) (by simp) ⟨by simp;exact rfl,by simp⟩ ?_ ?_
   ·rintro i-hi hI
    obtain⟨x,hx⟩:∃x,c.signals[i]=x:=⟨_,rfl⟩
    have hxo:c.signals[i]?=some x:=by rw[List.getElem?_eq_getElem (by omega),hx]
    have hok:=hc.sigs x (List.mem_of_getElem? hxo)
    have q1:=light_fn x.on hok.on
    have q2:=light_fn x.off hok.off
    have e':heavyB x=true->fewC c=false:=by
     intro hb
     rw[e,any_at hxo hb];rfl
    have hn2:heavyB x=false->NoF heavyB (c.signals.take (i+1)):=fun hb=>hI.snoc' hxo hb
    simp only[heavyB]at e' hn2
    generalize lightE x.on=b1 at *
    generalize lightE x.off=b2 at *
    simp[hi,hx]
    intro b5
    refine GCall.fn (aB b1) (fun h=>⟨by first | trivial | exact h,q1⟩) ?_
    simp
    refine GCall.fn (aB b2) (fun h=>⟨by first | trivial | exact h,q2⟩) ?_
    have hlen:(c.signals.length:Int)<=9223372036854775807:=by omega
    generalize fewC c=fw at e' ⊢
    by_cases hb:(x.name.length:Int)<=200
    ·have hb':longB x.name=false:=by simp[longB];omega
     rw[hb']at e' hn2
     cases b1<;>cases b2<;>simp[hb,Int.not_lt.2 hb]at e' hn2 ⊢<;>first | (simp[e'];done) | exact⟨by omega,hn2⟩
    ·have hb':longB x.name=true:=by simp[longB];omega
     rw[hb']at e'
     simp at e'
     simp[hb,Int.not_le.1 hb,e']
   ·rintro-hI
    rw[List.take_length]at hI
    have ha:=hI.any
    have e2:fewC c=true:=by rw[e,ha];rfl
    simp[e2]
 ·have e:fewC c=false:=by rw[fewC];simp[hn]
  rw[e]
  simp[fewN]at hn
  simp
  exact⟨fun h=>⟨h,fun h2=>⟨h,h2⟩⟩,fun a b d e f=>absurd (hn a (by omega) d e) (by omega)⟩
def rightB (c:Control) (s:State):Bool:=fewC c&&fewS s&&(rightC c s==0)
theorem Flips.map {α:Type}{φ:Pin×Pin->α}(hφ:∀a b,φ (a,b)=φ (b,a)) {l m:List (Pin×Pin)}(h:Flips l m):l.map φ=m.map φ:=by
 induction h with
 | nil=>rfl
 | keep _ ih=>simp[ih]
 | swap _ ih=>simp[ih,hφ]
def endsL (c:Control) (g:List (Int×Pin)):List Pin:=(List.range (countC c).toNat).map fun l:Nat=>portM c g l
theorem endsL_len (c:Control) (g:List (Int×Pin)):(endsL c g).length=(countC c).toNat:=by simp[endsL]
theorem endsL_at {c:Control}{g:List (Int×Pin)}{l:Int}(h:0<=l∧l<countC c):(endsL c g).getD l.toNat noPin=portM c g l:=by
 unfold endsL
 rw[List.getD_eq_getElem?_getD,List.getElem?_map,List.getElem?_range (by omega),Option.map_some,Option.getD_some,Int.toNat_of_nonneg h.1]
theorem get_put (g:List (Int×Pin)) (k j:Int) (p:Pin):getG (putG g k p) j=if j=k then some p else getG g j:=by
 induction g with
 | nil=>
  simp only[putG,getG]
  by_cases h:k=j
  ·simp[h]
  ·rw[if_neg h,if_neg fun e=>h e.symm]
 | cons q r ih=>
  simp only[putG]
  split
  ·rename_i h
   simp only[getG]
   by_cases h2:k=j
   ·simp[h2]
   ·rw[if_neg h2,if_neg fun e=>h2 e.symm,if_neg (by omega)]
  ·simp only[getG,ih]
   split
   ·rw[if_neg (by omega)]
   ·rfl
theorem port_put {c:Control}{g:List (Int×Pin)}{i:Nat}(hk:kindAt c i=0) (p:Pin) (l:Int) (h0:0<=2*c.actuators):portM c (putG g (firstC c+i) p) l=if l=firstC c+i then p else portM c g l:=by
 have hf:2*c.actuators<=firstC c:=by unfold firstC;omega
 unfold portM
 by_cases h:l=firstC c+i
 ·subst h
  rw[if_neg (by omega),if_neg (by omega),show firstC c+(i:Int)-firstC c=i by omega,hk,if_neg (by omega),if_neg (by omega),if_pos rfl,get_put,if_pos rfl,Option.getD_some]
 ·rw[if_neg h,get_put,if_neg h]
theorem ends_put {c:Control}{g:List (Int×Pin)}{i:Nat}(hi:i<c.signals.length) (hk:kindAt c i=0) (p:Pin) (h0:0<=2*c.actuators):endsL c (putG g (firstC c+i) p)=(endsL c g).set (firstC c+i).toNat p:=by
 have hc:countC c=firstC c+c.signals.length:=rfl
 have hf:2*c.actuators<=firstC c:=by unfold firstC;omega
 apply List.ext_getElem?
 intro n
 by_cases hn:n<(countC c).toNat
 ·unfold endsL
  rw[List.getElem?_set,List.getElem?_map,List.getElem?_map,List.getElem?_range hn,Option.map_some,Option.map_some,port_put hk p n h0,List.length_map,List.length_range]
  by_cases e:(n:Int)=firstC c+i
  ·rw[if_pos e,if_pos (by omega),if_pos (by omega)]
  ·rw[if_neg e,if_neg (by omega)]
 ·rw[List.getElem?_eq_none (by rw[endsL_len];omega),List.getElem?_eq_none (by rw[List.length_set,endsL_len];omega)]
structure Eq0 (m:Mk) (d:Dr):Prop where
 parts:m.parts=d.gears
 joins:Flips m.joins d.links
 num:m.number=0
 cnt:d.count=0
 sig:m.signal = -1
 gates:m.gates=[]
theorem set_last {α:Type}(l:List α) (a b:α):(l++[a]).set ((l++[a]).length-1) b=l++[b]:=by
 rw[List.set_append]
 simp
theorem act_eq {m:Mk}{d:Dr}(h:Eq0 m d) (a:Nat):Eq0 (actM m a) (actR d a):=by
 obtain⟨p,j,n,s,g⟩:=m
 obtain⟨p',j',e',n'⟩:=d
 obtain⟨rfl,h2,rfl,rfl,rfl,rfl⟩:=h
 refine⟨?_,?_,rfl,rfl,rfl,rfl⟩
 ·simp only[actM,Mk.valve,Mk.add,Mk.feed,Mk.join,actR,Dr.put,Dr.link,Dr.ended]
  rw[set_last]
  simp
 ·simp only[actM,Mk.valve,Mk.add,Mk.feed,Mk.join,actR,Dr.put,Dr.link,Dr.ended,if_true,List.append_nil,if_false,Bool.false_eq_true]
  exact ((((h2.app (joinD_flip _ _)).app (joinD_flip _ _)).app (joinD_flip _ _)).app (Flips.refl _)).app (Flips.refl _)
theorem in_eq {c:Control}{m:Mk}{d:Dr}(h:Eq0 m d) (i:Nat):Eq0 (inM c m i) (inR37 c d i):=by
 obtain⟨p,j,n,s,g⟩:=m
 obtain⟨p',j',e',n'⟩:=d
 obtain⟨rfl,h2,rfl,rfl,rfl,rfl⟩:=h
 refine⟨?_,?_,rfl,rfl,rfl,rfl⟩
 ·simp only[inM,Mk.add,Mk.feed,Mk.join,inR37,Dr.put,Dr.ended]
 ·simp only[inM,Mk.add,Mk.feed,Mk.join,inR37,Dr.put,Dr.ended,if_true]
  exact h2.app (joinD_flip _ _)
theorem fold_rel {α β γ:Type}{R:α->β->Prop}{f:α->γ->α}{g:β->γ->β}(h:∀a b x,R a b->R (f a x) (g b x)):∀(l:List γ) {a:α}{b:β},R a b->R (l.foldl f a) (l.foldl g b)
 | [],_,_,hr=>hr
 | x::l,_,_,hr=>fold_rel h l (h _ _ x hr)
def baseR (c:Control):Dr:=(List.range c.inputs.length).foldl (inR37 c) ((List.range c.actuators.toNat).foldl actR ((⟨[],[],[],0⟩:Dr).put ⟨0,[83],0,-1,none,-1,-1⟩ false))
theorem base_eq (c:Control):Eq0 (machineM c) (baseR c):=by
 have h0:Eq0 ((⟨[],[],0,-1,[]⟩:Mk).add 0 [83] 0 (-1)) ((⟨[],[],[],0⟩:Dr).put ⟨0,[83],0,-1,none,-1,-1⟩ false):=⟨rfl,Flips.nil,rfl,rfl,rfl,rfl⟩
 have h1:=fold_rel (R:=Eq0) (f:=actM) (g:=actR) (fun _ _ x h=>act_eq h x) (List.range c.actuators.toNat) h0
 exact fold_rel (R:=Eq0) (f:=inM c) (g:=inR37 c) (fun _ _ x h=>in_eq h x) (List.range c.inputs.length) h1
theorem act_ends (d:Dr) (a:Nat):(actR d a).ends=d.ends++[⟨letterT a++[48],[50]⟩,⟨letterT a++[49],[50]⟩]:=rfl
theorem in_ends (c:Control) (d:Dr) (i:Nat):(inR37 c d i).ends=d.ends++[⟨c.inputs.getD i [],[50]⟩]:=rfl
theorem num0:numT 0=[48]:=by unfold numT;rw[Go.Lib.decDigits];rfl
theorem num1:numT 1=[49]:=by unfold numT;rw[Go.Lib.decDigits];rfl
theorem range_ends (c:Control) (g:List (Int×Pin)) (a b:Nat):(List.range (a+b)).map (fun l:Nat=>portM c g l)=(List.range a).map (fun l:Nat=>portM c g l)++(List.range b).map (fun l:Nat=>portM c g ((a+l:Nat):Int)):=by
 rw[List.range_add,List.map_append,List.map_map]
 rfl
theorem acts_ends {c:Control}(h0:0<=c.actuators) (g:List (Int×Pin)):∀n:Nat,(n:Int)<=c.actuators->∀d:Dr,d.ends=[]->((List.range n).foldl actR d).ends=(List.range (2*n)).map fun l:Nat=>portM c g l
 | 0,_,d,hd=>by simpa using hd
 | n+1,hn,d,hd=>by
  rw[List.range_succ,List.foldl_append,List.foldl_cons,List.foldl_nil,act_ends,acts_ends h0 g n (by omega) d hd,show 2*(n+1)=2*n+2 by omega,range_ends c g (2*n) 2]
  congr 1
  simp only[List.range_succ,List.range_zero,List.nil_append,List.map_append,List.map_cons,List.map_nil,List.cons_append]
  have e1:portM c g ((2*n+0:Nat):Int)=⟨letterT n++[48],[50]⟩:=by
   unfold portM
   rw[if_pos (by omega),show ((2*n+0:Nat):Int).toNat / 2=n by omega,show ((2*n+0:Nat):Int).toNat % 2=0 by omega,num0]
  have e2:portM c g ((2*n+1:Nat):Int)=⟨letterT n++[49],[50]⟩:=by
   unfold portM
   rw[if_pos (by omega),show ((2*n+1:Nat):Int).toNat / 2=n by omega,show ((2*n+1:Nat):Int).toNat % 2=1 by omega,num1]
  rw[e1,e2]
theorem ins_ends {c:Control}(h0:0<=c.actuators) (g:List (Int×Pin)):∀n:Nat,n<=c.inputs.length->∀d:Dr,d.ends=((List.range (2*c.actuators.toNat)).map fun l:Nat=>portM c g l)->((List.range n).foldl (inR37 c) d).ends=(List.range (2*c.actuators.toNat+n)).map fun l:Nat=>portM c g l
 | 0,_,d,hd=>by simpa using hd
 | n+1,hn,d,hd=>by
  rw[List.range_succ,List.foldl_append,List.foldl_cons,List.foldl_nil,in_ends,ins_ends h0 g n (by omega) d hd,<- Nat.add_assoc,range_ends c g (2*c.actuators.toNat+n) 1]
  congr 1
  simp only[List.range_succ,List.range_zero,List.nil_append,List.map_cons,List.map_nil]
  unfold portM firstC
  rw[if_neg (by omega),if_pos (by omega),show (((2*c.actuators.toNat+n+0:Nat):Int)-2*c.actuators).toNat=n by omega]
def ownD (c:Control) (i:Nat):List Made:=match c.signals[i]? with
 | some x=>if x.kind=1 then [⟨2,ownT c i,0,i,none,-1,firstC c+i⟩] else if x.kind=2 then [⟨12,ownT c i,x.delay,i,none,-1,firstC c+i⟩] else []
 | none=>[]
def ownJ (c:Control) (i:Nat):List (Pin×Pin):=match c.signals[i]? with
 | some x=>if x.kind=1∨x.kind=2 then joinD supPin ⟨ownT c i,[49]⟩ else []
 | none=>[]
theorem sigF_eq {c:Control}(d:Dr) {i:Nat}(hi:i<c.signals.length) (h0:0<=c.actuators):(sigF c d i).gears=d.gears++ownD c i∧(∃j,Flips (ownJ c i) j∧(sigF c d i).links=d.links++j)∧(sigF c d i).ends=d.ends++[portM c [] (firstC c+i)]∧(sigF c d i).count=d.count:=by
 have hx:c.signals[i]?=some c.signals[i]:=List.getElem?_eq_getElem hi
 generalize c.signals[i]=x at hx
 have hk:kindAt c i=x.kind:=by simp[kindAt,hx]
 have hp:portM c [] (firstC c+i)=if x.kind=1 then ⟨ownT c i,[52]⟩ else if x.kind=2 then ⟨ownT c i,[50]⟩ else noPin:=by
  unfold portM firstC
  rw[if_neg (by omega),if_neg (by omega),show 2*c.actuators+(c.inputs.length:Int)+i-(2*c.actuators+c.inputs.length)=i by omega,hk,Int.toNat_natCast]
  rfl
 unfold sigF ownD ownJ
 rw[hx,hp]
 dsimp only
 by_cases h1:x.kind=1
 ·have h3:x.kind=1∨x.kind=2:=.inl h1
  simp only[if_pos h1,if_pos h3]
  exact⟨rfl,⟨_,joinD_flip _ _,rfl⟩,rfl,rfl⟩
 ·by_cases h2:x.kind=2
  ·have h3:x.kind=1∨x.kind=2:=.inr h2
   simp only[if_neg h1,if_pos h2,if_pos h3]
   exact⟨rfl,⟨_,joinD_flip _ _,rfl⟩,rfl,rfl⟩
  ·have h3:¬(x.kind=1∨x.kind=2):=by omega
   simp only[if_neg h1,if_neg h2,if_neg h3]
   exact⟨by simp[Dr.ended],⟨[],.nil,by simp[Dr.ended]⟩,rfl,rfl⟩
def ownDs (c:Control) (i n:Nat):List Made:=(List.range' i n).flatMap (ownD c)
def ownJs (c:Control) (i n:Nat):List (Pin×Pin):=(List.range' i n).flatMap (ownJ c)
theorem frame_sigs {c:Control}(h0:0<=c.actuators) (d:Dr) (hd:d.ends=(List.range (firstC c).toNat).map fun l:Nat=>portM c [] l):∀n,n<=c.signals.length->((List.range n).foldl (sigF c) d).gears=d.gears++ownDs c 0 n∧(∃j,Flips (ownJs c 0 n) j∧((List.range n).foldl (sigF c) d).links=d.links++j) ∧
  ((List.range n).foldl (sigF c) d).ends=((List.range ((firstC c).toNat+n)).map fun l:Nat=>portM c [] l)∧((List.range n).foldl (sigF c) d).count=d.count
 | 0,_=>⟨by simp[ownDs],⟨[],.nil,by simp⟩,by simpa using hd,rfl⟩
 | n+1,hn=>by
  obtain⟨i1,⟨j,i2,i3⟩,i4,i5⟩:=frame_sigs h0 d hd n (by omega)
  obtain⟨k1,⟨j',k2,k3⟩,k4,k5⟩:=sigF_eq ((List.range n).foldl (sigF c) d) (show n<c.signals.length by omega) h0
  rw[List.range_succ,List.foldl_append,List.foldl_cons,List.foldl_nil]
  refine⟨?_,⟨j++j',?_,?_⟩,?_,k5.trans i5⟩
  ·rw[k1,i1,ownDs,ownDs,List.range'_concat,List.flatMap_append]
   simp
  ·rw[ownJs,List.range'_concat,List.flatMap_append]
   refine i2.app ?_
   simpa using k2
  ·rw[k3,i3,List.append_assoc]
  ·have hf:0<=firstC c:=by unfold firstC;omega
   rw[k4,i4,<- Nat.add_assoc,range_ends c [] ((firstC c).toNat+n) 1]
   congr 1
   simp only[List.range_succ,List.range_zero,List.nil_append,List.map_cons,List.map_nil]
   rw[show (((firstC c).toNat+n+0:Nat):Int)=firstC c+n by omega]
structure Rel (c:Control) (m:Mk) (d:Dr) (rest:List Made) (restJ:List (Pin×Pin)):Prop where
 parts:(m.parts++rest).Perm d.gears
 joins:∀(α:Type) (φ:Pin×Pin->α),(∀a b,φ (a,b)=φ (b,a))->(m.joins.map φ++restJ.map φ).Perm (d.links.map φ)
 num:m.number=d.count
 ends:d.ends=endsL c m.gates
theorem frame_rel {c:Control}(h0:0<=c.actuators):Rel c (machineM c) (frameR c) (ownDs c 0 c.signals.length) (ownJs c 0 c.signals.length):=by
 have hb:=base_eq c
 have he:(baseR c).ends=(List.range (firstC c).toNat).map fun l:Nat=>portM c [] l:=by
  unfold baseR
  rw[ins_ends h0 [] c.inputs.length (Nat.le_refl _) _ (acts_ends h0 [] c.actuators.toNat (by omega) _ rfl),show (firstC c).toNat=2*c.actuators.toNat+c.inputs.length by unfold firstC;omega]
 obtain⟨i1,⟨j,i2,i3⟩,i4,i5⟩:=frame_sigs h0 (baseR c) he c.signals.length (Nat.le_refl _)
 have e:frameR c=(List.range c.signals.length).foldl (sigF c) (baseR c):=rfl
 have hg:=hb.gates
 rw[e]
 refine⟨?_,fun α φ hφ=>?_,?_,?_⟩
 ·rw[i1,hb.parts]
 ·rw[i3,List.map_append,hb.joins.map hφ,i2.map hφ]
 ·rw[i5,hb.num,hb.cnt]
 ·rw[i4,hg]
  unfold endsL
  rw[show (countC c).toNat=(firstC c).toNat+c.signals.length by unfold countC firstC;omega]
theorem expr_both {c:Control}{m:Mk}{d:Dr}{rest:List Made}{restJ:List (Pin×Pin)}(h:Rel c m d rest restJ) {x:Expr}(hx:∀v∈varsE x,0<=v∧v<countC c):SameD (m.expr c x) (d.expr x m.signal):=by
 unfold Mk.expr Dr.expr
 rw[<- h.num]
 refine expr_same _ x _ fun v hv=>?_
 have:=hx v hv
 rw[h.ends,endsL_at this]
theorem perm_mid {α:Type}{a b c d:List α}(h:(a++b).Perm d):(a++c++b).Perm (d++c):=by
 rw[List.append_assoc]
 refine (List.Perm.append_left a List.perm_append_comm).trans ?_
 rw[<- List.append_assoc]
 exact h.append_right c
theorem app_rel {c:Control}{m:Mk}{d:Dr}{rest:List Made}{restJ:List (Pin×Pin)}(h:Rel c m d rest restJ) {x y:Dl}(hs:SameD x y):Rel c (m.app x) (d.app y) rest restJ:=by
 obtain⟨h1,h2,h3,h4⟩:=h
 obtain⟨s1,s2,s3,s4⟩:=hs
 refine⟨?_,fun α φ hφ=>?_,s3,h4⟩
 ·simp only[Mk.app,Dr.app]
  rw[s1]
  exact perm_mid h1
 ·simp only[Mk.app,Dr.app,List.map_append]
  rw[s2.map hφ]
  exact perm_mid (h2 α φ hφ)
theorem join_rel {c:Control}{m:Mk}{d:Dr}{rest:List Made}{restJ:List (Pin×Pin)}(h:Rel c m d rest restJ) (a b:Pin):Rel c (m.join a b) (d.link a b) rest restJ:=by
 obtain⟨h1,h2,h3,h4⟩:=h
 refine⟨h1,fun α φ hφ=>?_,h3,h4⟩
 simp only[Mk.join,Dr.link,List.map_append]
 exact perm_mid (h2 α φ hφ)
theorem to_rel {c:Control}{m:Mk}{d:Dr}{rest:List Made}{restJ:List (Pin×Pin)}(h:Rel c m d rest restJ) {x:Expr}(hx:∀v∈varsE x,0<=v∧v<countC c) (p:Pin):Rel c (m.to c x p) (d.to x m.signal p) rest restJ:=by
 have hs:=expr_both h hx
 unfold Mk.to Dr.to
 rw[hs.pin]
 exact join_rel (app_rel h hs) _ _
theorem sig_rel {c:Control}{m:Mk}{d:Dr}{rest:List Made}{restJ:List (Pin×Pin)}(h:Rel c m d rest restJ) (i:Nat):Rel c (m.sig i) d rest restJ:=⟨h.parts,h.joins,h.num,h.ends⟩
theorem gate_rel {c:Control}{m:Mk}{d:Dr}{rest:List Made}{restJ:List (Pin×Pin)}(h:Rel c m d rest restJ) {i:Nat}(hi:i<c.signals.length) (h0:0<=c.actuators) (hx:∀x,c.signals[i]?=some x->∀v∈varsE x.on,0<=v∧v<countC c):Rel c (gateM c m i) (gateR c d i) rest restJ:=by
 have hxi:c.signals[i]?=some c.signals[i]:=List.getElem?_eq_getElem hi
 generalize c.signals[i]=x at hxi
 have hk:kindAt c i=x.kind:=by simp[kindAt,hxi]
 unfold gateM gateR
 rw[hxi,hk]
 dsimp only[Option.map_some,Option.getD_some]
 by_cases h1:x.kind=0
 ·rw[if_pos h1,if_pos h1]
  have hs:=expr_both (sig_rel h i) (hx x hxi)
  have ha:=app_rel (sig_rel h i) hs
  refine⟨ha.parts,ha.joins,ha.num,?_⟩
  show d.ends.set _ _=endsL c (putG m.gates _ _)
  rw[ends_put hi (hk.trans h1) _ (by omega),h.ends]
  congr 1
  exact hs.pin.symm
 ·rw[if_neg h1,if_neg h1]
  exact sig_rel h i
theorem own_rel {c:Control}{m:Mk}{d:Dr}{i n:Nat}(h:Rel c m d (ownDs c i (n+1)) (ownJs c i (n+1))):Rel c { m with parts:=m.parts++ownD c i,joins:=m.joins++ownJ c i } d (ownDs c (i+1) n) (ownJs c (i+1) n):=by
 obtain⟨h1,h2,h3,h4⟩:=h
 have e1:ownDs c i (n+1)=ownD c i++ownDs c (i+1) n:=by simp[ownDs,List.range'_succ]
 have e2:ownJs c i (n+1)=ownJ c i++ownJs c (i+1) n:=by simp[ownJs,List.range'_succ]
 rw[e1]at h1
 refine⟨?_,fun α φ hφ=>?_,h3,h4⟩
 ·dsimp only
  rw[List.append_assoc]
  exact h1
 ·have:=h2 α φ hφ
  rw[e2,List.map_append]at this
  dsimp only
  rw[List.map_append,List.append_assoc]
  exact this
theorem sigs_rel {c:Control}{m:Mk}{d:Dr}{i n:Nat}(h:Rel c m d (ownDs c i (n+1)) (ownJs c i (n+1))) (hi:i<c.signals.length) (hx:∀x,c.signals[i]?=some x->(x.kind=0∨x.kind=1∨x.kind=2)∧(∀v∈varsE x.on,0<=v∧v<countC c)∧∀v∈varsE x.off,0<=v∧v<countC c) :
  Rel c (sigM c m i) (sigR c d i) (ownDs c (i+1) n) (ownJs c (i+1) n):=by
 have hxi:c.signals[i]?=some c.signals[i]:=List.getElem?_eq_getElem hi
 generalize c.signals[i]=x at hxi
 have ho:=own_rel (sig_rel h i)
 obtain⟨hk,hon,hoff⟩:=hx x hxi
 unfold sigM sigR
 unfold ownD ownJ at ho
 rw[hxi]at ho ⊢
 dsimp only at ho ⊢
 rcases hk with hk | hk | hk
 ·simp only[hk,show ¬(0:Int)=1 by omega,show ¬(0:Int)=2 by omega,if_false,if_true,or_self,List.append_nil]at ho ⊢
  exact ho
 ·simp only[hk,show ¬(1:Int)=0 by omega,show ¬(1:Int)=2 by omega,if_false,if_true,or_false]at ho ⊢
  exact to_rel (to_rel ho hon _) hoff _
 ·simp only[hk,show ¬(2:Int)=0 by omega,show ¬(2:Int)=1 by omega,if_false,if_true,or_true]at ho ⊢
  exact to_rel ho hon _
theorem pil_rel {c:Control}{m:Mk}{d:Dr}(h:Rel c m d [] []) (a:Nat) (hp:0<=c.plus.getD a 0∧c.plus.getD a 0<countC c) (hm:0<=c.minus.getD a 0∧c.minus.getD a 0<countC c):Rel c (pilM c m a) (pilR c d a) [] []:=by
 unfold pilM pilR
 have e:∀d':Dr,d'.ends=endsL c m.gates->∀l:Int,0<=l∧l<countC c->d'.ends.getD l.toNat noPin=portM c m.gates l:=fun d' hd l hl=>by rw[hd,endsL_at hl]
 rw[e d h.ends _ hp]
 show Rel c _ ((d.link _ _).link (d.ends.getD _ _) _) _ _
 rw[e d h.ends _ hm]
 exact join_rel (join_rel h _ _) _ _
structure InC (c:Control):Prop where
 act:0<=c.actuators
 sig:∀(i:Nat) (x:Signal),c.signals[i]?=some x->(x.kind=0∨x.kind=1∨x.kind=2)∧(∀v∈varsE x.on,0<=v∧v<countC c)∧∀v∈varsE x.off,0<=v∧v<countC c
 pil:∀a:Nat,(a:Int)<c.actuators->(0<=c.plus.getD a 0∧c.plus.getD a 0<countC c)∧0<=c.minus.getD a 0∧c.minus.getD a 0<countC c
theorem gates_rel {c:Control}(hc:InC c) {m:Mk}{d:Dr}{rest:List Made}{restJ:List (Pin×Pin)}(h:Rel c m d rest restJ):∀n,n<=c.signals.length->Rel c ((List.range n).foldl (gateM c) m) ((List.range n).foldl (gateR c) d) rest restJ
 | 0,_=>h
 | n+1,hn=>by
  rw[List.range_succ,List.foldl_append,List.foldl_append]
  exact gate_rel (gates_rel hc h n (by omega)) (by omega) hc.act fun x hx=>(hc.sig n x hx).2.1
theorem sigsAll_rel {c:Control}(hc:InC c) {m:Mk}{d:Dr}:∀(n k:Nat),n+k=c.signals.length->Rel c m d (ownDs c 0 c.signals.length) (ownJs c 0 c.signals.length)->Rel c ((List.range n).foldl (sigM c) m) ((List.range n).foldl (sigR c) d) (ownDs c n k) (ownJs c n k)
 | 0,k,hk,h=>by
  obtain rfl:k=c.signals.length:=by omega
  exact h
 | n+1,k,hk,h=>by
  rw[List.range_succ,List.foldl_append,List.foldl_append]
  exact sigs_rel (sigsAll_rel hc n (k+1) (by omega) h) (by omega) (hc.sig n)
theorem whole_rel {c:Control}(hc:InC c):Rel c (wholeM c) (wholeR c) [] []:=by
 have h1:=gates_rel hc (frame_rel hc.act) c.signals.length (Nat.le_refl _)
 have h2:=sigsAll_rel hc c.signals.length 0 (by omega) h1
 have h3:∀n:Nat,(n:Int)<=c.actuators->∀ {m:Mk}{d:Dr},Rel c m d [] []->Rel c ((List.range n).foldl (pilM c) m) ((List.range n).foldl (pilR c) d) [] []:=by
  intro n
  induction n with
  | zero=>intro _ m d h;exact h
  | succ n ih=>
   intro hn m d h
   rw[List.range_succ,List.foldl_append,List.foldl_append]
   obtain⟨p1,p2⟩:=hc.pil n (by omega)
   exact pil_rel (ih (by omega) h) n p1 p2
 exact h3 c.actuators.toNat (by have:=hc.act;omega) h2
def PilC (c:Control):Prop:=(c.plus.length:Int)=c.actuators∧(c.minus.length:Int)=c.actuators∧(∀p∈c.plus,0<=p∧p<countC c)∧∀p∈c.minus,0<=p∧p<countC c
theorem chk_parts {c:Control}(h:checkC c=0):(1<=c.actuators∧c.actuators<=6)∧(c.inputs.length<=16∧c.signals.length<=64)∧(∀i,i<c.inputs.length->inpE c i=0)∧(∀i,i<c.signals.length->sigE c i=0)∧pilotE c=0:=by
 unfold checkC at h
 split at h
 ·cases h
 ·split at h
  ·cases h
  ·split at h
   ·rename_i h1;exact absurd h h1
   ·split at h
    ·rename_i h1;exact absurd h h1
    ·rename_i h1 h2 h3 h4
     exact⟨by omega,by omega,firstErr_zero (Classical.not_not.1 h3),firstErr_zero (Classical.not_not.1 h4),h⟩
theorem sig_parts {c:Control}{i:Int}{s:Signal}{names:List (List UInt8)}(h:signalE c i s names=0) :
  nameE s.name names=0∧(0<=s.kind∧s.kind<3)∧checkE s.on (countC c)=0∧(s.kind=0->lateC c i s.on=false∧zeroE s.off=true∧s.init=false∧s.delay=0)∧(s.kind=1->checkE s.off (countC c)=0∧s.delay=0)∧(s.kind=2->(1<=s.delay∧s.delay<=1000000)∧zeroE s.off=true∧s.init=false):=by
 unfold signalE at h
 split at h
 ·rename_i h1;exact absurd h h1
 ·rename_i h1
  split at h
  ·cases h
  ·rename_i h2
   split at h
   ·rename_i h3;exact absurd h h3
   ·rename_i h3
    refine⟨Classical.not_not.1 h1,by omega,Classical.not_not.1 h3,fun k=>?_,fun k=>?_,fun k=>?_⟩
    ·rw[if_pos k]at h
     unfold gateE at h
     split at h
     ·cases h
     ·rename_i h4
      split at h
      ·cases h
      ·rename_i h5
       simp at h4 h5
       exact⟨h4,h5.1.1,h5.1.2,h5.2⟩
    ·rw[if_neg (by omega),if_pos k]at h
     unfold memE at h
     split at h
     ·rename_i h4;exact absurd h h4
     ·rename_i h4
      split at h
      ·cases h
      ·rename_i h5
       exact⟨Classical.not_not.1 h4,Classical.not_not.1 h5⟩
    ·rw[if_neg (by omega),if_neg (by omega)]at h
     unfold timE at h
     split at h
     ·cases h
     ·split at h
      ·cases h
      ·rename_i h4 h5
       simp at h5
       exact⟨by omega,h5.1,h5.2⟩
theorem zero_right {x:Expr}(h:zeroE x=true) (n:Int):RightE n x:=by
 simp[zeroE]at h
 obtain⟨⟨h1,h2⟩,h3⟩:=h
 refine .mk x ?_ (by rw[h3];intro a ha;cases ha)
 unfold nodeR
 simp[h1,h2,h3]
theorem sig_right {c:Control}(hf:Fine c) {i:Nat}{x:Signal}(hx:c.signals[i]?=some x):RightE (countC c) x.on∧RightE (countC c) x.off:=by
 have ho:=hf.on hx
 refine⟨(right_of_check ho.1).1,?_⟩
 have h:=hf.sigs i x hx
 unfold signalE at h
 split at h
 ·rename_i h1;exact absurd h h1
 ·split at h
  ·cases h
  ·split at h
   ·rename_i h1;exact absurd h h1
   ·split at h
    ·refine zero_right ?_ _
     cases hz:zeroE x.off
     ·unfold gateE at h
      split at h
      ·cases h
      ·simp[hz]at h
     ·rfl
    ·split at h
     ·unfold memE at h
      split at h
      ·rename_i h1;exact absurd h h1
      ·rename_i h1;exact (right_of_check (Classical.not_not.1 h1)).1
     ·refine zero_right ?_ _
      cases hz:zeroE x.off
      ·unfold timE at h
       split at h
       ·cases h
       ·simp[hz]at h
      ·rfl
theorem pil_of {c:Control}(h:checkC c=0):PilC c:=by
 unfold checkC at h
 split at h
 ·cases h
 ·split at h
  ·cases h
  ·split at h
   ·rename_i h1;exact absurd h h1
   ·split at h
    ·rename_i h1;exact absurd h h1
    ·unfold pilotE at h
     split at h
     ·cases h
     ·split at h
      ·cases h
      ·rename_i h1 h2
       simp only[List.any_append,Bool.or_eq_true,List.any_eq_true,decide_eq_true_eq,not_or,not_exists,not_and]at h2
       refine⟨by omega,by omega,fun p hp=>?_,fun p hp=>?_⟩
       ·have:=h2.1 p hp
        omega
       ·have:=h2.2 p hp
        omega
theorem name_parts {s:List UInt8}{names:List (List UInt8)}(h:nameE s names=0):wordS s≠false∧s.length<=24∧s∉names:=by
 unfold nameE at h
 split at h
 ·cases h
 ·rename_i h1
  split at h
  ·cases h
  ·rename_i h2
   split at h
   ·cases h
   ·rename_i h3
    exact⟨h1,by omega,h3⟩
theorem fine_names {c:Control}(h:checkC c=0):∀k:Nat,(k:Int)<countC c->namedC c k∉namesB c k:=by
 have hf:=fine_of h
 have ha:=hf.act
 have hN:∀s names,nameE s names=0->s∉names:=by
  intro s names hz hm
  unfold nameE at hz
  split at hz
  ·cases hz
  ·split at hz
   ·cases hz
   ·simp[hm]at hz
 have hin:NoE (inpE c) c.inputs.length:=by
  unfold checkC at h
  split at h
  ·cases h
  ·split at h
   ·cases h
   ·split at h
    ·rename_i h1;exact absurd h h1
    ·rename_i h1;exact firstErr_zero (Classical.not_not.1 h1)
 obtain⟨N,hNN⟩:∃N:Nat,c.actuators=N:=⟨c.actuators.toNat,by omega⟩
 have hNt:c.actuators.toNat=N:=by omega
 intro k hk
 have hcn:countC c=2*c.actuators+c.inputs.length+c.signals.length:=rfl
 have hfc:firstC c=2*c.actuators+c.inputs.length:=rfl
 by_cases h1:(k:Int)<2*c.actuators
 ·exact line_notin h1 (by omega)
 ·by_cases h2:(k:Int)<firstC c
  ·obtain⟨i,hi⟩:∃i:Nat,k=2*N+i:=⟨k-2*N,by omega⟩
   have hz:=hin i (by omega)
   unfold inpE at hz
   rw[hNt,<- hi]at hz
   exact hN _ _ hz
  ·obtain⟨i,hi⟩:∃i:Nat,k=2*N+c.inputs.length+i:=⟨k-(2*N+c.inputs.length),by omega⟩
   have hil:i<c.signals.length:=by omega
   have hx:c.signals[i]?=some c.signals[i]:=List.getElem?_eq_getElem hil
   have hz:=hf.sigs i _ hx
   rw[hNt,<- hi]at hz
   have hn:namedC c k=c.signals[i].name:=by
    refine named_sig (s:=c.signals[i]) (by omega) (by omega) ?_
    rw[show ((k:Int)-firstC c).toNat=i by omega]
    exact hx
   rw[hn]
   refine hN _ _ ?_
   unfold signalE at hz
   split at hz
   ·rename_i h3;exact absurd hz h3
   ·rename_i h3;exact Classical.not_not.1 h3
theorem perm_at {α:Type}(G:List α) (d:α) (n:Nat) (hn:G.length=n) (ix:List Nat) (h:ix.Perm (List.range n)):(ix.map fun i=>G.getD i d).Perm G:=by
 subst hn
 have h1:=h.map fun i=>G.getD i d
 refine h1.trans ?_
 have e:(List.range G.length).map (fun i=>G.getD i d)=G:=by
  apply List.ext_getElem
  ·simp
  ·intro i h1 h2
   simp[h2]
 rw[e]
theorem occ_off {c:Control}(hf:Fine c) {i:Nat}{s:Signal}(hi:c.signals[i]?=some s):(∀k,occE s.off k=(varsE s.off).any (·==k))∧∀k∈varsE s.off,0<=k∧k<countC c:=by
 have hz0:zeroE s.off=true->(∀k,occE s.off k=(varsE s.off).any (·==k))∧∀k∈varsE s.off,0<=k∧k<countC c:=by
  intro hz
  simp[zeroE]at hz
  have e:varsE s.off=[]:=by rw[varsE_eq,hz.2,hz.1.1];simp[varsL]
  rw[e]
  refine⟨fun k=>?_,by simp⟩
  rw[occE_eq,hz.2,hz.1.1]
  simp[occL]
 have h:=hf.sigs i s hi
 unfold signalE at h
 split at h
 ·rename_i h1;exact absurd h h1
 ·split at h
  ·cases h
  ·split at h
   ·rename_i h1;exact absurd h h1
   ·split at h
    ·refine hz0 ?_
     cases hz:zeroE s.off
     ·unfold gateE at h
      split at h
      ·cases h
      ·simp[hz]at h
     ·rfl
    ·split at h
     ·unfold memE at h
      split at h
      ·rename_i h1;exact absurd h h1
      ·rename_i h1
       have h2:=Classical.not_not.1 h1
       exact⟨occ_check h2,vars_check h2⟩
     ·refine hz0 ?_
      cases hz:zeroE s.off
      ·unfold timE at h
       split at h
       ·cases h
       ·simp[hz]at h
      ·rfl
theorem sm_of {c:Control}{s:State}(hf:Fine c) (h:shapeS c s):SmS s:=by
 obtain⟨h1,h2,h3,h4,h5⟩:=h
 have:=hf.act
 have:=hf.inp
 have:=hf.sig
 exact⟨by omega,by omega,by omega,by omega,by omega⟩
theorem numT_ne (n:Nat):numT n≠[]:=by
 unfold numT
 rw[Go.Lib.decDigits]
 split<;>simp
theorem dig_inj {a b:Nat}(ha:a<10) (hb:b<10) (h:UInt8.ofNat (48+a)=UInt8.ofNat (48+b)):a=b:=by
 have:=congrArg UInt8.toNat h
 simp only[UInt8.toNat_ofNat']at this
 omega
theorem numT_inj:∀(a b:Nat),numT a=numT b->a=b:=by
 intro a
 induction a using Nat.strongRecOn with
 | _ a ih=>
  intro b h
  have ha:numT a=if a<10 then [UInt8.ofNat (48+a)] else numT (a / 10)++[UInt8.ofNat (48+a % 10)]:=by unfold numT;rw[Go.Lib.decDigits];split<;>rfl
  have hb:numT b=if b<10 then [UInt8.ofNat (48+b)] else numT (b / 10)++[UInt8.ofNat (48+b % 10)]:=by unfold numT;rw[Go.Lib.decDigits];split<;>rfl
  rw[ha,hb]at h
  have hl:∀n,0<(numT n).length:=fun n=>List.length_pos_iff.2 (numT_ne n)
  by_cases h1:a<10
  ·by_cases h2:b<10
   ·rw[if_pos h1,if_pos h2]at h
    exact dig_inj h1 h2 (List.cons.inj h).1
   ·rw[if_pos h1,if_neg h2]at h
    have h3:=congrArg List.length h
    rw[List.length_append]at h3
    simp only[List.length_cons,List.length_nil]at h3
    have:=hl (b / 10)
    omega
  ·by_cases h2:b<10
   ·rw[if_neg h1,if_pos h2]at h
    have h3:=congrArg List.length h
    rw[List.length_append]at h3
    simp only[List.length_cons,List.length_nil]at h3
    have:=hl (a / 10)
    omega
   ·rw[if_neg h1,if_neg h2]at h
    obtain⟨e1,e2⟩:=List.append_inj' h rfl
    have:=ih (a / 10) (by omega) (b / 10) e1
    have:=dig_inj (Nat.mod_lt _ (by omega)) (Nat.mod_lt _ (by omega)) (List.cons.inj e2).1
    omega
def opLet (l:UInt8):Prop:=l=78∨l=80∨l=81
def ownLet (l:UInt8):Prop:=l=77∨l=84
def Numd (k:Nat) (ps:List Made):Prop:=∀(t:Nat) (p:Made),ps[t]?=some p->∃l,opLet l∧p.name=l::numT (k+t)
theorem Numd.nil (k:Nat):Numd k []:=fun t p h=>by simp at h
theorem Numd.app {k j:Nat}{a b:List Made}(h:Numd k a) (h2:Numd j b) (hj:j=k+a.length):Numd k (a++b):=by
 intro t p hp
 by_cases ht:t<a.length
 ·rw[List.getElem?_append_left ht]at hp
  exact h t p hp
 ·rw[List.getElem?_append_right (by omega)]at hp
  obtain⟨l,h3,h4⟩:=h2 _ p hp
  exact⟨l,h3,by rw[h4,hj];congr 2;omega⟩
theorem Numd.one {k:Nat}{p:Made}{l:UInt8}(hl:opLet l) (hn:p.name=l::numT k):Numd k [p]:=by
 intro t q hq
 cases t with
 | zero=>
  simp at hq
  subst hq
  exact⟨l,hl,hn⟩
 | succ t=>simp at hq
theorem twin_numd {sg kind:Int}{letter:UInt8}(hl:opLet letter) {k:Nat}:∀(ps:List Pin) {d:Dl},Numd k d.parts->d.num=k+d.parts.length ->
  Numd k (ps.foldl (twinD sg kind letter) d).parts∧(ps.foldl (twinD sg kind letter) d).num=k+(ps.foldl (twinD sg kind letter) d).parts.length
 | [],d,h,hn=>⟨h,hn⟩
 | p::ps,d,h,hn=>by
  rw[List.foldl_cons]
  refine twin_numd hl ps ?_ ?_
  ·exact h.app (Numd.one (l:=letter) hl rfl) hn
  ·simp only[twinD,List.length_append,List.length_cons,List.length_nil]
   omega
mutual
theorem expr_numd (fl:Bool) (pf:Int->Pin) (sg:Int):∀(x:Expr) (k:Nat),Numd k (exprD fl pf sg x k).parts∧(exprD fl pf sg x k).num=k+(exprD fl pf sg x k).parts.length
 | ⟨op,ix,args⟩,k=>by
  have h:=args_numd fl pf sg args k
  rw[exprD_eq]
  dsimp only
  split
  ·exact⟨.nil k,rfl⟩
  ·split
   ·exact⟨.nil k,rfl⟩
   ·generalize argsD fl pf sg args k=r at *
    obtain⟨r1,r2,r3,r4⟩:=r
    obtain⟨h1,h2⟩:=h
    dsimp only at h1 h2 ⊢
    split
    ·unfold notsD
     cases args.head? with
     | none=>exact⟨h1,h2⟩
     | some y=>
      refine⟨h1.app (Numd.one (l:=78) (.inl rfl) rfl) h2,?_⟩
      simp only[notD,List.length_append,List.length_cons,List.length_nil]
      omega
    ·unfold foldD
     dsimp only
     cases r4 with
     | nil=>exact⟨h1,h2⟩
     | cons p ps=>
      refine twin_numd ?_ ps h1 h2
      split
      ·exact .inr (.inl rfl)
      ·exact .inr (.inr rfl)
theorem args_numd (fl:Bool) (pf:Int->Pin) (sg:Int):∀(xs:List Expr) (k:Nat),Numd k (argsD fl pf sg xs k).parts∧(argsD fl pf sg xs k).num=k+(argsD fl pf sg xs k).parts.length
 | [],k=>⟨.nil k,rfl⟩
 | x::xs,k=>by
  obtain⟨a1,a2⟩:=expr_numd fl pf sg x k
  obtain⟨b1,b2⟩:=args_numd fl pf sg xs (exprD fl pf sg x k).num
  rw[argsD]
  refine⟨a1.app b1 a2,?_⟩
  simp only[List.length_append]
  omega
end
def NameK (B:List (List UInt8)) (k n:Nat) (s:List UInt8):Prop:=
 s∈B∨(∃l i,ownLet l∧i<k∧s=l::numT i)∨∃l j,opLet l∧j<n∧s=l::numT j
def Base (B:List (List UInt8)):Prop:=∀s∈B,∀l r,s=l::r->¬opLet l∧¬ownLet l
structure NmOK (B:List (List UInt8)) (m:Mk) (k:Nat):Prop where
 nod:(m.parts.map Made.name).Nodup
 cls:∀s∈m.parts.map Made.name,NameK B k m.number s
theorem op_own {l:UInt8}(h1:opLet l) (h2:ownLet l):False:=by
 rcases h1 with rfl | rfl | rfl<;>rcases h2 with h | h<;>exact absurd h (by decide)
theorem app_names {B:List (List UInt8)}(hB:Base B) {m:Mk}{k:Nat}(h:NmOK B m k) {ps:List Made}{n:Nat}(hp:Numd m.number ps) (hn:n=m.number+ps.length) (js:List (Pin×Pin)):NmOK B { m with parts:=m.parts++ps,joins:=js,number:=n } k:=by
 obtain⟨h1,h2⟩:=h
 have hnew:∀s∈ps.map Made.name,∃l t,opLet l∧m.number<=t∧t<n∧s=l::numT t:=by
  intro s hs
  obtain⟨p,hp1,rfl⟩:=List.mem_map.1 hs
  obtain⟨t,ht,he⟩:=List.getElem_of_mem hp1
  obtain⟨l,h3,h4⟩:=hp t p (by rw[List.getElem?_eq_getElem ht,he])
  exact⟨l,m.number+t,h3,by omega,by omega,h4⟩
 constructor
 ·dsimp only
  rw[List.map_append,List.nodup_append]
  refine⟨h1,?_,?_⟩
  ·rw[List.Nodup,List.pairwise_iff_getElem]
   intro i j hi hj hij e
   rw[List.length_map]at hi hj
   rw[List.getElem_map,List.getElem_map]at e
   obtain⟨l,_,a1⟩:=hp i ps[i] (List.getElem?_eq_getElem hi)
   obtain⟨l',_,a2⟩:=hp j ps[j] (List.getElem?_eq_getElem hj)
   rw[a1,a2]at e
   have:=numT_inj _ _ (List.cons.inj e).2
   omega
  ·intro a ha b hb e
   subst e
   obtain⟨l,t,b1,b2,b3,rfl⟩:=hnew a hb
   rcases h2 _ ha with c1 | ⟨l',i,c1,c2,c3⟩|⟨l',j,c1,c2,c3⟩
   ·exact (hB _ c1 l _ rfl).1 b1
   ·rw[(List.cons.inj c3).1]at b1
    exact op_own b1 c1
   ·have:=numT_inj _ _ (List.cons.inj c3).2
    omega
 ·intro s hs
  dsimp only at hs ⊢
  rw[List.map_append]at hs
  rcases List.mem_append.1 hs with hs | hs
  ·rcases h2 s hs with c1 | c1 | ⟨l,j,c1,c2,c3⟩
   ·exact .inl c1
   ·exact .inr (.inl c1)
   ·exact .inr (.inr ⟨l,j,c1,by omega,c3⟩)
  ·obtain⟨l,t,b1,b2,b3,b4⟩:=hnew s hs
   exact .inr (.inr ⟨l,t,b1,b3,b4⟩)
theorem expr_names {B:List (List UInt8)}(hB:Base B) {c:Control}{m:Mk}{k:Nat}(h:NmOK B m k) (x:Expr):NmOK B (m.app (m.expr c x)) k:=by
 obtain⟨h1,h2⟩:=expr_numd false (portM c m.gates) m.signal x m.number
 exact app_names hB h h1 h2 _
theorem more_names {B:List (List UInt8)}{m:Mk}{k:Nat}(h:NmOK B m k):NmOK B m (k+1):=by
 refine⟨h.nod,fun s hs=>?_⟩
 rcases h.cls s hs with c1 | ⟨l,i,c1,c2,c3⟩|c1
 ·exact .inl c1
 ·exact .inr (.inl ⟨l,i,c1,by omega,c3⟩)
 ·exact .inr (.inr c1)
theorem own_names {B:List (List UInt8)}(hB:Base B) {m:Mk}{k:Nat}(h:NmOK B m k) {p:Made}{l:UInt8}(hl:ownLet l) (hp:p.name=l::numT k) (js:List (Pin×Pin)):NmOK B { m with parts:=m.parts++[p],joins:=js } (k+1):=by
 obtain⟨h1,h2⟩:=h
 constructor
 ·dsimp only
  rw[List.map_append,List.nodup_append]
  refine⟨h1,by simp,?_⟩
  intro a ha b hb e
  subst e
  simp only[List.map_cons,List.map_nil,List.mem_singleton]at hb
  rw[hp]at hb
  subst hb
  rcases h2 _ ha with c1 | ⟨l',i,c1,c2,c3⟩|⟨l',j,c1,c2,c3⟩
  ·exact (hB _ c1 l _ rfl).2 hl
  ·have:=numT_inj _ _ (List.cons.inj c3).2
   omega
  ·rw[(List.cons.inj c3).1]at hl
   exact op_own c1 hl
 ·intro s hs
  dsimp only at hs ⊢
  rw[List.map_append]at hs
  rcases List.mem_append.1 hs with hs | hs
  ·rcases h2 s hs with c1 | ⟨l',i,c1,c2,c3⟩|c1
   ·exact .inl c1
   ·exact .inr (.inl ⟨l',i,c1,by omega,c3⟩)
   ·exact .inr (.inr c1)
  ·simp only[List.map_cons,List.map_nil,List.mem_singleton]at hs
   exact .inr (.inl ⟨l,k,hl,by omega,by rw[hs,hp]⟩)
theorem to_names {B:List (List UInt8)}(hB:Base B) {c:Control}{m:Mk}{k:Nat}(h:NmOK B m k) (x:Expr) (p:Pin):NmOK B (m.to c x p) k:=by
 have:=expr_names hB (c:=c) h x
 exact⟨this.nod,this.cls⟩
theorem sigM_names {B:List (List UInt8)}(hB:Base B) {c:Control}{m:Mk}{k:Nat}(h:NmOK B m k):NmOK B (sigM c m k) (k+1):=by
 have hs:NmOK B (m.sig k) k:=⟨h.nod,h.cls⟩
 unfold sigM
 cases hx:c.signals[k]? with
 | none=>exact more_names h
 | some x=>
  have hk:kindAt c k=x.kind:=by simp[kindAt,hx]
  dsimp only
  split
  ·rename_i h1
   refine to_names hB (to_names hB (own_names hB hs (l:=77) (.inl rfl) ?_ _) _ _) _ _
   simp[ownT,hk,h1]
  ·split
   ·rename_i h1
    refine to_names hB (own_names hB hs (l:=84) (.inr rfl) ?_ _) _ _
    simp[ownT,hk,h1]
   ·exact more_names hs
theorem gateM_names {B:List (List UInt8)}(hB:Base B) {c:Control}{m:Mk}{k:Nat}(h:NmOK B m k) (i:Nat):NmOK B (gateM c m i) k:=by
 have hs:NmOK B (m.sig i) k:=⟨h.nod,h.cls⟩
 unfold gateM
 split
 ·have:=expr_names hB (c:=c) hs (((c.signals[i]?).map (·.on)).getD ⟨0,0,[]⟩)
  exact⟨this.nod,this.cls⟩
 ·exact hs
theorem pilM_names {B:List (List UInt8)}{c:Control}{m:Mk}{k:Nat}(h:NmOK B m k) (i:Nat):NmOK B (pilM c m i) k:=⟨h.nod,h.cls⟩
def actN (n:Nat):List (List UInt8):=(List.range n).flatMap fun a=>[letterT a,letterT a++[48],letterT a++[49],86::letterT a]
theorem valve_names (m:Mk) (a:Int):(m.valve a).parts.map Made.name=m.parts.map Made.name:=by
 unfold Mk.valve
 dsimp only
 cases hp:m.parts[m.parts.length-1]? with
 | none=>
  have h0:m.parts=[]:=by
   cases hl:m.parts with
   | nil=>rfl
   | cons a l=>
    rw[List.getElem?_eq_none_iff,hl]at hp
    simp at hp
    omega
  rw[h0]
  rfl
 | some p=>
  obtain⟨hlt,he⟩:=List.getElem?_eq_some_iff.1 hp
  rw[List.map_set]
  dsimp only
  rw[<- he]
  apply List.ext_getElem?
  intro n
  rw[List.getElem?_set]
  split
  ·rename_i e
   subst e
   simp[hlt]
  ·rfl
theorem act_names (m:Mk) (a:Nat):(actM m a).parts.map Made.name=m.parts.map Made.name++[letterT a,letterT a++[48],letterT a++[49],86::letterT a]:=by
 unfold actM
 simp only[Mk.feed,Mk.join,valve_names]
 simp[Mk.add]
theorem acts_names (m:Mk):∀n,((List.range n).foldl actM m).parts.map Made.name=m.parts.map Made.name++actN n
 | 0=>by simp[actN]
 | n+1=>by
  rw[List.range_succ,List.foldl_append,List.foldl_cons,List.foldl_nil,act_names,acts_names m n,actN,actN,List.range_succ,List.flatMap_append]
  simp
theorem ins_names (c:Control) (m:Mk):∀n,n<=c.inputs.length->((List.range n).foldl (inM c) m).parts.map Made.name=m.parts.map Made.name++c.inputs.take n
 | 0,_=>by simp
 | n+1,hn=>by
  rw[List.range_succ,List.foldl_append,List.foldl_cons,List.foldl_nil,List.take_add_one,<- List.append_assoc,<- ins_names c m n (by omega)]
  simp[inM,Mk.add,Mk.feed,Mk.join,List.getD_eq_getElem?_getD,List.getElem?_eq_getElem (show n<c.inputs.length by omega)]
theorem machine_names (c:Control):(machineM c).parts.map Made.name=[83]::(actN c.actuators.toNat++c.inputs):=by
 unfold machineM
 rw[ins_names c _ _ (Nat.le_refl _),acts_names,List.take_length]
 simp[Mk.add]
def headB (s:List UInt8):Bool:=match s with
 | []=>false
 | b::_=>decide (b.toNat<=70)||decide (b.toNat=83)||decide (b.toNat=86)
theorem acts_ok:∀n,n<=6->([83]::actN n).Nodup∧([83]::actN n).all headB=true:=by
 intro n hn
 have:n=0∨n=1∨n=2∨n=3∨n=4∨n=5∨n=6:=by omega
 rcases this with rfl | rfl | rfl | rfl | rfl | rfl | rfl<;>decide
theorem word_head {s:List UInt8}(h:wordS s≠false):∃b r,s=b::r∧97<=b.toNat∧b.toNat<=122:=by
 cases s with
 | nil=>exact absurd rfl h
 | cons b r=>
  have:wordS (b::r)=true:=by simpa using h
  simp only[wordS,Bool.and_eq_true,decide_eq_true_eq]at this
  exact⟨b,r,rfl,this.1.1,this.1.2⟩
theorem ins_word {c:Control}(h:checkC c=0):∀s∈c.inputs,wordS s≠false:=by
 obtain⟨h1,h2,h3,h4,h5⟩:=chk_parts h
 intro s hs
 obtain⟨i,hi,rfl⟩:=List.getElem_of_mem hs
 have:=h3 i hi
 unfold inpE at this
 rw[named_inp (s:=c.inputs[i]) (by omega) (by unfold firstC;omega) (by rw[show ((2*c.actuators.toNat+i:Nat)-2*c.actuators:Int).toNat=i by omega,List.getElem?_eq_getElem hi])]at this
 exact (name_parts this).1
theorem ins_nodup {c:Control}(h:checkC c=0):c.inputs.Nodup:=by
 obtain⟨h1,h2,h3,h4,h5⟩:=chk_parts h
 rw[List.Nodup,List.pairwise_iff_getElem]
 intro i j hi hj hij e
 have hn:∀k (hk:k<c.inputs.length),namedC c (2*c.actuators.toNat+k:Nat)=c.inputs[k]:=fun k hk=>
  named_inp (by omega) (by unfold firstC;omega) (by rw[show ((2*c.actuators.toNat+k:Nat)-2*c.actuators:Int).toNat=k by omega,List.getElem?_eq_getElem hk])
 have:=fine_names h (2*c.actuators.toNat+j) (by unfold countC;omega)
 rw[hn j hj,<- e,<- hn i hi]at this
 refine this ?_
 unfold namesB
 exact List.mem_map.2 ⟨_,List.mem_range.2 (by omega),rfl⟩
theorem machine_ok {c:Control}(h:checkC c=0):Base ((machineM c).parts.map Made.name)∧NmOK ((machineM c).parts.map Made.name) (machineM c) 0:=by
 obtain⟨h1,h2,h3,h4,h5⟩:=chk_parts h
 obtain⟨a1,a2⟩:=acts_ok c.actuators.toNat (by omega)
 have hw:=ins_word h
 have hb:∀s∈[83]::actN c.actuators.toNat,headB s=true:=fun s hs=>List.all_eq_true.1 a2 s hs
 have hm:(machineM c).parts.map Made.name=([83]::actN c.actuators.toNat)++c.inputs:=machine_names c
 refine⟨?_,?_,fun s hs=>.inl hs⟩
 ·intro s hs l r e
  rw[hm]at hs
  subst e
  have hl:l.toNat<=70∨l.toNat=83∨l.toNat=86∨97<=l.toNat:=by
   rcases List.mem_append.1 hs with hs | hs
   ·have:=hb _ hs
    simp only[headB,Bool.or_eq_true,decide_eq_true_eq]at this
    omega
   ·obtain⟨b,r',e,e1,e2⟩:=word_head (hw _ hs)
    rw[(List.cons.inj e).1]
    omega
  constructor
  ·rintro (rfl | rfl | rfl)<;>exact absurd hl (by decide)
  ·rintro (rfl | rfl)<;>exact absurd hl (by decide)
 ·rw[hm,List.nodup_append]
  refine⟨a1,ins_nodup h,?_⟩
  intro a ha b hb2 e
  subst e
  obtain⟨b,r,rfl,e1,e2⟩:=word_head (hw _ hb2)
  have:=hb _ ha
  simp only[headB,Bool.or_eq_true,decide_eq_true_eq]at this
  omega
theorem whole_names {c:Control}(h:checkC c=0):((wholeM c).parts.map Made.name).Nodup:=by
 obtain⟨hB,h0⟩:=machine_ok h
 have h1:∀n,NmOK ((machineM c).parts.map Made.name) ((List.range n).foldl (gateM c) (machineM c)) 0:=by
  intro n
  induction n with
  | zero=>exact h0
  | succ n ih=>
   rw[List.range_succ,List.foldl_append]
   exact gateM_names hB ih n
 have h2:∀n,NmOK ((machineM c).parts.map Made.name) ((List.range n).foldl (sigM c) ((List.range c.signals.length).foldl (gateM c) (machineM c))) n:=by
  intro n
  induction n with
  | zero=>exact h1 _
  | succ n ih=>
   rw[List.range_succ,List.foldl_append]
   exact sigM_names hB ih
 have h3:∀n,NmOK ((machineM c).parts.map Made.name) ((List.range n).foldl (pilM c) ((List.range c.signals.length).foldl (sigM c) ((List.range c.signals.length).foldl (gateM c) (machineM c)))) c.signals.length:=by
  intro n
  induction n with
  | zero=>exact h2 _
  | succ n ih=>
   rw[List.range_succ,List.foldl_append]
   exact pilM_names ih n
 exact (h3 _).nod
end Go.Proofs.YtafamcbdaeppoaaGreatDoor
