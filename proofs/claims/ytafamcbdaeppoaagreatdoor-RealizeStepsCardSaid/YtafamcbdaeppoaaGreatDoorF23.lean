/- Texts joined by a program: Ox,Ka,Kb,Kc,Kn,Ql,Jc. -/
import Derived.Lib.ItoaNum
import Derived.Test.YtafamcbdaeppoaaGreatDoorF21
import Derived.Test.YtafamcbdaeppoaaGreatDoorF22
import Derived.Test.YtafamcbdaeppoaaGreatDoorF15
import Derived.Test.YtafamcbdaeppoaaGreatDoorF20
set_option linter.unusedSimpArgs false
set_option linter.unusedVariables false
set_option maxHeartbeats 16000000
set_option maxRecDepth 100000
namespace Go.Proofs.YtafamcbdaeppoaaGreatDoor
theorem letter_inj {a b:Nat}(ha:a<100) (hb:b<100) (h:letterT a=letterT b):a=b:=by
 unfold letterT at h
 simp only[List.cons.injEq,and_true]at h
 have:=congrArg UInt8.toNat h
 simp only[UInt8.toNat_ofNat']at this
 omega
theorem whole_gear {c:Control}(hc:checkC c=0):∀p∈(wholeM c).parts,GearK c p:=fun p hp=>whole_k hc p ((gears_perm hc).mem_iff.1 hp)
abbrev TelW (c:Control) (s:State) (p:Pin) (b:Bool):Prop:=Tel (wholeM c).joins (wholeM c).parts (onM c (gatesP c s)) p b
abbrev valL (c:Control) (s:State) (l:Int):Bool:=(valuesOf (gatesP c s)).getD l.toNat false
theorem on_line {c:Control}{s:State}(hR:rightC c s=0) {p:Made}{l:Int}(ha:p.arg=none) (hv:p.valve = -1) (hl:p.line=l) (h0:0<=l∧l<countC c):onM c (gatesP c s) p=valL c s l:=by
 have hg:=gates_right hR
 unfold onM
 rw[ha]
 simp only
 rw[hv,if_neg (by decide),hl,if_pos h0.1]
 unfold valueP
 rw[if_neg (by simp[hg]),if_neg (by omega)]
 simp only[valL]
 rw[List.getD_eq_getElem?_getD]
theorem kn_part {c:Control}{k:Int}{t:List UInt8}(h:(k,t)∈(wholeM c).parts.map knOf):∃p∈(wholeM c).parts,p.kind=k∧p.name=t:=by
 obtain⟨p,hp,e⟩:=List.mem_map.1 h
 simp only[knOf,Prod.mk.injEq]at e
 exact⟨p,hp,e.1,e.2⟩
theorem plain_tel {c:Control}{s:State}{p:Made}(hp:p∈(wholeM c).parts) (hk:p.kind=6∨p.kind=7∨p.kind=12) {b:Bool}(hb:onM c (gatesP c s) p=b) {t:List UInt8}(ht:p.name=t):TelW c s ⟨t,[50]⟩ b:=by
 subst ht
 rw[<- hb]
 exact .plain p hp hk (whole_feed c p hp (by unfold FedK;omega))
theorem limit_tel {c:Control}(hc:checkC c=0) {s:State}(hR:rightC c s=0) {a:Nat}(ha:(a:Int)<c.actuators):TelW c s ⟨letterT a++[48],[50]⟩ (valL c s (2*a))∧TelW c s ⟨letterT a++[49],[50]⟩ (valL c s (2*a+1)):=by
 have hF:=whole_fullT (inC_of hc).act
 obtain⟨_,h1,h2,_⟩:=hF.act a ha
 have hact:=(fine_of hc).act
 have hcn:countC c=2*c.actuators+c.inputs.length+c.signals.length:=rfl
 constructor
 ·obtain⟨p,hp,hk,hn⟩:=kn_part h1
  have hg:=whole_gear hc p hp
  refine plain_tel hp (.inl hk) ?_ hn
  cases hg<;>simp only at hk<;>first | omega | skip
  ·rename_i a' ha'
   have:a'=a:=letter_inj (by omega) (by omega) (List.append_cancel_right hn)
   subst this
   exact on_line hR rfl rfl rfl (by omega)
  ·rename_i a' ha'
   exact absurd (List.append_inj_right' hn rfl) (by decide)
 ·obtain⟨p,hp,hk,hn⟩:=kn_part h2
  have hg:=whole_gear hc p hp
  refine plain_tel hp (.inl hk) ?_ hn
  cases hg<;>simp only at hk<;>first | omega | skip
  ·rename_i a' ha'
   exact absurd (List.append_inj_right' hn rfl) (by decide)
  ·rename_i a' ha'
   have:a'=a:=letter_inj (by omega) (by omega) (List.append_cancel_right hn)
   subst this
   exact on_line hR rfl rfl rfl (by omega)
theorem input_tel {c:Control}(hc:checkC c=0) {s:State}(hR:rightC c s=0) {i:Nat}(hi:i<c.inputs.length):TelW c s ⟨c.inputs.getD i [],[50]⟩ (valL c s (2*c.actuators+i)):=by
 have hF:=whole_fullT (inC_of hc).act
 obtain⟨p,hp,hk,hn⟩:=kn_part (hF.inp i hi)
 have hg:=whole_gear hc p hp
 have hact:=(fine_of hc).act
 have hcn:countC c=2*c.actuators+c.inputs.length+c.signals.length:=rfl
 refine plain_tel hp (.inr (.inl hk)) ?_ hn
 cases hg<;>simp only at hk<;>first | omega | skip
 rename_i j hj
 have hnd:=ins_nodup hc
 have:j=i:=by
  rw[List.getD_eq_getElem?_getD,List.getD_eq_getElem?_getD,List.getElem?_eq_getElem hj,List.getElem?_eq_getElem hi]at hn
  exact (List.getElem_inj hnd).1 hn
 subst this
 exact on_line hR rfl rfl rfl (by omega)
theorem own_cancel {c:Control}{i j:Nat}(h:ownT c i=ownT c j):i=j:=by
 unfold ownT at h
 simp only[List.cons.injEq]at h
 exact numT_inj _ _ h.2
theorem timer_tel {c:Control}(hc:checkC c=0) {s:State}(hR:rightC c s=0) {i:Nat}(hi:i<c.signals.length) (hk2:kindAt c i=2):TelW c s ⟨ownT c i,[50]⟩ (valL c s (firstC c+i)):=by
 have hF:=whole_fullT (inC_of hc).act
 obtain⟨p,hp,hk,hn⟩:=kn_part (hF.tim i hi hk2)
 have hg:=whole_gear hc p hp
 have hact:=(fine_of hc).act
 have hcn:countC c=2*c.actuators+c.inputs.length+c.signals.length:=rfl
 have hfc:firstC c=2*c.actuators+c.inputs.length:=rfl
 refine plain_tel hp (.inr (.inr hk)) ?_ hn
 cases hg<;>simp only at hk<;>first | omega | skip
 rename_i j x hx hkx
 obtain rfl:=own_cancel hn
 exact on_line hR rfl rfl rfl (by omega)
theorem memory_tel {c:Control}(hc:checkC c=0) {s:State}(hR:rightC c s=0) {i:Nat}(hi:i<c.signals.length) (hk1:kindAt c i=1):TelW c s ⟨ownT c i,[52]⟩ (valL c s (firstC c+i)):=by
 have hF:=whole_fullT (inC_of hc).act
 obtain⟨p,hp,hk,hn⟩:=kn_part (hF.mem i hi hk1)
 have hg:=whole_gear hc p hp
 have hact:=(fine_of hc).act
 have hcn:countC c=2*c.actuators+c.inputs.length+c.signals.length:=rfl
 have hfc:firstC c=2*c.actuators+c.inputs.length:=rfl
 have hfeed:=whole_feed c p hp (by unfold FedK;omega)
 have e:p.valve = -1∧onM c (gatesP c s) p=valL c s (firstC c+i):=by
  cases hg<;>simp only at hk<;>first | omega | skip
  ·rename_i a ha
   exfalso
   unfold ownT at hn
   simp only[List.cons.injEq]at hn
   have:=hn.1
   split at this<;>exact absurd this (by decide)
  ·rename_i j x hx hkx
   obtain rfl:=own_cancel hn
   exact⟨rfl,on_line hR rfl rfl rfl (by omega)⟩
 have ht:=Tel.mem (J:=(wholeM c).joins) (Ps:=(wholeM c).parts) (on:=onM c (gatesP c s)) p hp hk e.1 hfeed
 rw[hn,e.2]at ht
 exact ht
theorem port_tel {c:Control}(hc:checkC c=0) {s:State}(hR:rightC c s=0) {g:List (Int×Pin)}{l:Int}(hl:0<=l∧l<countC c) (hg:firstC c<=l->kindAt c (l-firstC c)=0->TelW c s ((getG g l).getD noPin) (valL c s l)):TelW c s (portM c g l) (valL c s l):=by
 have hcn:countC c=2*c.actuators+c.inputs.length+c.signals.length:=rfl
 have hfc:firstC c=2*c.actuators+c.inputs.length:=rfl
 have hact:=(fine_of hc).act
 unfold portM
 split
 ·rename_i h1
  obtain⟨a1,a2⟩:=limit_tel hc hR (a:=l.toNat / 2) (by omega)
  rcases Nat.mod_two_eq_zero_or_one l.toNat with e | e
  ·rw[e,num0]
   have:(2*((l.toNat / 2:Nat):Int))=l:=by omega
   rw[this]at a1
   exact a1
  ·rw[e,num1]
   have:(2*((l.toNat / 2:Nat):Int)+1)=l:=by omega
   rw[this]at a2
   exact a2
 ·split
  ·rename_i h1 h2
   have:=input_tel hc hR (i:=(l-2*c.actuators).toNat) (by omega)
   rw[show 2*c.actuators+((l-2*c.actuators).toNat:Int)=l by omega]at this
   exact this
  ·rename_i h1 h2
   have e:((l-firstC c).toNat:Int)=l-firstC c:=by omega
   have e2:firstC c+((l-firstC c).toNat:Int)=l:=by omega
   split
   ·rename_i h3
    have:=memory_tel hc hR (i:=(l-firstC c).toNat) (by omega) (by rw[e];exact h3)
    rw[e2]at this
    exact this
   ·split
    ·rename_i h3
     have:=timer_tel hc hR (i:=(l-firstC c).toNat) (by omega) (by rw[e];exact h3)
     rw[e2]at this
     exact this
    ·rename_i h3 h4
     refine hg (by omega) ?_
     have hi:(l-firstC c).toNat<c.signals.length:=by omega
     have hx:=List.getElem?_eq_getElem hi
     obtain⟨k1,_⟩:=(inC_of hc).sig _ _ hx
     have hkx:kindAt c (l-firstC c)=(c.signals[(l-firstC c).toNat]).kind:=by unfold kindAt;rw[hx];rfl
     rw[hkx]at h3 h4 ⊢
     omega
theorem on_arg {c:Control}(hc:checkC c=0) {s:State}(hR:rightC c s=0):∀p∈(wholeM c).parts,∀y,p.arg=some y->onM c (gatesP c s) p=evalE y (valuesOf (gatesP c s)):=fun p hp y hy=>by
 have hg:=whole_gear hc p hp
 have hgr:=gates_right hR
 unfold onM
 rw[hy]
 simp only
 cases hg<;>simp only at hy<;>first | (cases hy;done) | skip
 rename_i i n z hi hk
 cases hy
 unfold evalP
 rw[if_neg (by simp[hgr]),if_neg (by simp[hk])]
theorem gates_tel {c:Control}(hc:checkC c=0) {s:State}(hR:rightC c s=0):∀n,n<=c.signals.length->∀j,j<n->kindAt c j=0->TelW c s ((getG ((List.range n).foldl (gateM c) (machineM c)).gates (firstC c+j)).getD noPin) (valL c s (firstC c+j))
 | 0,_,j,hj,_=>absurd hj (Nat.not_lt_zero _)
 | n+1,hn,j,hj,hkj=>by
  have ih:=gates_tel hc hR n (by omega)
  have hx:=List.getElem?_eq_getElem (show n<c.signals.length by omega)
  generalize c.signals[n]=x at hx
  have hkx:kindAt c n=x.kind:=by unfold kindAt;rw[Int.toNat_natCast,hx];rfl
  have hf:=fine_of hc
  have hact:=hf.act
  have hcn:countC c=2*c.actuators+c.inputs.length+c.signals.length:=rfl
  have hfc:firstC c=2*c.actuators+c.inputs.length:=rfl
  obtain⟨_,hsh,_⟩:=right_zero hR
  rw[List.range_succ,List.foldl_append]
  simp only[List.foldl_cons,List.foldl_nil]
  by_cases hk:kindAt c n=0
  ·obtain⟨hW,hnd⟩:=gate_in hc (by omega) hk hx
   have hon:=on_arg hc hR
   have hck:=hf.on hx
   have hvk:=vars_check hck.1
   have hlt:=late_not hf hx (by rw[<- hkx];exact hk)
   have hgg:=gates_gate hf hsh hx (by rw[<- hkx];exact hk)
   generalize (List.range n).foldl (gateM c) (machineM c)=m at *
   have ht:=expr_tel (n:=countC c) hon (portM c m.gates) n x.on m.number (right_of_check hck.1).1 (fun v hv=>by
    refine port_tel hc hR (hvk v hv) fun h1 h2=>?_
    have hj2:=(hlt v hv).resolve_right (by simpa using h2)
    have:=ih (v-firstC c).toNat (by omega) (by rw[show (((v-firstC c).toNat:Nat):Int)=v-firstC c by omega];exact h2)
    rw[show firstC c+(((v-firstC c).toNat:Nat):Int)=v by omega]at this
    exact this) hW hnd
   unfold gateM
   rw[if_pos hk,hx]
   simp only[Option.map_some,Option.getD_some,Mk.sig,Mk.expr,Mk.app]
   by_cases e:j=n
   ·subst e
    rw[get_put_eq]
    simp only[Option.getD_some]
    have hv:valL c s (firstC c+j)=evalE x.on (valuesOf (gatesP c s)):=by
     have hl:=preV_length hsh
     show (preV s++(gatesP c s).values).getD _ _=_
     rw[List.getD_eq_getElem?_getD,List.getElem?_append_right (by omega),show (firstC c+(j:Int)).toNat-(preV s).length=j by omega,hgg]
     rfl
    rw[hv]
    exact ht
   ·rw[get_put_ne _ (by omega)]
    exact ih j (by omega) hkj
  ·unfold gateM
   rw[if_neg hk]
   simp only[Mk.sig]
   have:j≠n:=fun e=>by rw[e]at hkj;exact hk hkj
   exact ih j (by omega) hkj
theorem lines_tel {c:Control}(hc:checkC c=0) {s:State}(hR:rightC c s=0) {l:Int}(hl:0<=l∧l<countC c):TelW c s (portM c (wholeM c).gates l) (valL c s l):=by
 have hfc:firstC c=2*c.actuators+c.inputs.length:=rfl
 have hcn:countC c=2*c.actuators+c.inputs.length+c.signals.length:=rfl
 have e1:∀n m,((List.range n).foldl (sigM c) m).gates=m.gates:=fun n=>by
  induction n with
  | zero=>exact fun m=>rfl
  | succ n ih=>
   intro m
   rw[List.range_succ,List.foldl_append]
   simp only[List.foldl_cons,List.foldl_nil]
   rw[<- ih m]
   generalize (List.range n).foldl (sigM c) m=m'
   unfold sigM
   cases c.signals[n]? with
   | none=>rfl
   | some x=>
    dsimp only
    split
    ·rfl
    ·split<;>rfl
 have e2:∀n m,((List.range n).foldl (pilM c) m).gates=m.gates:=fun n=>by
  induction n with
  | zero=>exact fun m=>rfl
  | succ n ih=>
   intro m
   rw[List.range_succ,List.foldl_append]
   simp only[List.foldl_cons,List.foldl_nil]
   rw[<- ih m]
   rfl
 have hg:(wholeM c).gates=((List.range c.signals.length).foldl (gateM c) (machineM c)).gates:=by
  unfold wholeM
  rw[e2,e1]
 rw[hg]
 refine port_tel hc hR hl fun h1 h2=>?_
 have:=gates_tel hc hR c.signals.length (Nat.le_refl _) (l-firstC c).toNat (by omega) (by rw[show (((l-firstC c).toNat:Nat):Int)=l-firstC c by omega];exact h2)
 rw[show firstC c+(((l-firstC c).toNat:Nat):Int)=l by omega]at this
 exact this
structure Prt where
 kind:Int
 name:List UInt8
 delay:Int
 deriving DecidableEq
abbrev PortZ:=Int×List UInt8
abbrev PipeZ:=PortZ×PortZ
structure Cir where
 parts:List Prt
 pipes:List PipeZ
abbrev encPa (p:Prt):List L:=[.int .i64 p.kind,.str p.name,.int .i64 p.delay]
abbrev encPo (p:PortZ):List L:=[.int .i64 p.1,.str p.2]
abbrev encPi (p:PipeZ):List L:=[.int .i64 p.1.1,.str p.1.2,.int .i64 p.2.1,.str p.2.2]
abbrev encCi (c:Cir):List L:=[.sl (c.parts.map encPa),.sl (c.pipes.map encPi)]
abbrev aCi (c:Cir):A:=.record (encCi c)
def firstE (f:Nat->Int):Nat->Int
 | 0=>0
 | n+1=>if firstE f n≠0 then firstE f n else f n
theorem firstE_step {f:Nat->Int}{i:Nat}(h:firstE f i=0):firstE f (i+1)=f i:=by simp[firstE,h]
theorem firstE_stop {f:Nat->Int}{i:Nat}(h:firstE f i≠0):∀n,i<=n->firstE f n=firstE f i
 | 0,hn=>by rw[show i=0 by omega]
 | n+1,hn=>by
  by_cases e:i=n+1
  ·rw[e]
  ·have:=firstE_stop h n (by omega)
   simp[firstE,this,h]
theorem firstE_hit {f:Nat->Int}{i n:Nat}(h:firstE f i=0) (hi:i<n) (hf:f i≠0):firstE f n=f i:=by
 have h1:=firstE_step h
 rw[firstE_stop (i:=i+1) (by rw[h1];exact hf) n (by omega),h1]
theorem firstE_zero {f:Nat->Int}:∀n,firstE f n=0->∀i,i<n->f i=0
 | 0,_,i,hi=>by omega
 | n+1,h,i,hi=>by
  simp only[firstE]at h
  by_cases h0:firstE f n=0
  ·rw[if_neg (by simp[h0])]at h
   by_cases e:i=n
   ·rw[e];exact h
   ·exact firstE_zero n h0 i (by omega)
  ·rw[if_pos h0]at h
   exact absurd h h0
theorem firstE_all {f:Nat->Int}:∀n,(∀i,i<n->f i=0)->firstE f n=0
 | 0,_=>rfl
 | n+1,h=>by simp[firstE,firstE_all n (fun i hi=>h i (by omega)),h n (by omega)]
def letC (n:Nat):Bool:=decide (97<=n∧n<=122)||decide (65<=n∧n<=90)
def digQ (n:Nat):Bool:=decide (48<=n∧n<=57)
def innC (n:Nat):Bool:=letC n||digQ n||decide (n=95)
def wordE (s:List UInt8):Int:=
 if (s.head?.any fun b=>letC b.toNat)=false then 3
 else if (s.all fun b=>innC b.toNat)=false then 3
 else if 24<s.length then 17 else 0
def partE (p:Prt):Int:=
 if ¬(0<=p.kind∧p.kind<14) then 1
 else if wordE p.name≠0 then wordE p.name
 else if (p.kind=12∧(p.delay<1∨1000000<p.delay))∨(p.kind≠12∧p.delay≠0) then 2 else 0
def stepE (ps:List Prt) (i:Nat):Int:=match ps[i]? with
 | none=>0
 | some p=>if partE p≠0 then partE p else match i with
  | 0=>0
  | j+1=>match ps[j]? with
   | some q=>if ltB q.name p.name=true then 0 else 9
   | none=>0
def findN (ps:List Prt) (t:List UInt8):Option Nat:=ps.findIdx? fun p=>p.name==t
def ownN (ps:List Prt) (t:List UInt8):Bool:=(t.getLast? == some 48||t.getLast? == some 49)&&match findN ps t.dropLast with
 | some j=>(ps[j]?).any fun q=>q.kind==1
 | none=>false
def limE (ps:List Prt) (i:Nat):Int:=match ps[i]? with
 | some p=>if p.kind=6∧ownN ps p.name=false then 6 else 0
 | none=>0
def rolesK:Nat->List (List (List UInt8))
 | 0=>[[],[[49]],[],[],[]]
 | 1=>[[],[],[],[],[[50],[52]]]
 | 2=>[[[49]],[[50],[52]],[[51],[53]],[[49,50],[49,52]],[]]
 | 3=>[[[49]],[[50],[52]],[[51],[53]],[[49,52]],[]]
 | 4=>[[[49]],[[50]],[[51]],[[49,50]],[]]
 | 5=>[[[49]],[[50]],[[51]],[[49,48]],[]]
 | 6=>[[[49]],[[50]],[[51]],[],[]]
 | 7=>[[[49]],[[50]],[[51]],[],[]]
 | 8=>[[[49],[49,49]],[[50]],[],[],[]]
 | 9=>[[[49],[49,49]],[[50]],[],[],[]]
 | 10=>[[[49]],[[50]],[[51]],[],[]]
 | 11=>[[[49]],[[50]],[],[],[]]
 | 12=>[[[49]],[[50]],[[51]],[[49,50]],[]]
 | 13=>[[[49]],[[50]],[[51]],[[49,50]],[]]
 | _=>[]
def hasK (k:Nat) (t:List UInt8):Bool:=(rolesK k).any fun l=>l.any (t==·)
def hasPort (ps:List Prt) (q:PortZ):Bool:=(ps[q.1.toNat]?).any fun p=>hasK p.kind.toNat q.2
def inPort (ps:List Prt) (q:PortZ):Bool:=decide (0<=q.1∧q.1<ps.length)
def beforeZ:PortZ->PortZ->Bool:=lexB (fun a b=>decide (a<b)) ltB
def earlierZ:PipeZ->PipeZ->Bool:=lexB beforeZ beforeZ
theorem int_tot:TotB fun a b:Int=>decide (a<b):=⟨fun a=>by simp,fun a b c h1 h2=>by simp at *;omega,fun a b h1 h2=>by simp at *;omega⟩
theorem beforeZ_tot:TotB beforeZ:=lexB_tot int_tot ltB_tot
def pipeE (c:Cir) (i:Nat):Int:=match c.pipes[i]? with
 | none=>0
 | some x=>if inPort c.parts x.1=false∨inPort c.parts x.2=false then 2
  else if hasPort c.parts x.1=false∨hasPort c.parts x.2=false then 6
  else if beforeZ x.1 x.2=false then 9
  else match i with
   | 0=>0
   | j+1=>match c.pipes[j]? with
    | some y=>if earlierZ y x=true then 0 else 9
    | none=>0
def cirE (c:Cir):Int:=
 if 64<c.parts.length then 5
 else if firstE (stepE c.parts) c.parts.length≠0 then firstE (stepE c.parts) c.parts.length
 else if firstE (limE c.parts) c.parts.length≠0 then firstE (limE c.parts) c.parts.length
 else if 256<c.pipes.length then 5
 else firstE (pipeE c) c.pipes.length
structure CirR (c:Cir):Prop where
 few:c.parts.length<=64
 part:∀p∈c.parts,partE p=0
 asc:∀i p q,c.parts[i]?=some p->c.parts[i+1]?=some q->ltB p.name q.name=true
 own:∀p∈c.parts,p.kind=6->ownN c.parts p.name=true
 many:c.pipes.length<=256
 inp:∀x∈c.pipes,inPort c.parts x.1=true∧inPort c.parts x.2=true
 has:∀x∈c.pipes,hasPort c.parts x.1=true∧hasPort c.parts x.2=true
 dir:∀x∈c.pipes,beforeZ x.1 x.2=true
theorem cirR_of {c:Cir}(h:cirE c=0):CirR c:=by
 unfold cirE at h
 by_cases h1:64<c.parts.length
 ·rw[if_pos h1]at h;simp at h
 rw[if_neg h1]at h
 by_cases h2':¬firstE (stepE c.parts) c.parts.length=0
 ·rw[if_pos h2']at h;exact absurd h h2'
 have h2:=Classical.not_not.1 h2'
 rw[if_neg (by simp[h2])]at h
 by_cases h3':¬firstE (limE c.parts) c.parts.length=0
 ·rw[if_pos h3']at h;exact absurd h h3'
 have h3:=Classical.not_not.1 h3'
 rw[if_neg (by simp[h3])]at h
 by_cases h4:256<c.pipes.length
 ·rw[if_pos h4]at h;simp at h
 rw[if_neg h4]at h
 have k2:=firstE_zero _ h2
 have k3:=firstE_zero _ h3
 have k5:=firstE_zero _ h
 have hpart:∀p∈c.parts,partE p=0:=by
  intro p hp
  obtain⟨i,hi,e⟩:=List.getElem_of_mem hp
  have:=k2 i hi
  unfold stepE at this
  rw[List.getElem?_eq_getElem hi,e]at this
  simp only at this
  by_cases e0:partE p=0
  ·exact e0
  ·rw[if_pos e0]at this;exact absurd this e0
 have hpipe:∀x∈c.pipes,(inPort c.parts x.1=true∧inPort c.parts x.2=true)∧(hasPort c.parts x.1=true∧hasPort c.parts x.2=true)∧beforeZ x.1 x.2=true:=by
  intro x hx
  obtain⟨i,hi,e⟩:=List.getElem_of_mem hx
  have:=k5 i hi
  unfold pipeE at this
  rw[List.getElem?_eq_getElem hi,e]at this
  simp only at this
  by_cases e1:inPort c.parts x.1=false∨inPort c.parts x.2=false
  ·rw[if_pos e1]at this;simp at this
  rw[if_neg e1]at this
  by_cases e2:hasPort c.parts x.1=false∨hasPort c.parts x.2=false
  ·rw[if_pos e2]at this;simp at this
  rw[if_neg e2]at this
  by_cases e3:beforeZ x.1 x.2=false
  ·rw[if_pos e3]at this;simp at this
  simp only[not_or,Bool.not_eq_false]at e1 e2 e3
  exact⟨e1,e2,e3⟩
 refine⟨by omega,hpart,fun i p q hp hq=>?_,fun p hp h6=>?_,by omega,fun x hx=>(hpipe x hx).1,fun x hx=>(hpipe x hx).2.1,fun x hx=>(hpipe x hx).2.2⟩
 ·have hi:=(List.getElem?_eq_some_iff.1 hq).1
  have:=k2 (i+1) hi
  unfold stepE at this
  rw[hq]at this
  simp only at this
  rw[if_neg (by simp[hpart q (List.mem_of_getElem? hq)]),hp]at this
  simp only at this
  by_cases e:ltB p.name q.name=true
  ·exact e
  ·rw[if_neg e]at this;simp at this
 ·obtain⟨i,hi,e⟩:=List.getElem_of_mem hp
  have:=k3 i hi
  unfold limE at this
  rw[List.getElem?_eq_getElem hi,e]at this
  simp only at this
  by_cases e0:ownN c.parts p.name=true
  ·exact e0
  ·rw[if_pos ⟨h6,by simpa using e0⟩]at this;simp at this
def loP (a b:PortZ):PortZ:=if beforeZ b a=true then b else a
def hiP (a b:PortZ):PortZ:=if beforeZ b a=true then a else b
def mergeF (f:PortZ->PortZ) (x:PipeZ) (p:PortZ):PortZ:=if f p=hiP (f x.1) (f x.2) then loP (f x.1) (f x.2) else f p
def rootF (xs:List PipeZ):PortZ->PortZ:=xs.foldl mergeF id
theorem rootF_snoc (xs:List PipeZ) (x:PipeZ):rootF (xs++[x])=mergeF (rootF xs) x:=by simp[rootF,List.foldl_append]
theorem rootF_take {xs:List PipeZ}{i:Nat}{x:PipeZ}(h:xs[i]?=some x):rootF (xs.take (i+1))=mergeF (rootF (xs.take i)) x:=by
 rw[List.take_add_one,h]
 exact rootF_snoc _ _
theorem hiP_or (a b:PortZ):(hiP a b=a∧loP a b=b)∨(hiP a b=b∧loP a b=a):=by
 unfold hiP loP
 by_cases h:beforeZ b a=true<;>simp[h]
theorem leZ_trans {a b c:PortZ}(h1:beforeZ b a=false) (h2:beforeZ c b=false):beforeZ c a=false:=by
 cases h3:beforeZ c a with
 | false=>rfl
 | true=>
  cases h4:beforeZ a b with
  | true=>rw[beforeZ_tot.trans _ _ _ h3 h4]at h2;cases h2
  | false=>rw[beforeZ_tot.tot _ _ h4 h1]at h3;rw[h3]at h2;cases h2
theorem loP_le (a b:PortZ):beforeZ (hiP a b) (loP a b)=false:=by
 unfold hiP loP
 cases h:beforeZ b a with
 | true=>simp[beforeZ_tot.asymm h]
 | false=>simp[h]
theorem loP_ne {a b:PortZ}(h:a≠b):beforeZ (loP a b) (hiP a b)=true:=by
 unfold hiP loP
 cases h2:beforeZ b a with
 | true=>simp[h2]
 | false=>
  cases h3:beforeZ a b with
  | true=>simp[h3]
  | false=>exact absurd (beforeZ_tot.tot _ _ h3 h2) h
structure RootP (xs:List PipeZ) (f:PortZ->PortZ):Prop where
 le:∀p,beforeZ p (f p)=false
 idem:∀p,f (f p)=f p
 pipe:∀x∈xs,f x.1=f x.2
 closed:∀C:PortZ->Prop,(∀x∈xs,C x.1↔C x.2)->∀p,C p↔C (f p)
theorem merge_root {xs:List PipeZ}{f:PortZ->PortZ}(h:RootP xs f) (x:PipeZ):RootP (xs++[x]) (mergeF f x):=by
 have hl:=loP_le (f x.1) (f x.2)
 have ho:=hiP_or (f x.1) (f x.2)
 have hlo:f (loP (f x.1) (f x.2))=loP (f x.1) (f x.2):=by
  rcases ho with⟨_,e⟩|⟨_,e⟩<;>rw[e,h.idem]
 refine⟨fun p=>?_,fun p=>?_,fun y hy=>?_,fun C hC p=>?_⟩
 ·unfold mergeF
  split
  ·rename_i e
   have:=h.le p
   rw[e]at this
   exact leZ_trans hl this
  ·exact h.le p
 ·unfold mergeF
  by_cases e:f p=hiP (f x.1) (f x.2)
  ·rw[if_pos e,hlo]
   split<;>rfl
  ·rw[if_neg e,h.idem,if_neg e]
 ·rcases List.mem_append.1 hy with hy | hy
  ·unfold mergeF
   rw[h.pipe y hy]
  ·simp only[List.mem_singleton]at hy
   subst hy
   unfold mergeF
   rcases ho with⟨e1,e2⟩|⟨e1,e2⟩
   ·rw[e1,e2,if_pos rfl]
    split
    ·rfl
    ·rfl
   ·rw[e1,e2,if_pos (rfl:f y.2=f y.2)]
    split
    ·rfl
    ·rfl
 ·have h1:=h.closed C (fun y hy=>hC y (by simp[hy]))
  have hx:=hC x (by simp)
  unfold mergeF
  by_cases e:f p=hiP (f x.1) (f x.2)
  ·rw[if_pos e,h1 p,e]
   rcases ho with⟨e1,e2⟩|⟨e1,e2⟩
   ·rw[e1,e2,<- h1,<- h1,hx]
   ·rw[e1,e2,<- h1,<- h1,hx]
  ·rw[if_neg e]
   exact h1 p
theorem rootF_ok (xs:List PipeZ):RootP xs (rootF xs):=by
 have:∀n,RootP (xs.take n) (rootF (xs.take n)):=by
  intro n
  induction n with
  | zero=>exact⟨fun p=>beforeZ_tot.irr p,fun p=>rfl,by simp,fun C _ p=>Iff.rfl⟩
  | succ n ih=>
   cases h:xs[n]? with
   | none=>
    rw[List.take_add_one,h]
    simpa using ih
   | some x=>
    rw[rootF_take h,List.take_add_one,h]
    exact merge_root ih x
 have h:=this xs.length
 rwa [List.take_length]at h
def portsK:Nat->List (List UInt8)
 | 0=>[[49]]
 | 1=>[[50],[52]]
 | 2=>[[49],[49,50],[49,52],[50],[51],[52],[53]]
 | 3=>[[49],[49,52],[50],[51],[52],[53]]
 | 4=>[[49],[49,50],[50],[51]]
 | 5=>[[49],[49,48],[50],[51]]
 | 6=>[[49],[50],[51]]
 | 7=>[[49],[50],[51]]
 | 8=>[[49],[49,49],[50]]
 | 9=>[[49],[49,49],[50]]
 | 10=>[[49],[50],[51]]
 | 11=>[[49],[50]]
 | 12=>[[49],[49,50],[50],[51]]
 | 13=>[[49],[49,50],[50],[51]]
 | _=>[]
theorem k_cases {Q:Nat->Prop}(h:Q 0∧Q 1∧Q 2∧Q 3∧Q 4∧Q 5∧Q 6∧Q 7∧Q 8∧Q 9∧Q 10∧Q 11∧Q 12∧Q 13):∀k,k<14->Q k:=by
 obtain⟨h0,h1,h2,h3,h4,h5,h6,h7,h8,h9,h10,h11,h12,h13⟩:=h
 intro k hk
 have:k=0∨k=1∨k=2∨k=3∨k=4∨k=5∨k=6∨k=7∨k=8∨k=9∨k=10∨k=11∨k=12∨k=13:=by omega
 rcases this with rfl | rfl | rfl | rfl | rfl | rfl | rfl | rfl | rfl | rfl | rfl | rfl | rfl | rfl<;>assumption
theorem portsK_sorted (k:Nat):(portsK k).Pairwise fun a b=>ltB a b=true:=by
 by_cases hk:k<14
 ·revert k
  refine k_cases ⟨?_,?_,?_,?_,?_,?_,?_,?_,?_,?_,?_,?_,?_,?_⟩<;>decide
 ·unfold portsK
  split<;>first | omega | simp
theorem portsK_len (k:Nat):(portsK k).length<=7:=by
 unfold portsK
 split<;>simp
theorem portsK_short (k:Nat):∀t∈portsK k,t.length<=2:=by
 by_cases hk:k<14
 ·revert k
  refine k_cases ⟨?_,?_,?_,?_,?_,?_,?_,?_,?_,?_,?_,?_,?_,?_⟩<;>decide
 ·unfold portsK
  split<;>first | omega | simp
theorem hasK_mem (k:Nat) (t:List UInt8):hasK k t=true↔t∈portsK k:=by
 by_cases hk:k<14
 ·revert k
  refine k_cases ⟨?_,?_,?_,?_,?_,?_,?_,?_,?_,?_,?_,?_,?_,?_⟩<;>(simp[hasK,rolesK,portsK]<;>grind)
 ·have h1:rolesK k=[]:=by
   unfold rolesK
   split<;>first | omega | rfl
  have h2:portsK k=[]:=by
   unfold portsK
   split<;>first | omega | rfl
  simp[hasK,h1,h2]
def portsOf (ps:List Prt) (i:Nat):List PortZ:=match ps[i]? with
 | some p=>(portsK p.kind.toNat).map fun t=>((i:Int),t)
 | none=>[]
def allN (ps:List Prt) (n:Nat):List PortZ:=(List.range n).flatMap (portsOf ps)
def allP (ps:List Prt):List PortZ:=allN ps ps.length
theorem allN_succ (ps:List Prt) (n:Nat):allN ps (n+1)=allN ps n++portsOf ps n:=by simp[allN,List.range_succ]
theorem portsOf_len (ps:List Prt) (i:Nat):(portsOf ps i).length<=7:=by
 unfold portsOf
 split
 ·rw[List.length_map];exact portsK_len _
 ·simp
theorem allN_len (ps:List Prt):∀n,(allN ps n).length<=7*n
 | 0=>by simp[allN]
 | n+1=>by
  have:=allN_len ps n
  have:=portsOf_len ps n
  rw[allN_succ,List.length_append]
  omega
theorem mem_portsOf {ps:List Prt}{i:Nat}{q:PortZ}:q∈portsOf ps i↔∃p,ps[i]?=some p∧q.1=i∧q.2∈portsK p.kind.toNat:=by
 unfold portsOf
 cases h:ps[i]? with
 | none=>simp
 | some p=>
  simp only[List.mem_map,Option.some.injEq]
  constructor
  ·rintro⟨t,ht,rfl⟩
   exact⟨p,rfl,rfl,ht⟩
  ·rintro⟨_,rfl,h1,h2⟩
   exact⟨q.2,h2,by rw[<- h1]⟩
theorem mem_allN {ps:List Prt}{n:Nat}{q:PortZ}:q∈allN ps n↔∃i p,i<n∧ps[i]?=some p∧q.1=i∧q.2∈portsK p.kind.toNat:=by
 simp only[allN,List.mem_flatMap,List.mem_range,mem_portsOf]
 constructor
 ·rintro⟨i,hi,p,h⟩;exact⟨i,p,hi,h⟩
 ·rintro⟨i,p,hi,h⟩;exact⟨i,hi,p,h⟩
theorem mem_allP {ps:List Prt}{q:PortZ}:q∈allP ps↔inPort ps q=true∧hasPort ps q=true:=by
 unfold allP
 rw[mem_allN]
 unfold inPort hasPort
 constructor
 ·rintro⟨i,p,hi,hp,h1,h2⟩
  refine⟨by simp;omega,?_⟩
  rw[h1,Int.toNat_natCast,hp]
  simpa [hasK_mem]using h2
 ·rintro⟨h1,h2⟩
  simp only[decide_eq_true_eq]at h1
  cases hp:ps[q.1.toNat]? with
  | none=>rw[hp]at h2;simp at h2
  | some p=>
   rw[hp]at h2
   simp only[Option.any_some,hasK_mem]at h2
   exact⟨q.1.toNat,p,by omega,hp,by omega,h2⟩
theorem allN_sorted (ps:List Prt):∀n,(allN ps n).Pairwise fun a b=>beforeZ a b=true
 | 0=>by simp[allN]
 | n+1=>by
  rw[allN_succ,List.pairwise_append]
  refine⟨allN_sorted ps n,?_,fun a ha b hb=>?_⟩
  ·unfold portsOf
   split
   ·rw[List.pairwise_map]
    refine (portsK_sorted _).imp ?_
    intro a b hab
    simp[beforeZ,lexB,hab]
   ·simp
  ·obtain⟨i,p,hi,_,h1,_⟩:=mem_allN.1 ha
   obtain⟨p2,_,h2,_⟩:=mem_portsOf.1 hb
   unfold beforeZ lexB
   rw[if_neg (by omega)]
   simp
   omega
def netsF (f:PortZ->PortZ) (all:List PortZ):List (List PortZ):=(all.filter fun r=>f r==r).map fun r=>all.filter fun q=>f q==r
def netsZ (c:Cir):List (List PortZ):=netsF (rootF c.pipes) (allP c.parts)
theorem root_all {c:Cir}(h:CirR c) {p:PortZ}:p∈allP c.parts↔rootF c.pipes p∈allP c.parts:=by
 refine (rootF_ok c.pipes).closed (fun q=>q∈allP c.parts) (fun x hx=>?_) p
 obtain⟨a1,a2⟩:=h.inp x hx
 obtain⟨b1,b2⟩:=h.has x hx
 exact⟨fun _=>mem_allP.2 ⟨a2,b2⟩,fun _=>mem_allP.2 ⟨a1,b1⟩⟩
structure PassP where
 to:List UInt8
 src:List (List UInt8)
 all:Bool
 deriving DecidableEq
def manyK:Nat->Nat
 | 2=>2 | 3=>2 | 4=>2 | 5=>2 | 6=>2 | 7=>2 | 12=>2 | 13=>2
 | _=>1
def passK (k pos:Nat):List PassP:=
 if k=2∨k=3 then [⟨if pos=1 then [52] else [50],[[49]],false⟩]
 else if k=4∨k=6∨k=7∨k=12∨k=13 then (if pos=1 then [⟨[50],[[49]],false⟩] else [])
 else if k=5 then (if pos=1 then [] else [⟨[50],[[49]],false⟩])
 else if k=8∨k=9 then [⟨[50],[[49],[49,49]],k==9⟩]
 else if k=10∨k=11 then [⟨[50],[[49]],false⟩]
 else []
def roleK (k:Nat) (t:List UInt8):Option Nat:=(rolesK k).findIdx? fun l=>l.any (t==·)
def plusK:Nat->List UInt8
 | 2=>[49,52] | 3=>[49,52] | 4=>[49,50] | 5=>[49,48] | 12=>[49,50] | 13=>[49,50]
 | _=>[]
def minusK:Nat->List UInt8
 | 2=>[49,50]
 | _=>[]
def kindOf (ps:List Prt) (i:Nat):Nat:=match ps[i]? with
 | some p=>p.kind.toNat
 | none=>0
def netW (nets:List (List PortZ)) (p:PortZ):Nat:=nets.findIdx fun l=>l.any (p==·)
def pairZ (nets:List (List PortZ)) (a b:Nat) (t:List UInt8):Bool:=
 decide ((nets.getD (netW nets ((a:Int),t)) []).length=2)&&(nets.getD (netW nets ((a:Int),t)) []).any (((b:Int),t)==·)
def drvB (ps:List Prt) (nets:List (List PortZ)) (i v:Nat):Bool:=(kindOf ps v==2||kindOf ps v==3)&&(pairZ nets i v [50]&&pairZ nets i v [52])
def valveZ (ps:List Prt) (nets:List (List PortZ)) (i:Nat):Option Nat:=(List.range ps.length).findIdx? (drvB ps nets i)
abbrev Drv:=Nat×Nat
def cylsN (ps:List Prt) (n:Nat):List Nat:=(List.range n).filter fun i=>kindOf ps i==1
def drvE (ps:List Prt) (nets:List (List PortZ)):Int:=
 if ((cylsN ps ps.length).any fun i=>(valveZ ps nets i).isNone)=true then 14 else if cylsN ps ps.length=[] then 13 else 0
def drvN (ps:List Prt) (nets:List (List PortZ)) (n:Nat):List Drv:=(cylsN ps n).map fun i=>(i,(valveZ ps nets i).getD 0)
def drivenZ (d:List Drv) (i:Nat):Option Nat:=d.findIdx? fun q=>q.2==i
def countsZ (ps:List Prt) (l:List PortZ):Bool:=decide (1<l.length)||match l with
 | q::_=>roleK (kindOf ps q.1.toNat) q.2==some 3
 | []=>false
structure Gift where
 part:Nat
 pos:Nat
 pass:PassP
 deriving DecidableEq
def givenZ (ps:List Prt) (x:PortZ):List Gift:=(List.range (manyK (kindOf ps x.1.toNat))).flatMap fun pos=>((passK (kindOf ps x.1.toNat) pos).filter fun y=>y.to==x.2).map fun y=>⟨x.1.toNat,pos,y⟩
def giftsZ (ps:List Prt) (d:List Drv) (x:PortZ):List Gift:=if (drivenZ d x.1.toNat).isSome=true then [] else givenZ ps x
def takesZ (ps:List Prt) (nets:List (List PortZ)) (order:List Nat) (g:Gift) (t:List UInt8):Bool:=
 countsZ ps (nets.getD (netW nets ((g.part:Int),t)) []) && !(order.any (netW nets ((g.part:Int),t)==·))
def readyZ (ps:List Prt) (d:List Drv) (nets:List (List PortZ)) (order:List Nat) (net:Nat):Bool:=
 (nets.getD net []).all fun x=>(giftsZ ps d x).all fun g=>g.pass.src.all fun t=>!takesZ ps nets order g t
def countsI (ps:List Prt) (nets:List (List PortZ)) (i:Nat):Bool:=countsZ ps (nets.getD i [])
def restZ (ps:List Prt) (nets:List (List PortZ)) (order:List Nat):List Nat:=(List.range nets.length).filter fun i=>countsI ps nets i && !(order.any (i==·))
def nextZ (ps:List Prt) (d:List Drv) (nets:List (List PortZ)) (order:List Nat):Option Nat:=(restZ ps nets order).find? (readyZ ps d nets order)
def orderN (ps:List Prt) (d:List Drv) (nets:List (List PortZ)):Nat->List Nat
 | 0=>[]
 | n+1=>match nextZ ps d nets (orderN ps d nets n) with
  | some i=>orderN ps d nets n++[i]
  | none=>orderN ps d nets n
def manyC (ps:List Prt) (nets:List (List PortZ)):Nat:=(restZ ps nets []).length
structure Pln where
 ps:List Prt
 nets:List (List PortZ)
 drives:List Drv
 order:List Nat
def planE (c:Cir):Int:=
 if cirE c≠0 then cirE c
 else if drvE c.parts (netsZ c)≠0 then drvE c.parts (netsZ c)
 else if (orderN c.parts (drvN c.parts (netsZ c) c.parts.length) (netsZ c) (manyC c.parts (netsZ c))).length=manyC c.parts (netsZ c) then 0 else 20
def planZ (c:Cir):Pln:=⟨c.parts,netsZ c,drvN c.parts (netsZ c) c.parts.length,orderN c.parts (drvN c.parts (netsZ c) c.parts.length) (netsZ c) (manyC c.parts (netsZ c))⟩
def encUp (us:List (PortZ×PortZ)):List (KeyK×List L):=us.map fun u=>(u.1,encPo u.2)
theorem kget_enc (p:PortZ):∀us:List (PortZ×PortZ),kget (encUp us) p=(kget us p).map encPo
 | []=>rfl
 | u::us=>by
  have ih:=kget_enc p us
  unfold encUp at ih ⊢
  simp only[List.map_cons,kget]
  split
  ·rfl
  ·exact ih
theorem kput_enc (p q:PortZ):∀us:List (PortZ×PortZ),kput (encUp us) p (encPo q)=encUp (kput us p q)
 | []=>rfl
 | u::us=>by
  have ih:=kput_enc p q us
  unfold encUp at ih ⊢
  simp only[List.map_cons,kput]
  split
  ·rfl
  ·simp only[List.map_cons]
   rw[ih]
theorem kget_put {α:Type}(p q:KeyK) (v:α):∀us:List (KeyK×α),kget (kput us p v) q=if p=q then some v else kget us q
 | []=>by simp[kput,kget]
 | u::us=>by
  have ih:=kget_put p q v us
  simp only[kput]
  split
  ·rename_i h
   simp only[kget]
   by_cases e:p=q
   ·rw[if_pos e,if_pos (h.trans e)]
   ·rw[if_neg e,if_neg (fun h2=>e (h▸h2))]
    rw[if_neg (fun h2=>e (h▸h2))]
  ·rename_i h
   simp only[kget]
   by_cases e1:u.1=q
   ·rw[if_pos e1,if_neg (fun h2=>h (e1.trans h2.symm)),if_pos e1]
   ·rw[if_neg e1,if_neg e1]
    exact ih
theorem kget_mem {α:Type}{p:KeyK}{v:α}:∀ {us:List (KeyK×α)},kget us p=some v->(p,v)∈us
 | [],h=>by simp[kget]at h
 | u::us,h=>by
  simp only[kget]at h
  split at h
  ·rename_i e
   simp only[Option.some.injEq]at h
   subst h
   subst e
   simp
  ·exact List.mem_cons_of_mem _ (kget_mem h)
structure UpR (us:List (PortZ×PortZ)) (f:PortZ->PortZ):Prop where
 none:∀p,kget us p=none->f p=p
 some:∀p q,kget us p=some q->f p=f q∧beforeZ q p=true
 root:∀p,kget us (f p)=Option.none
theorem upR_nil:UpR [] id:=⟨fun _ _=>rfl,fun _ _ h=>by simp[kget]at h,fun _=>rfl⟩
theorem upR_same {us:List (PortZ×PortZ)}{f:PortZ->PortZ}(h:UpR us f) {x:PipeZ}(he:f x.1=f x.2):UpR us (mergeF f x):=by
 have:mergeF f x=f:=by
  funext p
  unfold mergeF hiP loP
  rw[he]
  cases beforeZ (f x.2) (f x.2)<;>simp<;>intro h<;>exact h.symm
 rwa [this]
theorem upR_put {us:List (PortZ×PortZ)}{f:PortZ->PortZ}(h:UpR us f) {x:PipeZ}(he:f x.1≠f x.2):UpR (kput us (hiP (f x.1) (f x.2)) (loP (f x.1) (f x.2))) (mergeF f x):=by
 have hlt:=loP_ne he
 have ho:=hiP_or (f x.1) (f x.2)
 have hne:hiP (f x.1) (f x.2)≠loP (f x.1) (f x.2):=fun e=>by rw[e,beforeZ_tot.irr]at hlt;cases hlt
 have hrl:kget us (loP (f x.1) (f x.2))=Option.none:=by
  rcases ho with⟨_,e⟩|⟨_,e⟩<;>rw[e]<;>exact h.root _
 have hrh:kget us (hiP (f x.1) (f x.2))=Option.none:=by
  rcases ho with⟨e,_⟩|⟨e,_⟩<;>rw[e]<;>exact h.root _
 have hm:∀p,mergeF f x p=if f p=hiP (f x.1) (f x.2) then loP (f x.1) (f x.2) else f p:=fun p=>rfl
 have hfl:f (loP (f x.1) (f x.2))=loP (f x.1) (f x.2):=h.none _ hrl
 have hfh:f (hiP (f x.1) (f x.2))=hiP (f x.1) (f x.2):=h.none _ hrh
 generalize hiP (f x.1) (f x.2)=hi at *
 generalize loP (f x.1) (f x.2)=lo at *
 refine⟨fun p hp=>?_,fun p q hp=>?_,fun p=>?_⟩
 ·rw[kget_put]at hp
  split at hp
  ·cases hp
  ·rename_i e
   have:=h.none p hp
   rw[hm,this,if_neg (fun e2=>e e2.symm)]
 ·rw[kget_put]at hp
  split at hp
  ·rename_i e
   simp only[Option.some.injEq]at hp
   subst hp
   subst e
   refine⟨?_,hlt⟩
   rw[hm,hm,hfh,hfl,if_pos rfl,if_neg (fun e=>hne e.symm)]
  ·obtain⟨h1,h2⟩:=h.some p q hp
   exact⟨by rw[hm,hm,h1],h2⟩
 ·rw[hm,kget_put]
  by_cases e:f p=hi
  ·rw[if_pos e,if_neg hne,hrl]
  ·rw[if_neg e,if_neg (fun e2=>e e2.symm)]
   exact h.root p
def mU (us:List (PortZ×PortZ)) (p:PortZ):Nat:=(us.filter fun u=>!beforeZ p u.1).length
theorem filter_le {α:Type}{P Q:α->Bool}(h:∀a,P a=true->Q a=true):∀l:List α,(l.filter P).length<=(l.filter Q).length
 | []=>by simp
 | a::l=>by
  have ih:=filter_le h l
  simp only[List.filter_cons]
  cases hp:P a
  ·cases hq:Q a<;>simp<;>omega
  ·rw[h a hp]
   simp
   omega
theorem filter_lt {α:Type}{P Q:α->Bool}(h:∀a,P a=true->Q a=true):∀ {l:List α}{a:α},a∈l->P a=false->Q a=true->(l.filter P).length<(l.filter Q).length
 | b::l,a,ha,hp,hq=>by
  simp only[List.filter_cons]
  rcases List.mem_cons.1 ha with rfl | ha
  ·have:=filter_le h l
   rw[hp,hq]
   simp
   omega
  ·have ih:=filter_lt h ha hp hq
   cases hpb:P b
   ·cases hqb:Q b<;>simp<;>omega
   ·rw[h b hpb]
    simp
    omega
theorem mU_lt {us:List (PortZ×PortZ)}{p q:PortZ}(h:kget us p=some q) (hb:beforeZ q p=true):mU us q<mU us p:=by
 unfold mU
 refine filter_lt (fun u hu=>?_) (kget_mem h) (by simp[hb]) (by simp[beforeZ_tot.irr])
 simp only[Bool.not_eq_true']at hu ⊢
 exact leZ_trans hu (beforeZ_tot.asymm hb)
theorem allN_nodup (ps:List Prt) (n:Nat):(allN ps n).Nodup:=(allN_sorted ps n).imp fun {a b} h e=>by
 subst e
 have:=beforeZ_tot.irr a
 rw[h]at this
 cases this
def rootsZ (c:Cir):List PortZ:=(allP c.parts).filter fun r=>rootF c.pipes r==r
theorem netsZ_eq (c:Cir):netsZ c=(rootsZ c).map fun r=>(allP c.parts).filter fun q=>rootF c.pipes q==r:=rfl
theorem netsZ_at {c:Cir}{i:Nat}{l:List PortZ}(h:(netsZ c)[i]?=some l):∃r,(rootsZ c)[i]?=some r∧l=(allP c.parts).filter fun q=>rootF c.pipes q==r:=by
 rw[netsZ_eq,List.getElem?_map]at h
 cases hr:(rootsZ c)[i]? with
 | none=>rw[hr]at h;simp at h
 | some r=>
  rw[hr]at h
  simp only[Option.map_some,Option.some.injEq]at h
  exact⟨r,rfl,h.symm⟩
theorem netsZ_few {c:Cir}(h:CirR c):(netsZ c).length<=448:=by
 rw[netsZ_eq,List.length_map]
 have h1:(rootsZ c).length<=(allP c.parts).length:=List.length_filter_le _ _
 have h2:=allN_len c.parts c.parts.length
 have h3:=h.few
 unfold allP at h1
 omega
theorem netsZ_net {c:Cir}(h:CirR c):∀l∈netsZ c,l.length<=448∧l≠[]∧∀p∈l,p∈allP c.parts:=by
 intro l hl
 obtain⟨i,hi,e⟩:=List.getElem_of_mem hl
 obtain⟨r,hr,rfl⟩:=netsZ_at (c:=c) (i:=i) (l:=l) (by rw[List.getElem?_eq_getElem hi,e])
 have hr2:=List.mem_of_getElem? hr
 unfold rootsZ at hr2
 rw[List.mem_filter]at hr2
 refine⟨?_,List.ne_nil_of_mem (a:=r) (List.mem_filter.2 hr2),fun p hp=>(List.mem_filter.1 hp).1⟩
 have h1:((allP c.parts).filter fun q=>rootF c.pipes q==r).length<=(allP c.parts).length:=List.length_filter_le _ _
 have h2:=allN_len c.parts c.parts.length
 have h3:=h.few
 unfold allP at h1 ⊢
 omega
theorem netsZ_same {c:Cir}{i j:Nat}{l m:List PortZ}{p:PortZ}(hi:(netsZ c)[i]?=some l) (hj:(netsZ c)[j]?=some m) (hp:p∈l) (hq:p∈m):i=j:=by
 obtain⟨r,hr,rfl⟩:=netsZ_at hi
 obtain⟨t,ht,rfl⟩:=netsZ_at hj
 have e1:=(List.mem_filter.1 hp).2
 have e2:=(List.mem_filter.1 hq).2
 simp only[beq_iff_eq]at e1 e2
 rw[<- e1,e2]at hr
 have hn:(rootsZ c).Nodup:=List.Nodup.sublist List.filter_sublist (allN_nodup _ _)
 obtain⟨h1,h2⟩:=List.getElem?_eq_some_iff.1 hr
 obtain⟨h3,h4⟩:=List.getElem?_eq_some_iff.1 ht
 exact (List.getElem_inj hn).1 (h2.trans h4.symm)
theorem netW_at {c:Cir}{i:Nat}{l:List PortZ}{p:PortZ}(hi:(netsZ c)[i]?=some l) (hp:p∈l):netW (netsZ c) p=i:=by
 obtain⟨h1,h2⟩:=List.getElem?_eq_some_iff.1 hi
 unfold netW
 rw[List.findIdx_eq h1]
 refine⟨by rw[h2];simpa using hp,fun j hj=>?_⟩
 cases e:((netsZ c)[j]).any (p==·) with
 | false=>rfl
 | true=>
  have hm:p∈(netsZ c)[j]:=by simpa using e
  have:=netsZ_same (c:=c) (i:=j) (j:=i) (l:=(netsZ c)[j]) (m:=l) (List.getElem?_eq_getElem (by omega)) hi hm hp
  omega
theorem netW_some {c:Cir}(h:CirR c) {p:PortZ}(hp:p∈allP c.parts):∃l,(netsZ c)[netW (netsZ c) p]?=some l∧p∈l:=by
 have hr:=(root_all h).1 hp
 have hm:rootF c.pipes p∈rootsZ c:=by
  unfold rootsZ
  rw[List.mem_filter]
  exact⟨hr,by simp[(rootF_ok c.pipes).idem]⟩
 obtain⟨i,hi,e⟩:=List.getElem_of_mem hm
 have h1:(netsZ c)[i]?=some ((allP c.parts).filter fun q=>rootF c.pipes q==rootF c.pipes p):=by
  rw[netsZ_eq,List.getElem?_map,List.getElem?_eq_getElem hi,e]
  rfl
 have h2:p∈(allP c.parts).filter fun q=>rootF c.pipes q==rootF c.pipes p:=List.mem_filter.2 ⟨hp,by simp⟩
 refine⟨_,?_,h2⟩
 rw[netW_at h1 h2]
 exact h1
def OfD (ns:List (List PortZ)) (i j:Nat) (E:List (KeyK×List L)):Prop:=∀(a:Nat) (l:List PortZ) (p:PortZ),ns[a]?=some l->(a<i∧p∈l)∨(a=i∧p∈l.take j)->kget E p=some [.int .i64 (a:Int)]
theorem OfD.zero (ns:List (List PortZ)):OfD ns 0 0 []:=fun a l p _ h=>by
 rcases h with⟨h,_⟩|⟨_,h⟩
 ·omega
 ·simp at h
theorem OfD.next {ns:List (List PortZ)}{i:Nat}{l:List PortZ}{E:List (KeyK×List L)}(h:OfD ns i l.length E) (hl:ns[i]?=some l):OfD ns (i+1) 0 E:=fun a m p hm hp=>by
 rcases hp with⟨h1,h2⟩|⟨_,h2⟩
 ·by_cases e:a=i
  ·subst e
   rw[hl]at hm
   cases hm
   exact h a l p hl (.inr ⟨rfl,by rw[List.take_length];exact h2⟩)
  ·exact h a m p hm (.inl ⟨by omega,h2⟩)
 ·simp at h2
theorem OfD.put {c:Cir}{i j:Nat}{l:List PortZ}{x:PortZ}{E:List (KeyK×List L)}(h:OfD (netsZ c) i j E) (hl:(netsZ c)[i]?=some l) (hx:l[j]?=some x):OfD (netsZ c) i (j+1) (kput E x [.int .i64 (i:Int)]):=fun a m p hm hp=>by
 have hpm:p∈m:=by
  rcases hp with⟨_,h2⟩|⟨_,h2⟩
  ·exact h2
  ·exact List.mem_of_mem_take h2
 rw[kget_put]
 by_cases e:x=p
 ·subst e
  rw[if_pos rfl,netsZ_same hm hl hpm (List.mem_of_getElem? hx)]
 ·rw[if_neg e]
  refine h a m p hm ?_
  rcases hp with h1 | ⟨rfl,h2⟩
  ·exact .inl h1
  ·rw[hl]at hm
   cases hm
   rw[List.take_add_one,hx]at h2
   refine .inr ⟨rfl,?_⟩
   simp only[Option.toList_some,List.mem_append,List.mem_singleton]at h2
   rcases h2 with h2 | h2
   ·exact h2
   ·exact absurd h2.symm e
theorem OfD.all {c:Cir}(hr:CirR c) {E:List (KeyK×List L)}(h:OfD (netsZ c) (netsZ c).length 0 E):∀p∈allP c.parts,kget E p=some [.int .i64 (netW (netsZ c) p:Nat)]∧netW (netsZ c) p<(netsZ c).length:=fun p hp=>by
 obtain⟨l,h1,h2⟩:=netW_some hr hp
 have h3:=(List.getElem?_eq_some_iff.1 h1).1
 exact⟨h _ l p h1 (.inl ⟨h3,h2⟩),h3⟩
theorem part_kind {p:Prt}(h:partE p=0):0<=p.kind∧p.kind<14:=by
 unfold partE at h
 by_cases h1:0<=p.kind∧p.kind<14
 ·exact h1
 ·rw[if_pos h1]at h
  simp at h
theorem gate_fn0 (n:Int):CallFn Tryz.prog 316 [aI n] (.fn 364 [] [.rptr [.int .i64 n]]):=by
 refine callFz_of Tryz.func316 rfl Tryz.ntmps316 (rs:=[.tmp 2]) rfl (by kernel_rfl) (by simp) (by kernel_rfl) ?_
 simp
theorem gateV_fn0 (n:Int):CallFn Tryz.prog 317 [aI n] (.fn 365 [] [.rptr [.int .i64 n]]):=by
 refine callFz_of Tryz.func317 rfl Tryz.ntmps317 (rs:=[.tmp 2]) rfl (by kernel_rfl) (by simp) (by kernel_rfl) ?_
 simp
theorem merge_fn0 (b:Bool):CallFn Tryz.prog 318 [aB b] (.fn 366 [] [.rptr [.bool b]]):=by
 refine callFz_of Tryz.func318 rfl Tryz.ntmps318 (rs:=[.tmp 2]) rfl (by kernel_rfl) (by simp) (by kernel_rfl) ?_
 simp
def catR:List (List A):=[
 [.dat (.str [115,117,112,112,108,121]),.dat (.str [90]),.dat (.sl []),.dat (.sl [[.str [49]]]),.dat (.sl []),.dat (.sl []),.dat (.sl []),.dat (.str []),.dat (.str []),aI 1,.fn 312 [] [],.fn 313 [] []],
 [.dat (.str [99,121,108,105,110,100,101,114]),.dat (.str [65]),.dat (.sl []),.dat (.sl []),.dat (.sl []),.dat (.sl []),.dat (.sl [[.str [50]],[.str [52]]]),.dat (.str []),.dat (.str []),aI 1,.fn 312 [] [],.fn 313 [] []],
 [.dat (.str [118,97,108,118,101,53,50]),.dat (.str [86]),.dat (.sl [[.str [49]]]),.dat (.sl [[.str [50]],[.str [52]]]),.dat (.sl [[.str [51]],[.str [53]]]),.dat (.sl [[.str [49,50]],[.str [49,52]]]),.dat (.sl []),.dat (.str [49,52]),.dat (.str [49,50]),aI 2,.fn 314 [] [],.fn 315 [] []],
 [.dat (.str [118,97,108,118,101,53,50,115]),.dat (.str [86]),.dat (.sl [[.str [49]]]),.dat (.sl [[.str [50]],[.str [52]]]),.dat (.sl [[.str [51]],[.str [53]]]),.dat (.sl [[.str [49,52]]]),.dat (.sl []),.dat (.str [49,52]),.dat (.str []),aI 2,.fn 314 [] [],.fn 315 [] []],
 [.dat (.str [118,97,108,118,101,51,50]),.dat (.str [86]),.dat (.sl [[.str [49]]]),.dat (.sl [[.str [50]]]),.dat (.sl [[.str [51]]]),.dat (.sl [[.str [49,50]]]),.dat (.sl []),.dat (.str [49,50]),.dat (.str []),aI 2,.fn 364 [] [.rptr [.int .i64 1]],.fn 365 [] [.rptr [.int .i64 1]]],
 [.dat (.str [118,97,108,118,101,51,50,111]),.dat (.str [86]),.dat (.sl [[.str [49]]]),.dat (.sl [[.str [50]]]),.dat (.sl [[.str [51]]]),.dat (.sl [[.str [49,48]]]),.dat (.sl []),.dat (.str [49,48]),.dat (.str []),aI 2,.fn 364 [] [.rptr [.int .i64 0]],.fn 365 [] [.rptr [.int .i64 0]]],
 [.dat (.str [108,105,109,105,116]),.dat (.str [83]),.dat (.sl [[.str [49]]]),.dat (.sl [[.str [50]]]),.dat (.sl [[.str [51]]]),.dat (.sl []),.dat (.sl []),.dat (.str []),.dat (.str []),aI 2,.fn 364 [] [.rptr [.int .i64 1]],.fn 365 [] [.rptr [.int .i64 1]]],
 [.dat (.str [98,117,116,116,111,110]),.dat (.str [83]),.dat (.sl [[.str [49]]]),.dat (.sl [[.str [50]]]),.dat (.sl [[.str [51]]]),.dat (.sl []),.dat (.sl []),.dat (.str []),.dat (.str []),aI 2,.fn 364 [] [.rptr [.int .i64 1]],.fn 365 [] [.rptr [.int .i64 1]]],
 [.dat (.str [115,104,117,116,116,108,101]),.dat (.str [86]),.dat (.sl [[.str [49]],[.str [49,49]]]),.dat (.sl [[.str [50]]]),.dat (.sl []),.dat (.sl []),.dat (.sl []),.dat (.str []),.dat (.str []),aI 1,.fn 366 [] [.rptr [.bool false]],.fn 313 [] []],
 [.dat (.str [116,119,105,110]),.dat (.str [86]),.dat (.sl [[.str [49]],[.str [49,49]]]),.dat (.sl [[.str [50]]]),.dat (.sl []),.dat (.sl []),.dat (.sl []),.dat (.str []),.dat (.str []),aI 1,.fn 366 [] [.rptr [.bool true]],.fn 313 [] []],
 [.dat (.str [113,117,105,99,107]),.dat (.str [86]),.dat (.sl [[.str [49]]]),.dat (.sl [[.str [50]]]),.dat (.sl [[.str [51]]]),.dat (.sl []),.dat (.sl []),.dat (.str []),.dat (.str []),aI 1,.fn 319 [] [],.fn 313 [] []],
 [.dat (.str [116,104,114,111,116,116,108,101]),.dat (.str [86]),.dat (.sl [[.str [49]]]),.dat (.sl [[.str [50]]]),.dat (.sl []),.dat (.sl []),.dat (.sl []),.dat (.str []),.dat (.str []),aI 1,.fn 319 [] [],.fn 313 [] []],
 [.dat (.str [100,101,108,97,121]),.dat (.str [86]),.dat (.sl [[.str [49]]]),.dat (.sl [[.str [50]]]),.dat (.sl [[.str [51]]]),.dat (.sl [[.str [49,50]]]),.dat (.sl []),.dat (.str [49,50]),.dat (.str []),aI 2,.fn 364 [] [.rptr [.int .i64 1]],.fn 365 [] [.rptr [.int .i64 1]]],
 [.dat (.str [99,111,117,110,116,101,114]),.dat (.str [86]),.dat (.sl [[.str [49]]]),.dat (.sl [[.str [50]]]),.dat (.sl [[.str [51]]]),.dat (.sl [[.str [49,50]]]),.dat (.sl []),.dat (.str [49,50]),.dat (.str []),aI 2,.fn 364 [] [.rptr [.int .i64 1]],.fn 365 [] [.rptr [.int .i64 1]]]]
theorem catalogue_fn:CallFn Tryz.prog 233 [] (.agg catR.flatten):=by
 have g0:=gate_fn0 0
 have g1:=gate_fn0 1
 have v0:=gateV_fn0 0
 have v1:=gateV_fn0 1
 have m0:=merge_fn0 false
 have m1:=merge_fn0 true
 refine callFz_cut 3 Tryz.func233 rfl Tryz.ntmps233 (rs:=[.cell 0 311]) rfl (by kernel_rfl) (by simp) (by kernel_rfl) ?_
 simp
 intro b
 refine V.cutV [(0,.ptr 0 b 0),(1,.dat (.sl [[.str [49]]])),(2,.dat (.sl [[.str [50]]])),(3,.dat (.sl [[.str [51]]])),(4,.dat (.sl [[.str [49]],[.str [49,49]]]))] (Hs:=[(0,.box b _)]) (by simp) (by simp;rfl) ?_
 refine V.seq (V.regF (fun t=>if t=32∨t=47∨t=54∨t=81∨t=89 then some (.fn (.fn 364 [] [.rptr [.int .i64 1]])) else if t=33∨t=48∨t=55∨t=82∨t=90 then some (.fn (.fn 365 [] [.rptr [.int .i64 1]]))
  else if t=40 then some (.fn (.fn 364 [] [.rptr [.int .i64 0]])) else if t=41 then some (.fn (.fn 365 [] [.rptr [.int .i64 0]])) else if t=60 then some (.fn (.fn 366 [] [.rptr [.bool false]])) else if t=65 then some (.fn (.fn 366 [] [.rptr [.bool true]])) else none) [] ?_)
 dsimp only[List.append,List.toList_toArray]
 simp
 exact⟨g1,v1,g0,v0,g1,v1,g1,v1,m0,m1,g1,v1,g1,v1,rfl⟩
theorem cat_nil:hasNil catR.flatten=false:=rfl
theorem cat_len:catR.flatten.length=168:=rfl
theorem cat_cases {Q:Nat->Prop}(h:Q 0∧Q 1∧Q 2∧Q 3∧Q 4∧Q 5∧Q 6∧Q 7∧Q 8∧Q 9∧Q 10∧Q 11∧Q 12∧Q 13):∀k,k<14->Q k:=by
 obtain⟨h0,h1,h2,h3,h4,h5,h6,h7,h8,h9,h10,h11,h12,h13⟩:=h
 intro k hk
 have:k=0∨k=1∨k=2∨k=3∨k=4∨k=5∨k=6∨k=7∨k=8∨k=9∨k=10∨k=11∨k=12∨k=13:=by omega
 rcases this with rfl | rfl | rfl | rfl | rfl | rfl | rfl | rfl | rfl | rfl | rfl | rfl | rfl | rfl<;>assumption
abbrev rowOf (k:Nat):List A:=catR.getD k []
theorem cat_row:∀k,k<14->List.take 12 (List.drop (k*12) catR.flatten)=rowOf k:=cat_cases ⟨rfl,rfl,rfl,rfl,rfl,rfl,rfl,rfl,rfl,rfl,rfl,rfl,rfl,rfl⟩
def cellB:A->Bool
 | .any=>false
 | .undef=>false
 | .record _=>false
 | .agg _=>false
 | .tuple _=>false
 | .cond _ _=>false
 | .nn _=>false
 | .clip _=>false
 | _=>true
theorem row_len:∀k,k<14->(rowOf k).length=12:=cat_cases ⟨rfl,rfl,rfl,rfl,rfl,rfl,rfl,rfl,rfl,rfl,rfl,rfl,rfl,rfl⟩
theorem row_ls:∀k,k<14->toLs (rowOf k)=none:=cat_cases ⟨rfl,rfl,rfl,rfl,rfl,rfl,rfl,rfl,rfl,rfl,rfl,rfl,rfl,rfl⟩
theorem row_nil:∀k,k<14->hasNil (rowOf k)=false:=cat_cases ⟨rfl,rfl,rfl,rfl,rfl,rfl,rfl,rfl,rfl,rfl,rfl,rfl,rfl,rfl⟩
theorem row_cell:∀k,k<14->(rowOf k).all cellB=true:=cat_cases ⟨rfl,rfl,rfl,rfl,rfl,rfl,rfl,rfl,rfl,rfl,rfl,rfl,rfl,rfl⟩
theorem row_frz:∀k,k<14->∀H,(frz H (.agg (rowOf k))).1∧(frz H (.agg (rowOf k))).2=.agg (rowOf k):=by
 refine cat_cases ⟨?_,?_,?_,?_,?_,?_,?_,?_,?_,?_,?_,?_,?_,?_⟩
 all_goals
  intro H
  exact⟨by simp[rowOf,catR],by simp[rowOf,catR]⟩
theorem cat_sum:(List.map List.length catR).sum=168:=rfl
theorem find_fn (k:Nat) (hk:k<14):CallFn Tryz.prog 163 [aI k] (.tuple [.agg (rowOf k),aI 0]):=by
 have hc:=catalogue_fn
 have h1:=cat_row k hk
 have h2:=row_len k hk
 have h3:=row_ls k hk
 have h4:=row_nil k hk
 refine callFz_of Tryz.func163 rfl Tryz.ntmps163 (rs:=[.cell 2 235,.tmp 3]) rfl (by kernel_rfl) (by simp) (by kernel_rfl) ?_
 simp
 intro b2
 refine⟨by omega,fun h=>?_⟩
 refine hc.s ?_
 have h5:=row_cell k hk
 have h6:=row_frz k hk
 simp only[cat_nil]
 generalize hR:rowOf k=R at *
 simp[cat_nil,cat_len,h1,h2,h3,h4,cat_sum]
 refine⟨⟨by omega,by omega⟩,fun x hx=>?_,?_⟩
 ·have hx2:=List.all_eq_true.1 h5 x hx
  cases x<;>exact hx2
 ·have h7:List.take 12 R=R:=List.take_of_length_le (by omega)
  rw[h7,h3]
  exact h6 _
def cellL:A->L
 | .dat l=>l
 | _=>.int .i64 0
end Go.Proofs.YtafamcbdaeppoaaGreatDoor
