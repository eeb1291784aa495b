/- Texts joined by a program: Ea,Eb,Ec,Ed,Ee,Ef,Cg,Eg. -/
import Derived.Test.YtafamcbdaeppoaaGreatDoorF12
set_option linter.unusedSimpArgs false
set_option linter.unusedVariables false
set_option maxHeartbeats 4000000
set_option maxRecDepth 10000
namespace Go.Proofs.YtafamcbdaeppoaaGreatDoor
theorem refCheckC_fn (x:Expr) (hx:OkE x) (n:Int):CallFn Tryz.prog 189 [aE x,aI n] (aI (checkE x n)):=by
 rw[<- check_same];exact refCheck_fn x hx n
def okW (s:List UInt8) (i:Nat):Prop:=wordS (s.take i)=true∨i=0
theorem okW_step {s:List UInt8}{i:Nat}{b:UInt8}(h:okW s i) (hb:s[i]?=some b):(wordS (s.take (i+1))=true↔(partB b=true∧(i=0->97<=b.toNat∧b.toNat<=122))):=by
 have e:s.take (i+1)=s.take i++[b]:=by rw[List.take_add_one,hb];rfl
 rw[e]
 by_cases h0:i=0
 ·subst h0
  simp[wordS]
  constructor
  ·rintro⟨⟨h1,h2⟩,h3⟩;exact⟨h3,h1,h2⟩
  ·rintro⟨h3,h1,h2⟩;exact⟨⟨h1,h2⟩,h3⟩
 ·rcases h with h | h
  ·cases ht:s.take i with
   | nil=>rw[ht]at h;simp[wordS]at h
   | cons a t=>
    rw[ht]at h
    simp[wordS]at h ⊢
    simp[h,h0]
    intro _ x hx
    exact h.2.2 x hx
  ·exact absurd h h0
theorem wordS_mono {s:List UInt8}{i:Nat}(h:wordS s=true) (hi:0<i):wordS (s.take i)=true:=by
 cases s with
 | nil=>simp[wordS]at h
 | cons a t=>
  obtain⟨j,rfl⟩:∃j,i=j+1:=⟨i-1,by omega⟩
  simp[wordS]at h ⊢
  exact⟨h.1,h.2.1,fun x hx=>h.2.2 x (List.mem_of_mem_take hx)⟩
theorem wordR_fn (s:List UInt8) (hs:Sh s):CallFn Tryz.prog 188 [aT s] (aB (wordS s)):=by
 refine callFz_of Tryz.func188 rfl Tryz.ntmps188 (rs:=[.tmp 2]) rfl (by kernel_rfl) (by simp) (by kernel_rfl) ?_
 simp
 refine V.forI (σ:=Unit) s.length [0] (by simp;exact rfl) (fun i _=>[(3,aI i)]) (fun _ _=>[]) (fun i _=>okW s i) () (.inr rfl) (by simp) ⟨by simp;exact rfl,by simp⟩ ?_ ?_
 ·rintro i-hi hI
  obtain⟨b,hb⟩:∃b,s[i]=b:=⟨_,rfl⟩
  have hbo:s[i]?=some b:=by rw[List.getElem?_eq_getElem hi,hb]
  have hstep:=okW_step hI hbo
  have hlt:=b.toNat_lt
  simp[hi]
  refine V.draw (fun _=>none) (by kernel_rfl) (by kernel_rfl) (by simp) ?_
  simp[hi,hb]
  refine⟨by omega,by omega,by omega,?_⟩
  have hp:partB b=true↔((97<=b.toNat∧b.toNat<=122)∨(65<=b.toNat∧b.toNat<=90)∨(48<=b.toNat∧b.toNat<=57)∨b.toNat=95):=by
   simp[partB]
   omega
  refine⟨by omega,fun hbad=>?_,fun h1 h2=>⟨by omega,.inl (hstep.2 ⟨hp.2 (by omega),fun h=>by have:=h1 h;omega⟩)⟩⟩
  cases hw:wordS s
  ·rfl
  ·obtain⟨h3,h4⟩:=hstep.1 (wordS_mono hw (by omega))
   have h5:=hp.1 h3
   omega
 ·rintro-hI
  have e:(s != [])=wordS s:=by
   rcases hI with h | h
   ·rw[List.take_length]at h
    rw[h]
    cases s<;>simp_all [wordS]
   ·have:s=[]:=List.length_eq_zero_iff.1 h
    subst this
    rfl
  simp
  exact e
theorem nameR_fn (c:Control) (h:Sm c) (hc:OkC c) (ha:0<=c.actuators∧c.actuators<=6) (k:Nat) (h1:(k:Int)<countC c):CallFn Tryz.prog 129 [aC c,aI k] (aI (nameE (namedC c k) (namesB c k))):=by
 have hs:=h
 obtain⟨g1,g2,g3⟩:=h
 have hcn:countC c=2*c.actuators+c.inputs.length+c.signals.length:=rfl
 have hSh:Sh (namedC c k):=by
  unfold namedC
  split
  ·rename_i hk
   have:k<12:=by omega
   rw[lineName_eq k this]
   simp
  ·split
   ·rw[List.getD_eq_getElem?_getD]
    cases hi:c.inputs[((k:Int)-2*c.actuators).toNat]? with
    | none=>simp
    | some y=>exact hc.names y (List.mem_of_getElem? hi)
   ·cases hi:c.signals[((k:Int)-firstC c).toNat]? with
    | none=>simp
    | some y=>exact (hc.sigs y (List.mem_of_getElem? hi)).name
 refine callFz_of Tryz.func129 rfl Tryz.ntmps129 (rs:=[.tmp 4]) rfl (by kernel_rfl) (by simp) (by kernel_rfl) ?_
 simp
 refine (NamedR_fn c hs ha k (by omega) h1).s ?_
 simp
 refine (wordR_fn (namedC c k) hSh).s ?_
 cases hw:wordS (namedC c k)
 ·simp[nameE,hw]
 ·by_cases hl:(namedC c k).length>24
  ·simp[nameE,hw,hl]
   intro h
   omega
  ·have hl':¬ 24<(namedC c k).length:=hl
   have hl2:((namedC c k).length:Int)<=24:=by omega
   simp[hl2,Int.not_lt.2 hl2]
   refine V.forI (σ:=Unit) k [1,2,5] (by simp;exact rfl) (fun i _=>[(6,aI i)]) (fun _ _=>[]) (fun i _=>∀j,j<i->namedC c j≠namedC c k) () (by simp) (by simp) ⟨by simp;exact rfl,by simp⟩ ?_ ?_
   ·rintro i-hi hI
    simp[hi]
    refine (NamedR_fn c hs ha i (by omega) (by omega)).s ?_
    by_cases e:namedC c i=namedC c k
    ·have hm:namedC c k∈namesB c k:=List.mem_map.2 ⟨i,by simpa using hi,e⟩
     simp[nameE,hw,hl',hm,e]
    ·simp[e]
     refine⟨by omega,fun j hj=>?_⟩
     rcases Nat.lt_or_ge j i with h | h
     ·exact hI j h
     ·obtain rfl:j=i:=by omega
      exact e
   ·rintro-hI
    have hm:namedC c k∉namesB c k:=by
     intro hm
     obtain⟨j,hj,e⟩:=List.mem_map.1 hm
     exact hI j (by simpa using hj) e
    simp[nameE,hw,hl',hm]
mutual
def occE:Expr->Int->Bool
 | ⟨op,ix,args⟩,k=>if op=1 then ix==k else occL args k
def occL:List Expr->Int->Bool
 | [],_=>false
 | x::xs,k=>occE x k||occL xs k
end
theorem occE_eq (x:Expr) (k:Int):occE x k=if x.op=1 then x.index==k else occL x.args k:=by cases x;simp[occE]
theorem occurs_fn:∀(N:Nat) (x:Expr),SizeOf.sizeOf x<N->OkE x->∀k:Int,CallFn Tryz.prog 271 [aE x,aI k] (aB (occE x k))
 | 0,_,h,_,_=>absurd h (Nat.not_lt_zero _)
 | N+1,x,hN,hx,k=>by
  refine callFz_of Tryz.func271 rfl Tryz.ntmps271 (rs:=[.tmp 4]) rfl (by kernel_rfl) (by simp) (by kernel_rfl) ?_
  by_cases hop:x.op=1
  ·simp[hop,occE_eq]
  ·have e:occE x k=occL x.args k:=by rw[occE_eq,if_neg hop]
   simp[hop]
   refine V.forI (σ:=Unit) x.args.length [1,2] (by simp;exact rfl) (fun i _=>[(5,aI i)]) (fun _ _=>[]) (fun i _=>occL (x.args.drop i) k=occE x k) () (by simp[e]) (by simp) ⟨by simp;exact rfl,by simp⟩ ?_ ?_
   ·rintro i-hi hI
    obtain⟨y,hy⟩:∃y,x.args[i]=y:=⟨_,rfl⟩
    have hmem:y∈x.args:=hy▸List.getElem_mem hi
    have hlen:=hx.len
    rw[List.drop_eq_getElem_cons hi,hy,occL]at hI
    simp[hi,hy,encE_eq]
    refine (occurs_fn N y (by have:=Expr.lt_of_mem hmem;omega) (hx.args y hmem) k).s ?_
    cases ho:occE y k
    ·rw[ho]at hI
     simp at hI
     simp
     exact⟨by omega,hI⟩
    ·rw[ho]at hI
     simp at hI
     simp[hI]
   ·rintro-hI
    simp[occL]at hI
    simp[<- hI]
theorem foldl_or (f:Int->Bool):∀(l:List Int) (b:Bool),l.foldl (fun b n=>b||f n) b=(b||l.any f)
 | [],b=>by simp
 | n::l,b=>by simp[foldl_or f l,Bool.or_assoc]
theorem lateC_any (c:Control) (i:Int) (x:Expr):lateC c i x=(varsE x).any fun n=>decide (i<=n-firstC c)&&kindAt c (n-firstC c)==0:=by
 unfold lateC
 have:lateStep c i=fun b n=>b||(decide (i<=n-firstC c)&&kindAt c (n-firstC c)==0):=rfl
 rw[this,foldl_or]
 rfl
theorem occ_vars {n:Int}:∀(N:Nat) (x:Expr),SizeOf.sizeOf x<N->RightE n x->∀k,occE x k=(varsE x).any (·==k)
 | 0,_,h,_,_=>absurd h (Nat.not_lt_zero _)
 | N+1,x,hN,hr,k=>by
  have hL:∀l:List Expr,(∀y∈l,y∈x.args)->occL l k=(varsL l).any (·==k):=by
   intro l
   induction l with
   | nil=>intro _;rfl
   | cons y l ih=>
    intro hl
    have hm:=hl y (by simp)
    simp only[occL,varsL,List.any_append]
    rw[ih (fun z hz=>hl z (by simp[hz])),occ_vars N y (by have:=Expr.lt_of_mem hm;omega) (hr.args y hm) k]
  rw[occE_eq,varsE_eq]
  by_cases hop:x.op=1
  ·have hn:=hr.node
   have hargs:x.args=[]:=by
    unfold nodeR at hn
    simp only[hop]at hn
    split at hn<;>try omega
    split at hn<;>try omega
    rename_i h
    simp at h
    exact List.length_eq_zero_iff.1 (by omega)
   simp[hop,hargs,varsL]
  ·simp[hop]
   simpa using hL x.args fun _ h=>h
theorem occ_check {x:Expr}{n:Int}(h:checkE x n=0) (k:Int):occE x k=(varsE x).any (·==k):=occ_vars (SizeOf.sizeOf x+1) x (by omega) (right_of_check h).1 k
theorem late_fn (c:Control) (h:Sm c) (i:Nat) (s:Signal) (hi:c.signals[i]?=some s) (hx:OkS s) (hr:checkE s.on (countC c)=0):CallFn Tryz.prog 191 [aC c,aI i] (aB (lateC c i s.on)):=by
 have hs:=h
 obtain⟨g1,g2,g3⟩:=h
 obtain⟨hlt,hy1⟩:=List.getElem?_eq_some_iff.1 hi
 have hcn:countC c=firstC c+c.signals.length:=rfl
 have hfc:firstC c=2*c.actuators+c.inputs.length:=rfl
 refine callFz_of Tryz.func191 rfl Tryz.ntmps191 (rs:=[.tmp 4]) rfl (by kernel_rfl) (by simp) (by kernel_rfl) ?_
 simp
 refine V.forI (σ:=Unit) (c.signals.length-i) [1,2] (by simp;exact rfl) (fun m _=>[(5,aI (i+m:Nat))]) (fun _ _=>[]) (fun m _=>∀j,i<=j->j<i+m->kindAt c j=0->occE s.on (firstC c+j)=false) () (by intro j h1 h2;omega) (by simp) ⟨by simp;exact rfl,by simp⟩ ?_ ?_
 ·rintro m-hm hI
  have hj:i+m<c.signals.length:=by omega
  have hji:(i:Int)+m<c.signals.length:=by omega
  obtain⟨y,hy⟩:∃y,c.signals[i+m]=y:=⟨_,rfl⟩
  have hyo:c.signals[i+m]?=some y:=by rw[List.getElem?_eq_getElem hj,hy]
  have hka:kindAt c ((i+m:Nat):Int)=y.kind:=by unfold kindAt;rw[Int.toNat_natCast,hyo];rfl
  simp[hji]
  refine V.draw (fun t=>if t=29 then some (.fn (aI (firstC c))) else if t=32 then some (.fn (aB (occE s.on (firstC c+(i+m:Nat))))) else none) (by kernel_rfl) (by kernel_rfl) (by simp) ?_
  have e1:=signals_fn c hs
  have e2:=occurs_fn (SizeOf.sizeOf s.on+1) s.on (by omega) hx.on (firstC c+(i+m:Nat))
  simp at e1 e2
  have hti:((i:Int)+m).toNat=i+m:=by omega
  simp[hji,hti,hyo,hy1,hlt,e1,e2,hj,hy]
  refine⟨by omega,fun h=>⟨h,by omega,by omega⟩,fun hk ho=>?_,fun hno=>⟨by omega,?_,by omega⟩⟩
  ·rw[occ_check hr,List.any_eq_true]at ho
   obtain⟨n,hn,e⟩:=ho
   simp only[beq_iff_eq]at e
   rw[lateC_any,List.any_eq_true]
   refine⟨n,hn,?_⟩
   rw[show n-firstC c=((i+m:Nat):Int) by omega,hka,hk]
   simp
   omega
  ·intro j h1 h2 h3
   rcases Nat.lt_or_ge j (i+m) with h | h
   ·exact hI j h1 h h3
   ·obtain rfl:j=i+m:=by omega
    rw[hka]at h3
    have:=hno h3
    simpa using this
 ·rintro-hI
  have e:i+(c.signals.length-i)=c.signals.length:=by omega
  rw[e]
  have hl:lateC c i s.on=false:=by
   rw[lateC_any,List.any_eq_false]
   intro n hn
   have hv:=vars_check hr n hn
   simp only[Bool.and_eq_true,decide_eq_true_eq,beq_iff_eq,not_and]
   intro h1 h2
   obtain⟨j,hj⟩:∃j:Nat,n-firstC c=j:=⟨(n-firstC c).toNat,by omega⟩
   rw[hj]at h1 h2
   have:=hI j (by omega) (by omega) h2
   rw[occ_check hr,List.any_eq_false]at this
   exact this n hn (by simp;omega)
  simp[hl]
theorem signalR_fn (c:Control) (h:Sm c) (hc:OkC c) (ha:0<=c.actuators∧c.actuators<=6) (i:Nat) (s:Signal) (hi:c.signals[i]?=some s):CallFn Tryz.prog 130 [aC c,aI i] (aI (sigE c i)):=by
 have hs:=h
 obtain⟨g1,g2,g3⟩:=h
 obtain⟨hlt,hy1⟩:=List.getElem?_eq_some_iff.1 hi
 have hcn:countC c=firstC c+c.signals.length:=rfl
 have hfc:firstC c=2*c.actuators+c.inputs.length:=rfl
 have hx:OkS s:=hc.sigs s (List.mem_of_getElem? hi)
 obtain⟨N,hN⟩:∃N:Nat,c.actuators=N:=⟨c.actuators.toNat,by omega⟩
 have hNN:c.actuators.toNat=N:=by omega
 have hk:firstC c+i=((2*N+c.inputs.length+i:Nat):Int):=by omega
 have hn:namedC c (2*N+c.inputs.length+i:Nat)=s.name:=by
  refine named_sig (s:=s) (by omega) (by omega) ?_
  rw[show ((2*N+c.inputs.length+i:Nat)-firstC c:Int).toNat=i by omega]
  exact hi
 have e0:sigE c i=signalE c i s (namesB c (2*N+c.inputs.length+i)):=by simp only[sigE,hi,hNN]
 rw[e0]
 generalize hnm:namesB c (2*N+c.inputs.length+i)=names
 have c1:=nameR_fn c hs hc ha (2*N+c.inputs.length+i) (by omega)
 rw[hn,hnm,<- hk]at c1
 refine callFz_of Tryz.func130 rfl Tryz.ntmps130 (rs:=[.tmp 4]) rfl (by kernel_rfl) (by simp) (by kernel_rfl) ?_
 simp[hy1,hlt]
 intro b5
 refine V.draw (fun t=>if t=18 then some (.fn (aI (firstC c))) else if t=21 then some (.fn (aI (nameE s.name names))) else none) (by kernel_rfl) (by kernel_rfl) (by simp) ?_
 have c2:=signals_fn c hs
 try simp at c1
 try simp at c2
 simp[c1,c2]
 refine⟨by omega,fun h1=>by simp[signalE,h1],fun h1=>⟨fun h2=>?_,fun h2 h3=>?_⟩⟩
 ·simp[signalE,h1]
  omega
 ·refine V.draw (fun t=>if t=36 then some (.fn (aI (countC c))) else if t=37 then some (.fn (aI (checkE s.on (countC c)))) else none) (by kernel_rfl) (by kernel_rfl) (by simp) ?_
  have c3:=lines_fn c hs
  have c4:=refCheckC_fn s.on hx.on (countC c)
  try simp at c3
  try simp at c4
  simp[c3,c4]
  have hk03:¬(s.kind<0∨s.kind>=3):=by omega
  refine⟨fun h4=>by simp[signalE,h1,h4];omega,fun h4=>?_⟩
  have e1:signalE c i s names=if s.kind=0 then gateE c i s else if s.kind=1 then memE c s else timE s:=by
   unfold signalE;rw[if_neg (by simp[h1]),if_neg hk03,if_neg (by simp[h4])]
  rw[e1]
  have c5:=late_fn c hs i s hi hx h4
  have c6:=zeroR_fn s.off
  obtain hk | hk | hk:s.kind=0∨s.kind=1∨s.kind=2:=by omega
  ·simp only[hk,if_true]
   refine V.draw (fun _=>none) (by kernel_rfl) (by kernel_rfl) (by simp) ?_
   simp
   refine GCall.fn (aB (lateC c i s.on)) (fun _=>⟨by first | trivial | assumption,c5⟩) ?_
   cases hl:lateC c i s.on
   ·simp
    refine GCall.fn (aB (zeroE s.off)) (fun _=>⟨by first | trivial | assumption,c6⟩) ?_
    simp
    cases hz:zeroE s.off<;>cases hin:s.init<;>simp[gateE,hl,hz,hin]
   ·simp[gateE,hl]
  ·simp only[hk]
   refine V.draw (fun _=>none) (by kernel_rfl) (by kernel_rfl) (by simp) ?_
   have c7:=refCheckC_fn s.off hx.off (countC c)
   simp
   refine V.draw (fun t=>if t=51 then some (.fn (aI (countC c))) else if t=52 then some (.fn (aI (checkE s.off (countC c)))) else none) (by kernel_rfl) (by kernel_rfl) (by simp) ?_
   simp[c3,c7]
   refine⟨fun h5=>by simp[memE,h5],fun h5=>?_⟩
   refine GCall.fn (aB false) (by simp) ?_
   simp
   refine GCall.fn (aB false) (by simp) ?_
   simp[memE,h5]
  ·simp only[hk]
   refine V.draw (fun _=>none) (by kernel_rfl) (by kernel_rfl) (by simp) ?_
   simp
   refine GCall.fn (aB false) (by simp) ?_
   simp
   refine⟨fun h5=>by simp[timE];omega,fun h5 h6=>?_⟩
   refine GCall.fn (aB (zeroE s.off)) (fun _=>⟨by first | trivial | assumption,c6⟩) ?_
   cases hz:zeroE s.off<;>cases hin:s.init<;>simp[timE,hz,hin]<;>omega
def badP (c:Control) (n:Int):Bool:=decide (n<0)||decide (countC c<=n)
theorem NoF.any {α:Type}{p:α->Bool}{xs:List α}(h:NoF p xs):xs.any p=false:=by
 rw[List.any_eq_false]
 intro x hx
 simp[h x hx]
theorem pilotsR_fn (c:Control) (h:Sm c) (hp:c.plus.length<=1000000) (hm:c.minus.length<=1000000):CallFn Tryz.prog 131 [aC c] (aI (pilotE c)):=by
 refine callFz_of Tryz.func131 rfl Tryz.ntmps131 (rs:=[.tmp 2]) rfl (by kernel_rfl) (by simp) (by kernel_rfl) ?_
 by_cases hpl:(c.plus.length:Int)≠c.actuators∨(c.minus.length:Int)≠c.actuators
 ·simp[pilotE,hpl]
  intro h1 h2
  omega
 ·have h1:(c.plus.length:Int)=c.actuators:=by omega
  have h2:(c.minus.length:Int)=c.actuators:=by omega
  have e':pilotE c=if (c.plus++c.minus).any (badP c) then 6 else 0:=by rw[pilotE,if_neg hpl];rfl
  rw[List.any_append]at e'
  simp[h1,h2]
  refine V.forI (σ:=Unit) 2 [1,24,25] (by simp;exact rfl) (fun i _=>[(26,aI i)]) (fun _ _=>[]) (fun i _=>(1<=i->NoF (badP c) c.plus)∧(2<=i->NoF (badP c) c.minus)) () (by simp) (by simp) ⟨by simp;exact rfl,by simp⟩ ?_ ?_
  ·rintro i-hi hI
   obtain⟨ys,hys,hly,hbad,hgood⟩:∃ys:List Int,([[L.sl (c.plus.map encI)],[L.sl (c.minus.map encI)]]:List (List L))[i]?=some [L.sl (ys.map encI)]∧ys.length<=1000000∧(ys.any (badP c)=true->pilotE c=6) ∧
     (NoF (badP c) ys->(1<=i+1->NoF (badP c) c.plus)∧(2<=i+1->NoF (badP c) c.minus)):=by
    obtain rfl | rfl:i=0∨i=1:=by omega
    ·exact⟨c.plus,rfl,hp,fun h=>by rw[e',h];rfl,fun h=>⟨fun _=>h,fun h=>by omega⟩⟩
    ·exact⟨c.minus,rfl,hm,fun h=>by rw[e',h];simp,fun h=>⟨fun _=>hI.1 (by omega),fun _=>h⟩⟩
   have hi':(i:Int)<2:=by omega
   simp[hi',hys]
   refine V.forI (σ:=Unit) ys.length [1,4,24,25,26,27,28,29] (by simp;exact rfl) (fun j _=>[(5,aI j)]) (fun _ _=>[]) (fun j _=>NoF (badP c) (ys.take j)) () (by simp) (by simp) ⟨by simp;exact rfl,by simp⟩ ?_ ?_
   ·rintro j-hj hJ
    obtain⟨y,hy⟩:∃y,ys[j]=y:=⟨_,rfl⟩
    have hs:=findIdx_step hJ (List.getElem?_eq_getElem hj)
    rw[hy]at hs
    have c3:=lines_fn c h
    simp[hj]
    refine V.draw (fun t=>if t=47 then some (.fn (aI (countC c))) else none) (by kernel_rfl) (by kernel_rfl) (by simp) ?_
    try simp at c3
    simp[hj,hy,c3]
    refine⟨fun hb=>?_,fun hb1 hb2=>⟨by omega,hs.1 (by simp[badP];omega)⟩⟩
    rw[hbad]
    rw[<- List.findIdx?_isSome,hs.2 (by simp[badP];omega)]
    rfl
   ·rintro-hJ
    rw[List.take_length]at hJ
    obtain⟨g1,g2⟩:=hgood hJ
    simp
    refine⟨by omega,g1 (by omega),?_⟩
    intro h
    exact g2 (by omega)
  ·rintro-⟨g1,g2⟩
   rw[e',(g1 (by omega)).any,(g2 (by omega)).any]
   simp
theorem CheckR_fn (c:Control) (hc:OkC c) (hp:c.plus.length<=1000000) (hm:c.minus.length<=1000000):CallFn Tryz.prog 59 [aC c] (aI (checkC c)):=by
 refine callFz_of Tryz.func59 rfl Tryz.ntmps59 (rs:=[.tmp 2]) rfl (by kernel_rfl) (by simp) (by kernel_rfl) ?_
 by_cases ha:c.actuators<1∨c.actuators>6
 ·have e:checkC c=2:=by simp[checkC,ha]
  rw[e]
  simp
  intro h1 h2
  omega
 ·have ha':1<=c.actuators∧c.actuators<=6∧¬c.actuators<1∧¬ 6<c.actuators:=by omega
  by_cases hmx:c.inputs.length>16∨c.signals.length>64
  ·have e:checkC c=5:=by simp only[checkC];rw[if_neg ha,if_pos hmx]
   rw[e]
   simp[ha'.1,ha'.2]
   intro h1 h2
   omega
  ·have hsm:Sm c:=⟨by omega,by omega,by omega⟩
   obtain⟨N,hN⟩:∃N:Nat,c.actuators=N:=⟨c.actuators.toNat,by omega⟩
   have hNN:c.actuators.toNat=N:=by omega
   have hm':(c.inputs.length:Int)<=16∧(c.signals.length:Int)<=64∧¬ 16<(c.inputs.length:Int)∧¬ 64<(c.signals.length:Int):=by omega
   have hcn:countC c=2*c.actuators+c.inputs.length+c.signals.length:=rfl
   have e:checkC c=if firstErr (inpE c) (List.range c.inputs.length)≠0 then firstErr (inpE c) (List.range c.inputs.length)
     else if firstErr (sigE c) (List.range c.signals.length)≠0 then firstErr (sigE c) (List.range c.signals.length) else pilotE c:=by
    simp only[checkC];rw[if_neg ha,if_neg hmx]
   simp[ha'.1,ha'.2,hm'.1,hm'.2]
   refine V.forI (σ:=Unit) c.inputs.length [1] (by simp;exact rfl) (fun i _=>[(3,aI i)]) (fun _ _=>[]) (fun i _=>NoE (inpE c) i) () (NoE.zero _) (by simp) ⟨by simp;exact rfl,by simp⟩ ?_ ?_
   ·rintro i-hi hI
    have c1:=nameR_fn c hsm hc ⟨by omega,by omega⟩ (2*N+i) (by omega)
    have hin:inpE c i=nameE (namedC c (2*N+i:Nat)) (namesB c (2*N+i)):=by rw[inpE,hNN]
    rw[<- hin,show ((2*N+i:Nat):Int)=2*c.actuators+i by omega]at c1
    simp[hi]
    refine⟨by omega,by omega,c1.s ?_⟩
    by_cases hz:inpE c i=0
    ·simp[hz]
     exact⟨by omega,hI.succ hz⟩
    ·have hf:=firstErr_at hI hi hz
     have e':checkC c=inpE c i:=by rw[e,hf,if_pos hz]
     simp[hz,e']
   ·rintro-hI
    have hf:=firstErr_all hI
    rw[hf]at e
    simp at e
    simp
    refine V.forI (σ:=Unit) c.signals.length [1] (by simp;exact rfl) (fun i _=>[(5,aI i)]) (fun _ _=>[]) (fun i _=>NoE (sigE c) i) () (NoE.zero _) (by simp) ⟨by simp;exact rfl,by simp⟩ ?_ ?_
    ·rintro i-hi hI2
     have c1:=signalR_fn c hsm hc ⟨by omega,by omega⟩ i _ (List.getElem?_eq_getElem hi)
     simp[hi]
     refine c1.s ?_
     by_cases hz:sigE c i=0
     ·simp[hz]
      exact⟨by omega,hI2.succ hz⟩
     ·have hf:=firstErr_at hI2 hi hz
      have e':checkC c=sigE c i:=by rw[e,hf,if_neg hz]
      simp[hz,e']
    ·rintro-hI2
     have hf:=firstErr_all hI2
     rw[hf]at e
     simp at e
     rw[e]
     simp
     refine (pilotsR_fn c hsm hp hm).s ?_
     simp
theorem comp_B:((fun x=>List.map A.dat x)∘encB)=rB:=rfl
theorem comp_I:((fun x=>List.map A.dat x)∘encI)=rI:=rfl
attribute [simp] comp_B comp_I
def endsV (l:List Int):List Bool:=l.flatMap fun x=>[x==0,x==2]
def valuesOf (s:State):List Bool:=endsV s.ends++s.inputs++s.values
theorem endsV_take {l:List Int}{i:Nat}{x:Int}(h:l[i]?=some x):endsV (l.take (i+1))=endsV (l.take i)++[x==0,x==2]:=by
 rw[List.take_add_one,h]
 simp[endsV]
theorem endsV_length (l:List Int):(endsV l).length=2*l.length:=by
 induction l with
 | nil=>rfl
 | cons x l ih=>simp only[endsV,List.flatMap_cons,List.length_append]at ih ⊢;rw[ih];simp;omega
structure SmS (s:State):Prop where
 ends:s.ends.length<=1000000
 valves:s.valves.length<=1000000
 inputs:s.inputs.length<=1000000
 values:s.values.length<=1000000
 timers:s.timers.length<=1000000
theorem values_o (s:State) (h:SmS s):CallOwn Tryz.prog 84 [aSt s] 4 1 ((valuesOf s).map rB):=by
 obtain⟨h1,h2,h3,h4,h5⟩:=h
 refine callO_of Tryz.func84 rfl Tryz.ntmps84 (rs:=[.tmp 2]) rfl (by kernel_rfl) (by simp) (by kernel_rfl) ?_
 simp
 refine V.forI (σ:=Value) s.ends.length [1,2,7,8] (by simp;exact rfl) (fun i g=>[(9,aI i),(3,.own 50 g)]) (fun i g=>[(50,.seq g 4 1 ((endsV (s.ends.take i)).map rB))]) (fun _ _=>True) (.slice none 0 0) trivial (by simp) ⟨by simp;exact rfl,by simp[endsV]⟩ ?_ ?_
 ·rintro i g hi -
  obtain⟨x,hx⟩:∃x,s.ends[i]=x:=⟨_,rfl⟩
  have hs:=endsV_take (show s.ends[i]?=some x by rw[List.getElem?_eq_getElem hi,hx])
  have hl:=endsV_length (s.ends.take i)
  rw[List.length_take]at hl
  rw[hs]
  generalize endsV (s.ends.take i)=zs at hl ⊢
  simp[hi,hx]
  omega
 ·rintro g -
  have hl:=endsV_length s.ends
  rw[List.take_length]
  have hv:valuesOf s=endsV s.ends++s.inputs++s.values:=rfl
  rw[hv]
  generalize endsV s.ends=zs at hl ⊢
  simp
  refine V.draw (fun _=>none) (by kernel_rfl) (by kernel_rfl) (by simp) ?_
  simp
  omega
theorem ValuesR_o (c:Control) (s:State) (h:SmS s) (ha:c.actuators=s.ends.length):CallOwn Tryz.prog 16 [aC c,aSt s] 4 1 ((valuesOf s).map rB):=by
 obtain⟨h1,h2,h3,h4,h5⟩:=h
 refine callO_of Tryz.func16 rfl Tryz.ntmps16 (rs:=[.tmp 4]) rfl (by kernel_rfl) (by simp) (by kernel_rfl) ?_
 simp
 refine V.forI (σ:=Value) s.ends.length [2,3,4] (by simp;exact rfl) (fun i g=>[(6,aI i),(5,.own 50 g)]) (fun i g=>[(50,.seq g 4 1 ((endsV (s.ends.take i)).map rB))]) (fun _ _=>True) (.slice none 0 0) trivial (by simp) ⟨by simp;exact rfl,by simp[endsV]⟩ ?_ ?_
 ·rintro i g hi -
  obtain⟨x,hx⟩:∃x,s.ends[i]=x:=⟨_,rfl⟩
  have hs:=endsV_take (show s.ends[i]?=some x by rw[List.getElem?_eq_getElem hi,hx])
  have hl:=endsV_length (s.ends.take i)
  have hia:(i:Int)<c.actuators:=by omega
  rw[List.length_take]at hl
  rw[hs]
  generalize endsV (s.ends.take i)=zs at hl ⊢
  simp[hi,hia]
  refine V.draw (fun _=>none) (by kernel_rfl) (by kernel_rfl) (by simp) ?_
  simp[hi,hx]
  omega
 ·rintro g -
  have hl:=endsV_length s.ends
  rw[List.take_length]
  have hv:valuesOf s=endsV s.ends++s.inputs++s.values:=rfl
  rw[hv]
  generalize endsV s.ends=zs at hl ⊢
  simp[ha]
  omega
def outR (m n:Int):Bool:=decide (n<0)||decide (m<=n)
theorem unknown_fn (m:Int):CallFn Tryz.prog 179 [aI m] (.fn 180 [] [.rptr [.int .i64 m]]):=by
 refine callFz_of Tryz.func179 rfl Tryz.ntmps179 (rs:=[.tmp 2]) rfl (by kernel_rfl) (by simp) (by kernel_rfl) ?_
 simp
theorem unknown1_fn (m n:Int):CallFn Tryz.prog 180 [aI n,.rptr [.int .i64 m]] (aB (outR m n)):=by
 refine callFz_of Tryz.func180 rfl Tryz.ntmps180 (rs:=[.tmp 3]) rfl (by kernel_rfl) (by simp) (by kernel_rfl) ?_
 simp[outR]
def tstE (x:Signal) (v:Bool) (t:Int):Int:=if (x.kind≠2∧t≠0)∨(x.kind=2∧v≠(t==2)) then 14 else 0
def tsE (c:Control) (s:State) (i:Nat):Int:=match c.signals[i]?,s.values[i]?,s.timers[i]? with
 | some x,some v,some t=>tstE x v t
 | _,_,_=>0
def shapeS (c:Control) (s:State):Prop:=(s.ends.length:Int)=c.actuators∧(s.valves.length:Int)=c.actuators∧s.inputs.length=c.inputs.length∧s.values.length=c.signals.length∧s.timers.length=c.signals.length
instance (c:Control) (s:State):Decidable (shapeS c s):=by unfold shapeS;exact inferInstance
def fitsSt (c:Control) (s:State):Int:=
 if ¬shapeS c s then 8
 else if s.ends.any (outR 4)||s.timers.any (outR 3) then 1
 else firstErr (tsE c s) (List.range s.timers.length)
theorem fits_fn (c:Control) (s:State) (hs:SmS s):CallFn Tryz.prog 117 [aC c,aSt s] (aI (fitsSt c s)):=by
 refine callFz_of Tryz.func117 rfl Tryz.ntmps117 (rs:=[.tmp 4]) rfl (by kernel_rfl) (by simp) (by kernel_rfl) ?_
 have hsm:=hs
 obtain⟨g1,g2,g3,g4,g5⟩:=hs
 by_cases hsh:shapeS c s
 ·have e:fitsSt c s=if s.ends.any (outR 4)||s.timers.any (outR 3) then 1 else firstErr (tsE c s) (List.range s.timers.length):=by rw[fitsSt,if_neg (by simpa using hsh)]
  obtain⟨h1,h2,h3,h4,h5⟩:=hsh
  simp[h1,h2,h3,h4,h5]
  have c1:=unknown_fn 4
  have c2:=unknown_fn 3
  have c3:=containsF_fn s.ends (outR 4) 180 [] [.rptr [.int .i64 4]] (by omega) (fun n _=>by simpa using unknown1_fn 4 n)
  have c4:=containsF_fn s.timers (outR 3) 180 [] [.rptr [.int .i64 3]] (by omega) (fun n _=>by simpa using unknown1_fn 3 n)
  obtain⟨be,hbe⟩:∃b,s.ends.any (outR 4)=b:=⟨_,rfl⟩
  obtain⟨bt,hbt⟩:∃b,s.timers.any (outR 3)=b:=⟨_,rfl⟩
  rw[hbe]at c3 e
  rw[hbt]at c4 e
  refine V.draw (fun t=>if t=53 then some (.fn (.fn 180 [] [.rptr [.int .i64 4]])) else if t=54 then some (.fn (aB be)) else if t=59 then some (.fn (.fn 180 [] [.rptr [.int .i64 3]])) else if t=60 then some (.fn (aB bt)) else none) (by kernel_rfl) (by kernel_rfl) (by simp) ?_
  simp[c1,c2,c3,c4]
  refine⟨fun h=>by rcases h with rfl | rfl<;>simp[e],?_⟩
  rintro rfl rfl
  simp at e
  refine V.forI (σ:=Unit) s.timers.length [2,3,63,64] (by simp;exact rfl) (fun i _=>[(65,aI i)]) (fun _ _=>[]) (fun i _=>NoE (tsE c s) i) () (NoE.zero _) (by simp[h5]) ⟨by simp;exact rfl,by simp⟩ ?_ ?_
  ·rintro i-hi hI
   obtain⟨x,hx⟩:∃x,c.signals[i]'(by omega)=x:=⟨_,rfl⟩
   obtain⟨v,hv⟩:∃v,s.values[i]'(by omega)=v:=⟨_,rfl⟩
   obtain⟨t,ht⟩:∃t,s.timers[i]=t:=⟨_,rfl⟩
   have hxo:c.signals[i]?=some x:=by rw[List.getElem?_eq_getElem (by omega),hx]
   have hvo:s.values[i]?=some v:=by rw[List.getElem?_eq_getElem (by omega),hv]
   have hto:s.timers[i]?=some t:=by rw[List.getElem?_eq_getElem (by omega),ht]
   have hE:tsE c s i=tstE x v t:=by simp only[tsE,hxo,hvo,hto]
   have hic:i<c.signals.length:=by omega
   have hiv:i<s.values.length:=by omega
   by_cases hbad:(x.kind≠2∧t≠0)∨(x.kind=2∧v≠(t==2))
   ·have hz:tsE c s i=14:=by rw[hE,tstE,if_pos hbad]
    have hf:=firstErr_at hI hi (by rw[hz];decide)
    have e':fitsSt c s=14:=by rw[e,hf,hz]
    simp[<- h5,hi,hx,hv,ht,hic,hiv,e',h4]
    exact⟨fun h=>⟨h,fun h2=>⟨h,h2⟩⟩,fun a b=>by
     rcases hbad with⟨p,q⟩|⟨p,q⟩
     ·exact absurd (a p) q
     ·exact absurd (b p) q⟩
   ·have hz:tsE c s i=0:=by rw[hE,tstE,if_neg hbad]
    simp[<- h5,hi,hx,hv,ht,hic,hiv,h4]
    have hn:=hI.succ hz
    exact⟨fun h=>⟨h,fun h2=>⟨h,h2⟩⟩,fun hb=>absurd hb hbad,fun _ _=>⟨by omega,hn⟩⟩
  ·rintro-hI
   have hf:=firstErr_all hI
   rw[hf]at e
   simp[e,h5]
 ·have e:fitsSt c s=8:=by rw[fitsSt,if_pos hsh]
  rw[e]
  simp
  unfold shapeS at hsh
  intros
  omega
theorem NoF.snoc' {α:Type}{p:α->Bool}{xs:List α}{i:Nat}{x:α}(h:NoF p (xs.take i)) (hx:xs[i]?=some x) (hp:p x=false):NoF p (xs.take (i+1)):=by
 rw[List.take_add_one,hx]
 intro y hy
 simp only[Option.toList_some,List.mem_append,List.mem_singleton]at hy
 rcases hy with hy | rfl
 ·exact h y hy
 ·exact hp
theorem any_at {α:Type}{p:α->Bool}{xs:List α}{i:Nat}{x:α}(hx:xs[i]?=some x) (hp:p x=true):xs.any p=true:=by
 rw[List.any_eq_true]
 exact⟨x,List.mem_of_getElem? hx,hp⟩
theorem fitsR_fn (c:Control) (s:State) (hs:SmS s):CallFn Tryz.prog 60 [aC c,aSt s] (aI (fitsSt c s)):=by
 refine callFz_of Tryz.func60 rfl Tryz.ntmps60 (rs:=[.tmp 4]) rfl (by kernel_rfl) (by simp) (by kernel_rfl) ?_
 have hsm:=hs
 obtain⟨g1,g2,g3,g4,g5⟩:=hs
 by_cases hsh:shapeS c s
 ·have e:fitsSt c s=if s.ends.any (outR 4)||s.timers.any (outR 3) then 1 else firstErr (tsE c s) (List.range s.timers.length):=by rw[fitsSt,if_neg (by simpa using hsh)]
  obtain⟨h1,h2,h3,h4,h5⟩:=hsh
  simp[h1,h2,h3,h4,h5]
  refine V.forI (σ:=Unit) s.ends.length [2,3] (by simp;exact rfl) (fun i _=>[(5,aI i)]) (fun _ _=>[]) (fun i _=>NoF (outR 4) (s.ends.take i)) () (by simp[NoF]) (by simp) ⟨by simp;exact rfl,by simp⟩ ?_ ?_
  ·rintro i-hi hI
   obtain⟨x,hx⟩:∃x,s.ends[i]=x:=⟨_,rfl⟩
   have hxo:s.ends[i]?=some x:=by rw[List.getElem?_eq_getElem (by omega),hx]
   by_cases hb:outR 4 x=true
   ·have e':fitsSt c s=1:=by rw[e,any_at hxo hb];rfl
    simp[outR]at hb
    simp[hi,hx,e']
    intro a b
    omega
   ·have hn:=hI.snoc' hxo (by simpa using hb)
    simp[outR]at hb
    obtain⟨b1,b2⟩:=hb
    simp[hi,hx,hn,b1,b2,Int.not_lt.2 b1]
    omega
  ·rintro-hI
   rw[List.take_length]at hI
   have ha:=hI.any
   rw[ha]at e
   simp at e
   simp
   refine V.forI (σ:=Unit) s.timers.length [2,3] (by simp;exact rfl) (fun i _=>[(6,aI i)]) (fun _ _=>[]) (fun i _=>NoF (outR 3) (s.timers.take i)) () (by simp[NoF]) (by simp) ⟨by simp;exact rfl,by simp⟩ ?_ ?_
   ·rintro i-hi hI
    obtain⟨x,hx⟩:∃x,s.timers[i]=x:=⟨_,rfl⟩
    have hxo:s.timers[i]?=some x:=by rw[List.getElem?_eq_getElem (by omega),hx]
    by_cases hb:outR 3 x=true
    ·have e':fitsSt c s=1:=by rw[e,if_pos];obtain⟨y,hy,hp⟩:=List.any_eq_true.1 (any_at hxo hb);exact⟨y,hy,hp⟩
     simp[outR]at hb
     simp[hi,hx,e',<- h5]
     intro a b
     omega
    ·have hn:=hI.snoc' hxo (by simpa using hb)
     simp[outR]at hb
     obtain⟨b1,b2⟩:=hb
     simp[hi,hx,hn,b1,b2,Int.not_lt.2 b1,<- h5]
     omega
   ·rintro-hI
    rw[List.take_length]at hI
    have hb:¬ ∃x,x∈s.timers∧outR 3 x=true:=by
     rintro⟨y,hy,hp⟩
     rw[hI y hy]at hp
     cases hp
    rw[if_neg hb]at e
    simp[h5]
    refine V.forI (σ:=Unit) s.timers.length [2,3] (by simp;exact rfl) (fun i _=>[(7,aI i)]) (fun _ _=>[]) (fun i _=>NoE (tsE c s) i) () (NoE.zero _) (by simp) ⟨by simp;exact rfl,by simp⟩ ?_ ?_
    ·rintro i-hi hI
     obtain⟨x,hx⟩:∃x,c.signals[i]'(by omega)=x:=⟨_,rfl⟩
     obtain⟨v,hv⟩:∃v,s.values[i]'(by omega)=v:=⟨_,rfl⟩
     obtain⟨t,ht⟩:∃t,s.timers[i]=t:=⟨_,rfl⟩
     have hxo:c.signals[i]?=some x:=by rw[List.getElem?_eq_getElem (by omega),hx]
     have hvo:s.values[i]?=some v:=by rw[List.getElem?_eq_getElem (by omega),hv]
     have hto:s.timers[i]?=some t:=by rw[List.getElem?_eq_getElem (by omega),ht]
     have hE:tsE c s i=tstE x v t:=by simp only[tsE,hxo,hvo,hto]
     have hic:i<c.signals.length:=by omega
     have hiv:i<s.values.length:=by omega
     by_cases hbad:(x.kind≠2∧t≠0)∨(x.kind=2∧v≠(t==2))
     ·have hz:tsE c s i=14:=by rw[hE,tstE,if_pos hbad]
      have hf:=firstErr_at hI hi (by rw[hz];decide)
      have e':fitsSt c s=14:=by rw[e,hf,hz]
      simp[<- h5,hi,hx,hv,ht,hic,hiv,h4]
      refine V.draw (fun _=>none) (by kernel_rfl) (by kernel_rfl) (by simp) ?_
      simp[<- h5,hi,hx,hv,ht,hic,hiv,e',h4]
      exact⟨fun h=>⟨h,fun h2=>⟨h,h2⟩⟩,fun a b=>by
       rcases hbad with⟨p,q⟩|⟨p,q⟩
       ·exact absurd (a p) q
       ·exact absurd (b p) q⟩
     ·have hz:tsE c s i=0:=by rw[hE,tstE,if_neg hbad]
      have hn:=hI.succ hz
      simp[<- h5,hi,hx,hv,ht,hic,hiv,h4]
      refine V.draw (fun _=>none) (by kernel_rfl) (by kernel_rfl) (by simp) ?_
      simp[<- h5,hi,hx,hv,ht,hic,hiv,h4]
      exact⟨fun h=>⟨h,fun h2=>⟨h,h2⟩⟩,fun hb=>absurd hb hbad,fun _ _=>⟨by omega,hn⟩⟩
    ·rintro-hI
     have hf:=firstErr_all hI
     rw[hf]at e
     simp[e,h5]
 ·have e:fitsSt c s=8:=by rw[fitsSt,if_pos hsh]
  rw[e]
  simp
  unfold shapeS at hsh
  intros
  omega
structure Fine (c:Control):Prop where
 act:1<=c.actuators∧c.actuators<=6
 inp:c.inputs.length<=16
 sig:c.signals.length<=64
 sigs:∀(i:Nat) (s:Signal),c.signals[i]?=some s->signalE c i s (namesB c (2*c.actuators.toNat+c.inputs.length+i))=0
theorem fine_of {c:Control}(h:checkC c=0):Fine c:=by
 unfold checkC at h
 split at h
 ·cases h
 ·split at h
  ·cases h
  ·split at h
   ·rename_i h1;exact absurd h h1
   ·split at h
    ·rename_i h1;exact absurd h h1
    ·rename_i h1 h2 h3 h4
     have hz:=firstErr_zero (Classical.not_not.1 h4)
     refine⟨by omega,by omega,by omega,fun i s hi=>?_⟩
     obtain⟨hlt,_⟩:=List.getElem?_eq_some_iff.1 hi
     have:=hz i hlt
     simp only[sigE,hi]at this
     exact this
theorem Fine.sm {c:Control}(h:Fine c):Sm c:=by
 obtain⟨h1,h2,h3,_⟩:=h
 exact⟨by omega,by omega,by omega⟩
theorem Fine.on {c:Control}(h:Fine c) {i:Nat}{s:Signal}(hi:c.signals[i]?=some s):checkE s.on (countC c)=0∧0<=s.kind∧s.kind<=2:=by
 have:=h.sigs i s hi
 unfold signalE at this
 split at this
 ·rename_i h1;exact absurd this h1
 ·split at this
  ·cases this
  ·split at this
   ·rename_i h1;exact absurd this h1
   ·rename_i h1 h2 h3
    exact⟨Classical.not_not.1 h3,by omega⟩
def rightC (c:Control) (s:State):Int:=if checkC c≠0 then checkC c else fitsSt c s
theorem Right_fn (c:Control) (s:State) (hc:OkC c) (hs:SmS s):CallFn Tryz.prog 54 [aC c,aSt s] (aI (rightC c s)):=by
 refine callFz_of Tryz.func54 rfl Tryz.ntmps54 (rs:=[.tmp 4]) rfl (by kernel_rfl) (by simp) (by kernel_rfl) ?_
 simp
 refine (Check_fn c hc).s ?_
 simp
 by_cases hz:checkC c=0
 ·simp[hz]
  refine (fits_fn c s hs).s ?_
  simp[rightC,hz]
 ·simp[hz,rightC]
theorem RightR_fn (c:Control) (s:State) (hc:OkC c) (hp:c.plus.length<=1000000) (hm:c.minus.length<=1000000) (hs:SmS s):CallFn Tryz.prog 15 [aC c,aSt s] (aI (rightC c s)):=by
 refine callFz_of Tryz.func15 rfl Tryz.ntmps15 (rs:=[.tmp 4]) rfl (by kernel_rfl) (by simp) (by kernel_rfl) ?_
 simp
 refine (CheckR_fn c hc hp hm).s ?_
 simp
 by_cases hz:checkC c=0
 ·simp[hz]
  refine (fitsR_fn c s hs).s ?_
  simp[rightC,hz]
 ·simp[hz,rightC]
theorem right_zero {c:Control}{s:State}(h:rightC c s=0):checkC c=0∧shapeS c s∧fitsSt c s=0:=by
 unfold rightC at h
 split at h
 ·rename_i h1;exact absurd h h1
 ·rename_i h1
  refine⟨Classical.not_not.1 h1,?_,h⟩
  unfold fitsSt at h
  split at h
  ·cases h
  ·rename_i h2;exact Classical.not_not.1 h2
theorem valuesOf_length {c:Control}{s:State}(h:shapeS c s):((valuesOf s).length:Int)=countC c:=by
 obtain⟨h1,h2,h3,h4,h5⟩:=h
 have:=endsV_length s.ends
 simp[valuesOf,countC,this]
 omega
theorem values_fn (s:State) (h:SmS s):CallFn Tryz.prog 84 [aSt s] (aBs (valuesOf s)):=by
 have:=(values_o s h).fn (by simp)
 rwa [rowsD_B]at this
theorem ValuesR_fn (c:Control) (s:State) (h:SmS s) (ha:c.actuators=s.ends.length):CallFn Tryz.prog 16 [aC c,aSt s] (aBs (valuesOf s)):=by
 have:=(ValuesR_o c s h ha).fn (by simp)
 rwa [rowsD_B]at this
def valueP (c:Control) (s:State) (k:Int):Bool×Int:=
 if rightC c s≠0 then (false,rightC c s) else if k<0∨countC c<=k then (false,6) else ((valuesOf s)[k.toNat]?.getD false,0)
theorem Value_fn (c:Control) (s:State) (k:Int) (hc:OkC c) (hs:SmS s):CallFn Tryz.prog 36 [aC c,aSt s,aI k] (.tuple [aB (valueP c s k).1,aI (valueP c s k).2]):=by
 refine callFz_of Tryz.func36 rfl Tryz.ntmps36 (rs:=[.tmp 6,.tmp 7]) rfl (by kernel_rfl) (by simp) (by kernel_rfl) ?_
 simp
 refine (Right_fn c s hc hs).s ?_
 simp
 by_cases hz:rightC c s=0
 ·obtain⟨z1,z2,z3⟩:=right_zero hz
  have hf:=fine_of z1
  have hl:=valuesOf_length z2
  simp[hz]
  refine GCall.fn (aI (countC c)) (fun h0=>⟨h0,count_c c hf.sm⟩) ?_
  by_cases h0:0<=k
  ·by_cases h1:k<countC c
   ·simp[hz,h0,h1,Int.not_le.2 h1,Int.not_lt.2 h0]
    refine (values_fn s hs).s ?_
    have hk:k.toNat<(valuesOf s).length:=by omega
    simp[h0,hk,hl,h1,valueP,hz,Int.not_le.2 h1,Int.not_lt.2 h0]
   ·have h1':countC c<=k:=by omega
    simp[hz,h0,h1,h1',valueP]
  ·have h0':k<0:=by omega
   simp[hz,h0,h0',valueP]
 ·simp[hz,valueP]
def stA (τ:Nat) (g:Nat->Value):A:=.agg [.own τ (g 0),.own (τ+1) (g 1),.own (τ+2) (g 2),.own (τ+3) (g 3),.own (τ+4) (g 4)]
def stH (τ:Nat) (g:Nat->Value) (s:State):Heap:=[(τ,.seq (g 0) 3 1 (s.ends.map rI)),(τ+1,.seq (g 1) 4 1 (s.valves.map rB)),(τ+2,.seq (g 2) 4 1 (s.inputs.map rB)),(τ+3,.seq (g 3) 4 1 (s.values.map rB)),(τ+4,.seq (g 4) 3 1 (s.timers.map rI))]
def CallSt (g:FuncId) (az:List A) (s:State):Prop:=CallS Tryz.prog g az [] fun r H'=>∃h,r=stA 0 h∧H'=stH 0 h s
theorem Ds5 {x:X}{l:List Value}{t0 t1 t2 t3 t4 u0 u1 u2 u3 u4:Nat}{h0 h1 h2 h3 h4:Value}(h:Ds x [.own t0 h0,.own t1 h1,.own t2 h2,.own t3 h3,.own t4 h4] l):Ds x [.own u0 h0,.own u1 h1,.own u2 h2,.own u3 h3,.own u4 h4] l:=by
 rcases l with _ | ⟨a,_ | ⟨b,_ | ⟨c,_ | ⟨d,_ | ⟨e,l⟩⟩⟩⟩⟩<;>simp only[Ds,D]at h ⊢<;>try exact h
theorem CallSt.s {g:FuncId}{az:List A}{s:State}(h:CallSt g az s) {H:Heap}{K:A->Heap->Prop}(τ:Nat) (hk:∀hd,K (stA τ hd) (stH τ hd s++H)):CallS Tryz.prog g az H K:=by
 refine⟨h.1,fun x args H0 hi hd=>((CallS.frame (H1:=H) h).2 x args H0 hi hd).mono ?_⟩
 rintro _ _ ⟨y,v,r,H',rfl,rfl,hle,hi',hv,H2,⟨hh,rfl,rfl⟩,rfl⟩
 refine⟨y,v,stA τ hh,_,rfl,rfl,hle,hi'.ents (H':=(stH τ hh s++H)++H0) (by simp[stH]),?_,hk hh⟩
 simp only[stA,D]at hv ⊢
 obtain⟨vs,e,hds⟩:=hv
 exact⟨vs,e,Ds5 hds⟩
def stAt (H:Heap) (s:State):A->Prop
 | .agg [.own t0 h0,.own t1 h1,.own t2 h2,.own t3 h3,.own t4 h4]=>hget t0 H=some (.seq h0 3 1 (s.ends.map rI))∧hget t1 (hdel t0 H)=some (.seq h1 4 1 (s.valves.map rB))∧hget t2 (hdel t1 (hdel t0 H))=some (.seq h2 4 1 (s.inputs.map rB)) ∧
   hget t3 (hdel t2 (hdel t1 (hdel t0 H)))=some (.seq h3 4 1 (s.values.map rB))∧hget t4 (hdel t3 (hdel t2 (hdel t1 (hdel t0 H))))=some (.seq h4 3 1 (s.timers.map rI))
 | _=>False
theorem CallSt.of {g:FuncId}{az:List A}{s:State}(h:CallS Tryz.prog g az [] fun r H'=>stAt H' s r):CallSt g az s:=by
 refine⟨h.1,fun x args H0 hi hd=>(h.2 x args H0 hi hd).mono ?_⟩
 rintro _ _ ⟨y,v,r,H',rfl,rfl,hle,hi',hv,hk⟩
 unfold stAt at hk
 split at hk
 ·rename_i t0 h0 t1 h1 t2 h2 t3 h3 t4 h4
  obtain⟨k0,k1,k2,k3,k4⟩:=hk
  have p0:=hdel_perm k0
  have p1:=hdel_perm k1
  have p2:=hdel_perm k2
  have p3:=hdel_perm k3
  have p4:=hdel_perm k4
  have hp:=p0.trans ((p1.trans ((p2.trans ((p3.trans (p4.cons _)).cons _)).cons _)).cons _)
  have hi2:=hi'.perm (hp.symm.append_right H0)
  refine⟨y,v,stA 0 (fun i=>[h0,h1,h2,h3,h4].getD i default),stH 0 (fun i=>[h0,h1,h2,h3,h4].getD i default) s,rfl,rfl,hle,?_,?_,_,rfl,rfl⟩
  ·have hi3:=hi2.sub (H':=[(t0,.seq h0 3 1 (s.ends.map rI)),(t1,.seq h1 4 1 (s.valves.map rB)),(t2,.seq h2 4 1 (s.inputs.map rB)),(t3,.seq h3 4 1 (s.values.map rB)),(t4,.seq h4 3 1 (s.timers.map rI))]++H0) (List.Sublist.append (by simp) (List.Sublist.refl _))
   exact hi3.ents (by simp[stH])
  ·simp only[stA,D]at hv ⊢
   obtain⟨vs,e,hds⟩:=hv
   exact⟨vs,e,Ds5 hds⟩
 ·exact hk.elim
theorem copyR_o (s:State) (h:SmS s):CallSt 161 [aSt s] s:=by
 obtain⟨h1,h2,h3,h4,h5⟩:=h
 refine CallSt.of (callS_of Tryz.func161 rfl Tryz.ntmps161 (rs:=[.cell 2 29]) rfl (by kernel_rfl) (by simp) (by kernel_rfl) ?_)
 simp
 intro b2
 refine V.draw (fun _=>none) (by kernel_rfl) (by kernel_rfl) (by simp) ?_
 simp
 have g0:s.ends.length<=4294967296:=by omega
 have g1:s.valves.length<=4294967296:=by omega
 have g2:s.inputs.length<=4294967296:=by omega
 have g3:s.values.length<=4294967296:=by omega
 have g4:s.timers.length<=4294967296:=by omega
 simp[g0,g1,g2,g3,g4,stAt,hget,hdel]
def gvals (c:Control) (s:State):Nat->List Bool
 | 0=>s.values
 | i+1=>match c.signals[i]? with
  | some x=>if x.kind=0 then (gvals c s i).set i (evalE x.on (valuesOf { s with values:=gvals c s i })) else gvals c s i
  | none=>gvals c s i
def gatesP (c:Control) (s:State):State:={ s with values:=gvals c s c.signals.length }
theorem gvals_length (c:Control) (s:State) (i:Nat):(gvals c s i).length=s.values.length:=by
 induction i with
 | zero=>rfl
 | succ i ih=>
  simp only[gvals]
  split
  ·split
   ·simp[ih]
   ·exact ih
  ·exact ih
theorem gvals_at {c:Control}{s:State}{i:Nat}{x:Signal}(h:c.signals[i]?=some x):gvals c s (i+1)=if x.kind=0 then (gvals c s i).set i (evalE x.on (valuesOf { s with values:=gvals c s i })) else gvals c s i:=by
 simp only[gvals,h]
theorem evalL_map (vs:List Bool):∀xs:List Expr,evalL xs vs=xs.map fun x=>evalE x vs
 | []=>rfl
 | x::xs=>by simp[evalL,evalL_map vs xs]
def allT (xs:List Expr) (vs:List Bool):Bool:=xs.all fun x=>evalE x vs
def anyT (xs:List Expr) (vs:List Bool):Bool:=xs.any fun x=>evalE x vs
theorem allT_snoc {xs:List Expr}{vs:List Bool}{i:Nat}{y:Expr}(h:xs[i]?=some y):allT (xs.take (i+1)) vs=(allT (xs.take i) vs&&evalE y vs):=by
 unfold allT
 rw[List.take_add_one,h]
 simp[List.all_append]
theorem anyT_snoc {xs:List Expr}{vs:List Bool}{i:Nat}{y:Expr}(h:xs[i]?=some y):anyT (xs.take (i+1)) vs=(anyT (xs.take i) vs||evalE y vs):=by
 unfold anyT
 rw[List.take_add_one,h]
 simp[List.any_append]
theorem evalL_all (xs:List Expr) (vs:List Bool):(evalL xs vs).all (·==true)=allT xs vs:=by
 rw[evalL_map,allT,List.all_map]
 congr 1
 funext x
 simp
theorem evalL_any (xs:List Expr) (vs:List Bool):(!(evalL xs vs).all (·==false))=anyT xs vs:=by
 rw[evalL_map,anyT,List.all_map,List.not_all_eq_any_not]
 congr 1
 funext x
 show (!(evalE x vs==false))=evalE x vs
 cases evalE x vs<;>rfl
theorem holds_fn:∀(N:Nat) (x:Expr),SizeOf.sizeOf x<N->OkE x->∀vs:List Bool,vs.length<=256->RightE vs.length x->CallFn Tryz.prog 162 [aE x,aBs vs] (aB (evalE x vs))
 | 0,_,h,_,_,_,_=>absurd h (Nat.not_lt_zero _)
 | N+1,x,hN,hx,vs,hv,hr=>by
  have ih:∀a∈x.args,CallFn Tryz.prog 162 [aE a,aBs vs] (aB (evalE a vs)):=fun a ha=>holds_fn N a (by have:=Expr.lt_of_mem ha;omega) (hx.args a ha) vs hv (hr.args a ha)
  have hn:=hr.node
  have hlen:=hx.len
  have hop:0<=x.op∧x.op<5:=by
   unfold nodeR at hn
   split at hn<;>omega
  have key:x.op=3∨x.op=4->∀(c:Bool),c=true->CallFn Tryz.prog 162 [aE x,aBs vs] (aB (evalE x vs)):=by
   intro ho _ _
   have e:evalE x vs=if x.op=3 then allT x.args vs else anyT x.args vs:=by
    rw[evalE_eq,if_neg (by omega),if_neg (by omega),if_neg (by omega),evalL_all,evalL_any]
   have o0:¬x.op=0:=by omega
   have o1:¬x.op=1:=by omega
   have o2:¬x.op=2:=by omega
   refine callFz_of Tryz.func162 rfl Tryz.ntmps162 (rs:=[.tmp 4]) rfl (by kernel_rfl) (by simp) (by kernel_rfl) ?_
   simp[o0,o1,o2]
   refine V.forI (σ:=Unit) x.args.length [1,2,4] (by simp;exact rfl) (fun i _=>[(5,aB (allT (x.args.take i) vs)),(6,aB (anyT (x.args.take i) vs)),(7,aI i)]) (fun _ _=>[]) (fun _ _=>True) () trivial (by simp[allT,anyT]) ⟨by simp;exact rfl,by simp⟩ ?_ ?_
   ·rintro i-hi -
    obtain⟨y,hy⟩:∃y,x.args[i]=y:=⟨_,rfl⟩
    have hy0:x.args[i]?=some y:=by rw[List.getElem?_eq_getElem hi,hy]
    rw[allT_snoc hy0,anyT_snoc hy0]
    simp[hi,hy,encE_eq]
    refine (ih y (List.mem_of_getElem? hy0)).s ?_
    generalize evalE y vs=b1
    generalize allT (x.args.take i) vs=b2
    generalize anyT (x.args.take i) vs=b3
    simp
    omega
   ·rintro - -
    rw[List.take_length]
    simp
    refine⟨fun h=>⟨h,fun h2=>⟨h,h2⟩⟩,?_⟩
    rw[e]
    rcases ho with ho | ho<;>simp[ho]
  obtain ho | ho | ho | ho:x.op=0∨x.op=1∨x.op=2∨(x.op=3∨x.op=4):=by omega
  ·refine callFz_of Tryz.func162 rfl Tryz.ntmps162 (rs:=[.tmp 4]) rfl (by kernel_rfl) (by simp) (by kernel_rfl) ?_
   simp[ho,evalE_eq x]
  ·have hix:0<=x.index∧x.index<vs.length:=by
    simp[nodeR,ho]at hn
    omega
   obtain⟨k,hk⟩:∃k:Nat,x.index=k:=⟨x.index.toNat,by omega⟩
   rw[hk]at hix
   have hkl:k<vs.length:=by omega
   refine callFz_of Tryz.func162 rfl Tryz.ntmps162 (rs:=[.tmp 4]) rfl (by kernel_rfl) (by simp) (by kernel_rfl) ?_
   simp[ho,hk,hkl,evalE_eq x]
  ·have hl:x.args.length=1:=by
    simp[nodeR,ho]at hn
    split at hn
    ·cases hn
    ·omega
   obtain⟨y,hy⟩:∃y,x.args=[y]:=List.length_eq_one_iff.1 hl
   have e:evalE x vs = !(evalE y vs):=by
    rw[evalE_eq,if_neg (by omega),if_neg (by omega),if_pos ho,hy]
    simp[evalL]
   refine callFz_of Tryz.func162 rfl Tryz.ntmps162 (rs:=[.tmp 4]) rfl (by kernel_rfl) (by simp) (by kernel_rfl) ?_
   simp[ho,hy,encE_eq]
   refine (ih y (by simp[hy])).s ?_
   simp[e]
  ·exact key ho true rfl
def preV (s:State):List Bool:=endsV s.ends++s.inputs
theorem valuesOf_with (s:State) (l:List Bool):valuesOf { s with values:=l }=preV s++l:=rfl
theorem valuesOf_eq (s:State):valuesOf s=preV s++s.values:=rfl
theorem preV_length {c:Control}{s:State}(h:shapeS c s):((preV s).length:Int)=firstC c:=by
 obtain⟨h1,h2,h3,h4,h5⟩:=h
 have:=endsV_length s.ends
 simp[preV,firstC,this]
 omega
theorem SmS.with {s:State}(h:SmS s) {l:List Bool}(hl:l.length=s.values.length):SmS { s with values:=l }:=⟨h.ends,h.valves,h.inputs,by show l.length<=_;rw[hl];exact h.values,h.timers⟩
theorem computedR_o (c:Control) (s:State) (hc:OkC c) (hf:Fine c) (hs:SmS s) (hsh:shapeS c s):CallSt 97 [aC c,aSt s] (gatesP c s):=by
 have hsm:=hf.sm
 have hcs:=hf.sig
 refine CallSt.of (callS_of Tryz.func97 rfl Tryz.ntmps97 (rs:=[.cell 4 29]) rfl (by kernel_rfl) (by simp) (by kernel_rfl) ?_)
 simp
 intro b4
 refine (copyR_o s hs).s 60 fun hd=>?_
 simp[stA,stH]
 intro b5
 refine V.forI (σ:=Unit) c.signals.length [2,4,5] (by simp;exact rfl) (fun i _=>[(6,aI i)]) (fun i _=>[(63,.seq (hd 3) 4 1 ((gvals c s i).map rB))]) (fun _ _=>True) () trivial (by simp) ⟨by simp;exact rfl,by simp[gvals,hget,hdel]⟩ ?_ ?_
 ·rintro i-hi -
  obtain⟨x,hx⟩:∃x,c.signals[i]=x:=⟨_,rfl⟩
  have hxo:c.signals[i]?=some x:=by rw[List.getElem?_eq_getElem hi,hx]
  have hgl:=gvals_length c s i
  obtain⟨hon,-⟩:=hf.on hxo
  obtain⟨r1,r2,r3⟩:=right_of_check hon
  have hlen:=valuesOf_length hsh
  rw[gvals_at hxo]
  generalize gvals c s i=l at hgl ⊢
  have hil:i<l.length:=by obtain⟨_,_,_,h4,_⟩:=hsh;omega
  have hgi:l[i]?=some l[i]:=List.getElem?_eq_getElem hil
  by_cases hk:x.kind=0
  ·simp[hi,hx,hk]
   refine V.draw (fun t=>if t=34 then some (.ro (aBs (preV s++l))) else if t=35 then some (.fn (aB (evalE x.on (preV s++l)))) else none) (by kernel_rfl) (by kernel_rfl) (by simp) ?_
   simp[hi,hx,hk,hgi,hil,valuesOf_with,rB]
   refine⟨((ValuesR_o c { s with values:=l } (hs.with hgl) hsh.1.symm).lendFn (H:=[(60,.seq (hd 0) 3 1 (s.ends.map rI)),(61,.seq (hd 1) 4 1 (s.valves.map rB)),(62,.seq (hd 2) 4 1 (s.inputs.map rB)),(63,.seq (hd 3) 4 1 (l.map rB)),(64,.seq (hd 4) 3 1 (s.timers.map rI))]) ?_ ?_ ?_).mono ?_,?_⟩
   ·simp[hget,packA,encSt]
   ·intro h;simp[valuesOf_with]
   ·simp
   ·rintro r H' ⟨rfl,rfl⟩
    simp[valuesOf_with]
   ·have hl':((preV s++l).length:Int)=countC c:=by
     have:=valuesOf_length (c:=c) (s:={ s with values:=l }) ⟨hsh.1,hsh.2.1,hsh.2.2.1,hgl.trans hsh.2.2.2.1,hsh.2.2.2.2⟩
     exact this
    exact⟨holds_fn (SizeOf.sizeOf x.on+1) x.on (by omega) (hc.sigs x (List.mem_of_getElem? hxo)).on (preV s++l) (by omega) (by rw[hl'];exact r1),by omega⟩
  ·simp[hi,hx,hk]
   omega
 ·rintro - -
  simp
  simp[stAt,hget,hdel,gatesP]
theorem gates_o (c:Control) (s:State) (hc:OkC c) (hf:Fine c) (hs:SmS s) (hsh:shapeS c s):CallSt 55 [aC c,aSt s] (gatesP c s):=by
 have hsm:=hf.sm
 have hcs:=hf.sig
 have hpl:=preV_length hsh
 obtain⟨s1,s2,s3,s4,s5⟩:=hs
 have hs':SmS s:=⟨s1,s2,s3,s4,s5⟩
 refine CallSt.of (callS_of Tryz.func55 rfl Tryz.ntmps55 (rs:=[.cell 4 29]) rfl (by kernel_rfl) (by simp) (by kernel_rfl) ?_)
 simp
 intro b4
 refine V.draw (fun t=>if t=13 then some (.own 3 1 (s.ends.map rI)) else if t=16 then some (.own 4 1 (s.valves.map rB)) else if t=19 then some (.own 4 1 (s.inputs.map rB)) else if t=22 then some (.own 4 1 (s.values.map rB)) else if t=25 then some (.own 3 1 (s.timers.map rI)) else none) (by kernel_rfl) (by kernel_rfl) (by simp) ?_
 simp
 intro u0
 refine⟨cloneI_o s.ends (by omega),fun u1=>⟨cloneB_o s.valves (by omega),fun u2=>⟨cloneB_o s.inputs (by omega),fun u3=>⟨cloneB_o s.values (by omega),fun u4=>⟨cloneI_o s.timers (by omega),?_⟩⟩⟩⟩⟩
 intro b5
 refine (values_o s hs').lend 70 (by simp[hget,packA,encSt]) (by intro h;simp) ?_
 intro h6
 simp
 refine V.forI (σ:=Unit) c.signals.length [2,4,5,6,30,31] (by simp;exact rfl) (fun i _=>[(32,aI i)]) (fun i _=>[(22,.seq u3 4 1 ((gvals c s i).map rB)),(70,.seq h6 4 1 ((preV s++gvals c s i).map rB))]) (fun _ _=>True) () trivial (by simp) ⟨by simp;exact rfl,by simp[gvals,hget,hdel,valuesOf_eq]⟩ ?_ ?_
 ·rintro i-hi -
  obtain⟨x,hx⟩:∃x,c.signals[i]=x:=⟨_,rfl⟩
  have hxo:c.signals[i]?=some x:=by rw[List.getElem?_eq_getElem hi,hx]
  have hgl:=gvals_length c s i
  obtain⟨hon,-⟩:=hf.on hxo
  obtain⟨r1,r2,r3⟩:=right_of_check hon
  have hlen:=valuesOf_length hsh
  rw[gvals_at hxo]
  generalize gvals c s i=l at hgl ⊢
  have hil:i<l.length:=by obtain⟨_,_,_,h4,_⟩:=hsh;omega
  have hgi:l[i]?=some l[i]:=List.getElem?_eq_getElem hil
  have hl':((preV s++l).length:Int)=countC c:=by
   have:=valuesOf_length (c:=c) (s:={ s with values:=l }) ⟨hsh.1,hsh.2.1,hsh.2.2.1,hgl.trans hsh.2.2.2.1,hsh.2.2.2.2⟩
   exact this
  simp[hi,hx]
  intro b8
  by_cases hk:x.kind=0
  ·simp[hi,hx,hk]
   have ev:=evalx_fn x.on (hc.sigs x (List.mem_of_getElem? hxo)).on (preV s++l) (by omega)
   rw[hl',hon]at ev
   simp only[if_true]at ev
   refine ev.lend (by simp[hget,packA,encE_eq]) (by simp) ?_
   rw[valuesOf_with]
   generalize evalE x.on (preV s++l)=b
   simp
   refine V.draw (fun t=>if t=52 then some (.fn (aI (firstC c))) else none) (by kernel_rfl) (by kernel_rfl) (by simp) ?_
   have hp1:=first_fn c hsm
   have hpl2:(preV s).length<=10000000:=by have:=hf.act;have:=hf.inp;unfold firstC at hpl;omega
   rw[<- hpl]at hp1 ⊢
   have ht:(((preV s).length:Int)+i).toNat=(preV s).length+i:=by omega
   have hA:(List.map rB (preV s)++List.map rB l)[(preV s).length+i]?=some [A.dat (L.bool l[i])]:=by
    rw[List.getElem?_append_right (by simp)]
    simp[hgi,rB,hil]
   have hS:∀r,(List.map rB (preV s)++List.map rB l).set ((preV s).length+i) r=List.map rB (preV s)++(List.map rB l).set i r:=by
    intro r
    rw[List.set_append_right _ _ (by simp)]
    simp
   simp[hi,hx,hk,hgi,hil,rB,ht,hA,hS]
   exact⟨hp1,by omega,by omega,by omega,by omega⟩
  ·simp[hi,hx,hk]
   omega
 ·rintro - -
  simp[stAt,hget,hdel,gatesP]
end Go.Proofs.YtafamcbdaeppoaaGreatDoor
