/- Texts joined by a program: Sc,Vba,Om,On,Op,Or. -/
import Derived.Test.YtafamcbdaeppoaaGreatDoorE27
import Derived.Test.YtafamcbdaeppoaaGreatDoorE11
import Derived.Test.YtafamcbdaeppoaaGreatDoorE26
import Derived.Test.YtafamcbdaeppoaaGreatDoorE19
set_option linter.unusedSimpArgs false
set_option linter.unusedVariables false
set_option maxHeartbeats 8000000
set_option maxRecDepth 10000
namespace Go.Proofs.YtafamcbdaeppoaaGreatDoor
theorem set_mix {α:Type}{A B:List α}{i:Nat}{a:α}(ha:A[i]?=some a) (hl:A.length=B.length):(A.take i++B.drop i).set i a=A.take (i+1)++B.drop (i+1):=by
 obtain⟨h1,h2⟩:=List.getElem?_eq_some_iff.1 ha
 rw[List.set_append_right _ _ (by simp;omega),List.take_add_one,ha,List.append_assoc]
 congr 1
 rw[List.drop_eq_getElem_cons (by omega:i<B.length),List.length_take,Nat.min_eq_left (Nat.le_of_lt h1),Nat.sub_self]
 rfl
theorem mix_at {α:Type}{A B:List α}{i:Nat}(h:i<=A.length):(A.take i++B.drop i)[i]?=B[i]?:=by
 rw[List.getElem?_append_right (by simp;omega)]
 simp[Nat.min_eq_left h]
theorem newV_at {c:Control}{s:State}{i:Nat}(h:i<c.signals.length):(newV c s)[i]?=some (sigStep c s (valuesOf s) i).1:=by simp[newV,h]
theorem newT_at {c:Control}{s:State}{i:Nat}(h:i<c.signals.length):(newT c s)[i]?=some (sigStep c s (valuesOf s) i).2.1:=by simp[newT,h]
theorem newV_len (c:Control) (s:State):(newV c s).length=c.signals.length:=by simp[newV]
theorem newT_len (c:Control) (s:State):(newT c s).length=c.signals.length:=by simp[newT]
theorem sigStep_at {c:Control}{s:State}{L:List Bool}{i:Nat}{x:Signal}{v:Bool}{t:Int}(hx:c.signals[i]?=some x) (hv:s.values[i]?=some v) (ht:s.timers[i]?=some t) :
  sigStep c s L i=stepV x.kind v t (evalE x.on L) (x.kind==1&&evalE x.off L):=by simp only[sigStep,hx,hv,ht]
theorem same_eq (a b:State):sameSt a b=decide (a=b):=by
 cases a;cases b
 simp[sameSt,Bool.and_assoc]
theorem off_ok {c:Control}{i:Nat}{x:Signal}(hf:Fine c) (hxo:c.signals[i]?=some x) (hk:x.kind=1):checkE x.off (countC c)=0:=by
 have h:=hf.sigs i x hxo
 unfold signalE at h
 split at h
 ·rename_i h1;exact absurd h h1
 ·split at h
  ·cases h
  ·split at h
   ·rename_i h1;exact absurd h h1
   ·simp only[hk]at h
    simp[memE]at h
    by_cases h3:checkE x.off (countC c)=0
    ·exact h3
    ·simp[h3]at h
abbrev rkE (bm b4 b6:Nat) (h5:Value) (c:Control):List (Nat×A):=[(0,.ptr 70 bm 0),(2,.dat (.bool false)),(3,.nils),(4,.ptr 4 b4 0),(5,.own 71 h5),(6,.ptr 6 b6 0),(25,.dat (.sl (c.signals.map encS))),(26,.dat (.int .i64 c.signals.length))]
abbrev rkH (bm b4 b6:Nat) (g h4:Nat->Value) (h5:Value) (c:Control) (s G:State):Heap:=[(6,.box b6 rulesA),(71,.seq h5 4 1 ((valuesOf G).map rB)),(70,.box bm (mcA c g)),(60,.seq (g 0) 3 1 (G.ends.map rI)),(61,.seq (g 1) 4 1 (G.valves.map rB)),(62,.seq (g 2) 4 1 (G.inputs.map rB)),(4,.box b4 [.own 80 (h4 0),.own 81 (h4 1),.own 82 (h4 2),.own 83 (h4 3),.own 84 (h4 4)]),(80,.seq (h4 0) 3 1 (s.ends.map rI)),(81,.seq (h4 1) 4 1 (s.valves.map rB)),(82,.seq (h4 2) 4 1 (s.inputs.map rB)),(83,.seq (h4 3) 4 1 (s.values.map rB)),(84,.seq (h4 4) 3 1 (s.timers.map rI))]
abbrev rsE (i:Nat) (h7:Value):List (Nat×A):=[(27,aI i),(7,.own 72 h7)]
abbrev rsH (g:Nat->Value) (c:Control) (G:State) (i:Nat) (h7:Value):Heap:=[(72,.seq h7 3 1 ((onceB c G i).map rI)),(63,.seq (g 3) 4 1 (((newV c G).take i++G.values.drop i).map rB)),(64,.seq (g 4) 3 1 (((newT c G).take i++G.timers.drop i).map rI))]
theorem round_b0 {n:Nat}{Q:PostQ}{bm b4 b6:Nat}{g h4:Nat->Value}{h5 h7:Value}{c:Control}{s G:State}{i:Nat}{x:Signal}(hc:OkC c) (hf:Fine c) (hG:shapeS c G) (hxo:c.signals[i]?=some x) (hk:x.kind=0) :
  vcC ⟨Tryz.prog,none,n⟩ (loopC Tryz.f154 0) (hdE (rkE bm b4 b6 h5 c) (rsE i h7)) (hcat (rsH g c G i h7) (rkH bm b4 b6 g h4 h5 c s G)) (LoopQ Q fun E' H'=>∃s',True∧(∀p∈rsE (i+1) s',wk (E' p.1) p.2)∧(∀p∈rkE bm b4 b6 h5 c,E' p.1=p.2)∧subN (hcat (rsH g c G (i+1) s') (rkH bm b4 b6 g h4 h5 c s G)) H'):=by
 refine vc_part rfl ?_
 obtain⟨hi,hx⟩:=List.getElem?_eq_some_iff.1 hxo
 have ha:=hf.act
 have hin:=hf.inp
 have hsg:=hf.sig
 have hL:=valuesOf_length hG
 obtain⟨j1,j2,j3,j4,j5⟩:=hG
 have hox:=hc.sigs x (List.mem_of_getElem? hxo)
 obtain⟨v,hv⟩:∃v,G.values[i]?=some v:=⟨_,List.getElem?_eq_getElem (by omega)⟩
 obtain⟨t,ht⟩:∃t,G.timers[i]?=some t:=⟨_,List.getElem?_eq_getElem (by omega)⟩
 have hon:=hf.on hxo
 have r1:=(right_of_check hon.1).1
 have ron:CallFn Tryz.prog 228 [aE x.on,aBs (valuesOf G)] (aB (evalE x.on (valuesOf G))):=value_fn (SizeOf.sizeOf x.on+1) x.on (by omega) hox.on (valuesOf G) (by have:countC c=2*c.actuators+c.inputs.length+c.signals.length:=rfl;omega) (by rw[hL];exact r1)
 have hst:=sigStep_at (L:=valuesOf G) hxo hv ht
 obtain⟨nv,nt,cf,hst2,hrule⟩:∃nv nt cf,stepV 0 v t (evalE x.on (valuesOf G)) false=(nv,nt,cf)∧CallFn Tryz.prog 303 [aCh v t false,aB (evalE x.on (valuesOf G)),aB false] (aCh nv nt cf):=⟨v,t,false,rfl,rule0_fn v t false _ false⟩
 rw[hk]at hst
 have hst3:=hst.trans hst2
 have mV:=set_mix (B:=G.values) (newV_at (s:=G) hi) (by rw[newV_len];omega)
 have mT:=set_mix (B:=G.timers) (newT_at (s:=G) hi) (by rw[newT_len];omega)
 have aV:((newV c G).take i++G.values.drop i)[i]?=some v:=by rw[mix_at (by rw[newV_len];omega)];exact hv
 have aT:((newT c G).take i++G.timers.drop i)[i]?=some t:=by rw[mix_at (by rw[newT_len];omega)];exact ht
 have bl:=onceB_len c G i
 have bs:=onceB_succ c G i
 have lV:i<((newV c G).take i++G.values.drop i).length:=(List.getElem?_eq_some_iff.1 aV).1
 have lT:i<((newT c G).take i++G.timers.drop i).length:=(List.getElem?_eq_some_iff.1 aT).1
 unfold rsH
 rw[bs,<- mV,<- mT,hst3]
 clear mV mT hst hst2 hst3 bs
 have hfc:0<=firstC c∧firstC c<=100:=by unfold firstC;omega
 generalize (newV c G).take i++G.values.drop i=V1 at *
 generalize (newT c G).take i++G.timers.drop i=T1 at *
 generalize onceB c G i=B1 at *
 generalize evalE x.on (valuesOf G)=bon at *
 have aV2:=(List.getElem?_eq_some_iff.1 aV).2
 have aT2:=(List.getElem?_eq_some_iff.1 aT).2
 simp[hi,hx]
 intro b9
 refine V.drawX (fun q=>if q=56 then some (.ro (aB bon)) else if q=64 then some (.ro (aB false)) else if q=66 then some (.fn (aCh nv nt cf)) else none) (by kernel_rfl) (by kernel_rfl) (by simp) ?_
 simp[hk,hi,hx,aV,aT,lV,lT,rB,rI,aV2,aT2]
 refine⟨ron.lend (by simp[hget]) (by simp) ⟨rfl,rfl⟩,hrule,fun b10=>⟨by kernel_rfl,?_⟩⟩
 refine V.drawX (fun _=>none) (by kernel_rfl) (by kernel_rfl) (by simp) ?_
 simp[hk,hi,hx,aV,aT,lV,lT,rB,rI,aV2,aT2]
 refine⟨by kernel_rfl,?_⟩
 cases cf
 ·simp
  omega
 ·simp[rI]
  omega
theorem round_b1 {n:Nat}{Q:PostQ}{bm b4 b6:Nat}{g h4:Nat->Value}{h5 h7:Value}{c:Control}{s G:State}{i:Nat}{x:Signal}(hc:OkC c) (hf:Fine c) (hG:shapeS c G) (hxo:c.signals[i]?=some x) (hk:x.kind=1) :
  vcC ⟨Tryz.prog,none,n⟩ (loopC Tryz.f154 0) (hdE (rkE bm b4 b6 h5 c) (rsE i h7)) (hcat (rsH g c G i h7) (rkH bm b4 b6 g h4 h5 c s G)) (LoopQ Q fun E' H'=>∃s',True∧(∀p∈rsE (i+1) s',wk (E' p.1) p.2)∧(∀p∈rkE bm b4 b6 h5 c,E' p.1=p.2)∧subN (hcat (rsH g c G (i+1) s') (rkH bm b4 b6 g h4 h5 c s G)) H'):=by
 refine vc_part rfl ?_
 obtain⟨hi,hx⟩:=List.getElem?_eq_some_iff.1 hxo
 have ha:=hf.act
 have hin:=hf.inp
 have hsg:=hf.sig
 have hL:=valuesOf_length hG
 obtain⟨j1,j2,j3,j4,j5⟩:=hG
 have hox:=hc.sigs x (List.mem_of_getElem? hxo)
 obtain⟨v,hv⟩:∃v,G.values[i]?=some v:=⟨_,List.getElem?_eq_getElem (by omega)⟩
 obtain⟨t,ht⟩:∃t,G.timers[i]?=some t:=⟨_,List.getElem?_eq_getElem (by omega)⟩
 have hon:=hf.on hxo
 have r1:=(right_of_check hon.1).1
 have ron:CallFn Tryz.prog 228 [aE x.on,aBs (valuesOf G)] (aB (evalE x.on (valuesOf G))):=value_fn (SizeOf.sizeOf x.on+1) x.on (by omega) hox.on (valuesOf G) (by have:countC c=2*c.actuators+c.inputs.length+c.signals.length:=rfl;omega) (by rw[hL];exact r1)
 have roff:CallFn Tryz.prog 228 [aE x.off,aBs (valuesOf G)] (aB (evalE x.off (valuesOf G))):=
  value_fn (SizeOf.sizeOf x.off+1) x.off (by omega) hox.off (valuesOf G) (by have:countC c=2*c.actuators+c.inputs.length+c.signals.length:=rfl;omega) (by rw[hL];exact (right_of_check (off_ok hf hxo hk)).1)
 have hst:=sigStep_at (L:=valuesOf G) hxo hv ht
 obtain⟨nv,nt,cf,hst2,hrule⟩:∃nv nt cf,stepV 1 v t (evalE x.on (valuesOf G)) (evalE x.off (valuesOf G))=(nv,nt,cf)∧CallFn Tryz.prog 304 [aCh v t false,aB (evalE x.on (valuesOf G)),aB (evalE x.off (valuesOf G))] (aCh nv nt cf):=⟨_,_,_,by cases evalE x.on (valuesOf G)<;>cases evalE x.off (valuesOf G)<;>rfl,rule1_fn v t false _ _⟩
 rw[hk]at hst
 have hst3:=hst.trans hst2
 have mV:=set_mix (B:=G.values) (newV_at (s:=G) hi) (by rw[newV_len];omega)
 have mT:=set_mix (B:=G.timers) (newT_at (s:=G) hi) (by rw[newT_len];omega)
 have aV:((newV c G).take i++G.values.drop i)[i]?=some v:=by rw[mix_at (by rw[newV_len];omega)];exact hv
 have aT:((newT c G).take i++G.timers.drop i)[i]?=some t:=by rw[mix_at (by rw[newT_len];omega)];exact ht
 have bl:=onceB_len c G i
 have bs:=onceB_succ c G i
 have lV:i<((newV c G).take i++G.values.drop i).length:=(List.getElem?_eq_some_iff.1 aV).1
 have lT:i<((newT c G).take i++G.timers.drop i).length:=(List.getElem?_eq_some_iff.1 aT).1
 unfold rsH
 rw[bs,<- mV,<- mT,hst3]
 clear mV mT hst hst2 hst3 bs
 have hfc:0<=firstC c∧firstC c<=100:=by unfold firstC;omega
 generalize (newV c G).take i++G.values.drop i=V1 at *
 generalize (newT c G).take i++G.timers.drop i=T1 at *
 generalize onceB c G i=B1 at *
 generalize evalE x.on (valuesOf G)=bon at *
 generalize evalE x.off (valuesOf G)=boff at *
 have aV2:=(List.getElem?_eq_some_iff.1 aV).2
 have aT2:=(List.getElem?_eq_some_iff.1 aT).2
 simp[hi,hx]
 intro b9
 refine V.drawX (fun q=>if q=56 then some (.ro (aB bon)) else if q=64 then some (.ro (aB boff)) else if q=66 then some (.fn (aCh nv nt cf)) else none) (by kernel_rfl) (by kernel_rfl) (by simp) ?_
 simp[hk,hi,hx,aV,aT,lV,lT,rB,rI,aV2,aT2]
 refine⟨ron.lend (by simp[hget]) (by simp) ⟨rfl,rfl⟩,roff.lend (by simp[hget]) (by simp) ⟨rfl,rfl⟩,hrule,fun b10=>⟨by kernel_rfl,?_⟩⟩
 refine V.drawX (fun _=>none) (by kernel_rfl) (by kernel_rfl) (by simp) ?_
 simp[hk,hi,hx,aV,aT,lV,lT,rB,rI,aV2,aT2]
 refine⟨by kernel_rfl,?_⟩
 cases cf
 ·simp
  omega
 ·simp[rI]
  omega
theorem round_b2 {n:Nat}{Q:PostQ}{bm b4 b6:Nat}{g h4:Nat->Value}{h5 h7:Value}{c:Control}{s G:State}{i:Nat}{x:Signal}(hc:OkC c) (hf:Fine c) (hG:shapeS c G) (hxo:c.signals[i]?=some x) (hk:x.kind=2) :
  vcC ⟨Tryz.prog,none,n⟩ (loopC Tryz.f154 0) (hdE (rkE bm b4 b6 h5 c) (rsE i h7)) (hcat (rsH g c G i h7) (rkH bm b4 b6 g h4 h5 c s G)) (LoopQ Q fun E' H'=>∃s',True∧(∀p∈rsE (i+1) s',wk (E' p.1) p.2)∧(∀p∈rkE bm b4 b6 h5 c,E' p.1=p.2)∧subN (hcat (rsH g c G (i+1) s') (rkH bm b4 b6 g h4 h5 c s G)) H'):=by
 refine vc_part rfl ?_
 obtain⟨hi,hx⟩:=List.getElem?_eq_some_iff.1 hxo
 have ha:=hf.act
 have hin:=hf.inp
 have hsg:=hf.sig
 have hL:=valuesOf_length hG
 obtain⟨j1,j2,j3,j4,j5⟩:=hG
 have hox:=hc.sigs x (List.mem_of_getElem? hxo)
 obtain⟨v,hv⟩:∃v,G.values[i]?=some v:=⟨_,List.getElem?_eq_getElem (by omega)⟩
 obtain⟨t,ht⟩:∃t,G.timers[i]?=some t:=⟨_,List.getElem?_eq_getElem (by omega)⟩
 have hon:=hf.on hxo
 have r1:=(right_of_check hon.1).1
 have ron:CallFn Tryz.prog 228 [aE x.on,aBs (valuesOf G)] (aB (evalE x.on (valuesOf G))):=value_fn (SizeOf.sizeOf x.on+1) x.on (by omega) hox.on (valuesOf G) (by have:countC c=2*c.actuators+c.inputs.length+c.signals.length:=rfl;omega) (by rw[hL];exact r1)
 have hst:=sigStep_at (L:=valuesOf G) hxo hv ht
 obtain⟨nv,nt,cf,hst2,hrule⟩:∃nv nt cf,stepV 2 v t (evalE x.on (valuesOf G)) false=(nv,nt,cf)∧CallFn Tryz.prog 305 [aCh v t false,aB (evalE x.on (valuesOf G)),aB false] (aCh nv nt cf):=⟨_,_,_,by cases evalE x.on (valuesOf G)<;>simp[stepV]<;>split<;>rfl,rule2_fn v t _ false⟩
 rw[hk]at hst
 have hst3:=hst.trans hst2
 have mV:=set_mix (B:=G.values) (newV_at (s:=G) hi) (by rw[newV_len];omega)
 have mT:=set_mix (B:=G.timers) (newT_at (s:=G) hi) (by rw[newT_len];omega)
 have aV:((newV c G).take i++G.values.drop i)[i]?=some v:=by rw[mix_at (by rw[newV_len];omega)];exact hv
 have aT:((newT c G).take i++G.timers.drop i)[i]?=some t:=by rw[mix_at (by rw[newT_len];omega)];exact ht
 have bl:=onceB_len c G i
 have bs:=onceB_succ c G i
 have lV:i<((newV c G).take i++G.values.drop i).length:=(List.getElem?_eq_some_iff.1 aV).1
 have lT:i<((newT c G).take i++G.timers.drop i).length:=(List.getElem?_eq_some_iff.1 aT).1
 unfold rsH
 rw[bs,<- mV,<- mT,hst3]
 clear mV mT hst hst2 hst3 bs
 have hfc:0<=firstC c∧firstC c<=100:=by unfold firstC;omega
 generalize (newV c G).take i++G.values.drop i=V1 at *
 generalize (newT c G).take i++G.timers.drop i=T1 at *
 generalize onceB c G i=B1 at *
 generalize evalE x.on (valuesOf G)=bon at *
 have aV2:=(List.getElem?_eq_some_iff.1 aV).2
 have aT2:=(List.getElem?_eq_some_iff.1 aT).2
 simp[hi,hx]
 intro b9
 refine V.drawX (fun q=>if q=56 then some (.ro (aB bon)) else if q=64 then some (.ro (aB false)) else if q=66 then some (.fn (aCh nv nt cf)) else none) (by kernel_rfl) (by kernel_rfl) (by simp) ?_
 simp[hk,hi,hx,aV,aT,lV,lT,rB,rI,aV2,aT2]
 refine⟨ron.lend (by simp[hget]) (by simp) ⟨rfl,rfl⟩,hrule,fun b10=>⟨by kernel_rfl,?_⟩⟩
 refine V.drawX (fun _=>none) (by kernel_rfl) (by kernel_rfl) (by simp) ?_
 simp[hk,hi,hx,aV,aT,lV,lT,rB,rI,aV2,aT2]
 refine⟨by kernel_rfl,?_⟩
 cases cf
 ·simp
  omega
 ·simp[rI]
  omega
theorem once_right {c:Control}{s:State}(h:rightC c s=0):rightC c (onceS c s)=0:=by
 obtain⟨z1,z2,z3⟩:=right_zero h
 have hf:=fine_of z1
 have hsh:=once_shape z2
 unfold fitsSt at z3
 rw[if_neg (by simpa using z2)]at z3
 split at z3
 ·cases z3
 ·rename_i hout
  have hz:=firstErr_zero z3
  simp only[Bool.or_eq_true,not_or,Bool.not_eq_true]at hout
  obtain⟨hlv,hlt⟩:s.values.length=c.signals.length∧s.timers.length=c.signals.length:=⟨z2.2.2.2.1,z2.2.2.2.2⟩
  have hstep:∀i,i<c.signals.length->∃x v t,c.signals[i]?=some x∧s.values[i]?=some v∧s.timers[i]?=some t∧(newV c s)[i]?=some (stepV x.kind v t (evalE x.on (valuesOf s)) (x.kind==1&&evalE x.off (valuesOf s))).1∧(newT c s)[i]?=some (stepV x.kind v t (evalE x.on (valuesOf s)) (x.kind==1&&evalE x.off (valuesOf s))).2.1:=by
   intro i hi
   have hx:c.signals[i]?=some c.signals[i]:=List.getElem?_eq_getElem (by omega)
   have hv:s.values[i]?=some s.values[i]:=List.getElem?_eq_getElem (by omega)
   have ht:s.timers[i]?=some s.timers[i]:=List.getElem?_eq_getElem (by omega)
   refine⟨_,_,_,hx,hv,ht,?_,?_⟩
   ·rw[newV_at hi,sigStep_at hx hv ht]
   ·rw[newT_at hi,sigStep_at hx hv ht]
  have hout2:(onceS c s).timers.any (outR 3)=false:=by
   rw[List.any_eq_false]
   intro t' ht'
   obtain⟨i,hi,e⟩:=List.getElem_of_mem ht'
   have hi2:i<c.signals.length:=by rw[show (onceS c s).timers=newT c s from rfl,newT_len]at hi;exact hi
   obtain⟨x,v,t,hx,hv,ht,h1,h2⟩:=hstep i hi2
   have h3:(onceS c s).timers[i]?=some t':=by rw[List.getElem?_eq_getElem hi,e]
   rw[show (onceS c s).timers=newT c s from rfl,h2]at h3
   have h4:=List.any_eq_false.1 hout.2 t (List.mem_of_getElem? ht)
   cases h3
   simp only[outR]at h4 ⊢
   unfold stepV
   split
   ·exact h4
   ·split
    ·split
     ·decide
     ·simp only
      split
      ·decide
      ·exact h4
    ·exact h4
  have e:fitsSt c (onceS c s)=firstErr (tsE c (onceS c s)) (List.range c.signals.length):=by
   unfold fitsSt
   rw[if_neg (by simpa using hsh),if_neg]
   ·rw[show (onceS c s).timers=newT c s from rfl,newT_len]
   ·rw[hout2]
    have:(onceS c s).ends.any (outR 4)=false:=hout.1
    rw[this]
    simp
  have hn:NoE (tsE c (onceS c s)) c.signals.length:=by
   intro i hi
   have h0:=hz i (by omega)
   obtain⟨x,v,t,hx,hv,ht,h1,h2⟩:=hstep i hi
   unfold tsE at h0 ⊢
   rw[hx,hv,ht]at h0
   rw[hx,show (onceS c s).values=newV c s from rfl,show (onceS c s).timers=newT c s from rfl,h1,h2]
   simp only at h0 ⊢
   unfold tstE at h0 ⊢
   by_cases hk:x.kind=2
   ·simp only[hk,ne_eq,not_true_eq_false,false_and,true_and,false_or]at h0 ⊢
    have h0':v=(t==2):=by
     by_cases hv2:v=(t==2)
     ·exact hv2
     ·rw[if_pos hv2]at h0
      exact absurd h0 (by decide)
    refine if_neg ?_
    rw[Classical.not_not]
    unfold stepV
    rw[if_neg (by decide),if_pos rfl]
    by_cases ho:evalE x.on (valuesOf s)=false
    ·rw[if_pos ho];rfl
    ·rw[if_neg ho]
     simp only
     by_cases ht0:t=0
     ·rw[if_pos ht0,h0',ht0];rfl
     ·rw[if_neg ht0,h0']
   ·simp only[hk,ne_eq,not_false_eq_true,true_and,false_and,or_false]at h0 ⊢
    refine if_neg ?_
    rw[Classical.not_not]
    have ht0:t=0:=by
     by_cases ht0:t=0
     ·exact ht0
     ·rw[if_pos ht0]at h0
      exact absurd h0 (by decide)
    unfold stepV
    split
    ·exact ht0
    ·exact ht0
  rw[rightC,if_neg (by simpa using z1),e]
  exact firstErr_all hn
theorem round_right {c:Control}{s:State}(h:rightC c s=0):rightC c (roundS c s)=0:=once_right (gates_right h)
theorem gates_at {c:Control}{s:State}(hsh:shapeS c s) (hr:roundS c s=s):gatesP c s=s:=by
 have hg:=gates_shape hsh
 have e:(gatesP c s).values=s.values:=by
  apply List.ext_getElem?
  intro i
  rcases Nat.lt_or_ge i c.signals.length with hi | hi
  ·have hx:c.signals[i]?=some c.signals[i]:=List.getElem?_eq_getElem hi
   by_cases hk:c.signals[i].kind=0
   ·have hl1:=hg.2.2.2.1
    have hl2:=hg.2.2.2.2
    have hv:(gatesP c s).values[i]?=some (gatesP c s).values[i]:=List.getElem?_eq_getElem (by omega)
    have ht:(gatesP c s).timers[i]?=some (gatesP c s).timers[i]:=List.getElem?_eq_getElem (by omega)
    have h1:s.values[i]?=(newV c (gatesP c s))[i]?:=by
     conv=>lhs;rw[<- hr]
     rfl
    rw[h1,newV_at hi,sigStep_at hx hv ht,hv,hk]
    rfl
   ·exact gates_keep (by simpa [kindAt,hx]using hk)
  ·rw[List.getElem?_eq_none (by rw[hg.2.2.2.1];exact hi),List.getElem?_eq_none (by rw[hsh.2.2.2.1];exact hi)]
 show { s with values:=gvals c s c.signals.length }=s
 have e2:gvals c s c.signals.length=s.values:=e
 rw[e2]
def actZ (c:Cir) (pos:List Int) (i:Nat) (t:List UInt8):Bool:=t != []&&decide ((statesZ c.parts (netsZ c) pos).getD (netW (netsZ c) ((i:Int),t)) 0=2)
def nxZ (c:Cir) (pos:List Int) (i:Nat):Nat×Bool:=nextK (kindOf c.parts i) (posN pos i) (actZ c pos i (plusK (kindOf c.parts i))) (actZ c pos i (minusK (kindOf c.parts i)))
def stepsZ (c:Cir) (pos:List Int) (n:Nat):List Int:=(List.range n).map fun i=>((nxZ c pos i).1:Int)
def badZ (c:Cir) (pos:List Int) (n:Nat):List Int:=((List.range n).filter fun i=>(nxZ c pos i).2).map fun i:Nat=>(i:Int)
theorem piloted:∀k,k<14->(plusK k≠[]->plusK k∈portsK k∧roleK k (plusK k)=some 3)∧(minusK k≠[]->minusK k∈portsK k∧roleK k (minusK k)=some 3):=by decide
theorem cyl_role (t:List UInt8):roleK 1 t≠some 3:=by
 intro h
 unfold roleK rolesK at h
 obtain⟨h1,h2,_⟩:=List.findIdx?_eq_some_iff_getElem.1 h
 simp at h2
theorem kindOf_14 {c:Cir}(hr:CirR c) (i:Nat):kindOf c.parts i<14:=by
 unfold kindOf
 cases hp:c.parts[i]? with
 | none=>simp
 | some p=>
  have:=part_kind (hr.part p (List.mem_of_getElem? hp))
  simp only
  omega
theorem pilot_gate {c:Cir}{s:State}(h:PgI c s) {i:Nat}{t:List UInt8}(hi:i<c.parts.length) (ht:t∈portsK (kindOf c.parts i)) (hrl:roleK (kindOf c.parts i) t=some 3) (hdn:drivenZ (planZ c).drives i=none) (ht0:t≠[]) :
  evalE ((planZ c).gate i t) (valuesOf (gatesP (planZ c).ctl s))=actZ c ((planZ c).pos s) i t:=by
 obtain⟨l,hl,hml⟩:=netW_some h.right (port_of hi ht)
 have hkl:=(List.getElem?_eq_some_iff.1 hl).1
 have hc:countsI c.parts (netsZ c) (netW (netsZ c) ((i:Int),t))=true:=by
  unfold countsI
  rw[net_getD hl]
  unfold countsZ
  rcases l with _ | ⟨a,_ | ⟨b,l⟩⟩
  ·cases hml
  ·rw[List.mem_singleton]at hml
   subst hml
   simp[hrl]
  ·simp
 obtain⟨m,hm,hme⟩:=List.getElem_of_mem (h.full _ hkl hc)
 have hom:(planZ c).order[m]?=some (netW (netsZ c) ((i:Int),t)):=by rw[List.getElem?_eq_getElem hm,hme]
 have hnb:¬Btw (planZ c).drives ((netsZ c).getD (netW (netsZ c) ((i:Int),t)) []):=fun hb=>by
  rw[net_getD hl]at hb
  obtain⟨e,he,hxe⟩:=btw_two h.drv hb hml
  obtain⟨k1,k2,k3⟩:=drives_kind h.drv he
  rcases hxe with a | a
  ·have a:(i:Int)=e.1:=a
   have:i=e.1:=by omega
   rw[this,k1]at hrl
   exact cyl_role t hrl
  ·have a:(i:Int)=e.2:=a
   have:i=e.2:=by omega
   rw[this]at hdn
   rw[hdn]at k3
   cases k3
 unfold actZ
 rw[Bool.eq_iff_iff,gate_eval,Bool.and_eq_true,decide_eq_true_eq,states_prs h.right (pos_two h)]
 constructor
 ·rintro⟨q,hq,hv⟩
  exact⟨by simpa using ht0,((gate_prs h hq).1 hv).1⟩
 ·rintro⟨_,hp⟩
  exact⟨m,hom,(gate_prs h hom).2 ⟨hp,hnb⟩⟩
structure RdI (c:Cir) (s:State):Prop where
 pg:PgI c s
 sig:∃X:List Signal,(planZ c).ctl.signals=(planZ c).order.map (planZ c).netS++(planZ c).valv.map (planZ c).movS++X∧∀x∈X,x.kind=0
 shape:shapeS (planZ c).ctl s
theorem RdI.of {c:Cir}(hb:buildE c=0) {s:State}(hR:rightC (planZ c).ctl s=0):RdI c s:=by
 obtain⟨X,h1,h2⟩:=pil_kind (planZ c) (planZ c).drives.length
 exact⟨PgI.of hb hR,⟨X,h1,h2⟩,(right_zero hR).2.1⟩
theorem mov_at {c:Cir}{s:State}(h:RdI c s) {i:Nat}(hm:i∈(planZ c).valv):(planZ c).ctl.signals[(planZ c).order.length+(planZ c).valv.idxOf i]?=some ((planZ c).movS i):=by
 obtain⟨X,h1,_⟩:=h.sig
 have hil:=List.idxOf_lt_length_of_mem hm
 rw[h1,List.getElem?_append_left (by simp;omega),List.getElem?_append_right (by simp),List.getElem?_map]
 simp only[List.length_map,Nat.add_sub_cancel_left]
 rw[List.getElem?_eq_getElem hil,List.getElem_idxOf]
 rfl
theorem round_mov {c:Cir}{s:State}(h:RdI c s) {i:Nat}(hm:i∈(planZ c).valv) :
  ∃t,sigStep (planZ c).ctl (gatesP (planZ c).ctl s) (valuesOf (gatesP (planZ c).ctl s)) ((planZ c).order.length+(planZ c).valv.idxOf i)=stepV ((planZ c).movS i).kind ((planZ c).posB s i) t (evalE ((planZ c).movS i).on (valuesOf (gatesP (planZ c).ctl s))) (((planZ c).movS i).kind==1&&evalE ((planZ c).movS i).off (valuesOf (gatesP (planZ c).ctl s))) ∧
   (planZ c).posB (roundS (planZ c).ctl s) i=(sigStep (planZ c).ctl (gatesP (planZ c).ctl s) (valuesOf (gatesP (planZ c).ctl s)) ((planZ c).order.length+(planZ c).valv.idxOf i)).1:=by
 have hx:=mov_at h hm
 obtain⟨hql,_⟩:=List.getElem?_eq_some_iff.1 hx
 have hgs:=gates_shape h.shape
 obtain⟨g1,g2,g3,g4,g5⟩:=id h.shape
 obtain⟨k1,k2,k3,k4,k5⟩:=id hgs
 have hact:(planZ c).ctl.actuators=(planZ c).drives.length:=rfl
 have hinp:(planZ c).ctl.inputs.length=(planZ c).butt.length:=by
  show ((planZ c).butt.map _).length=_
  rw[List.length_map]
 obtain⟨v1,v2,v3⟩:=vals_at (s:=s) (nd:=(planZ c).drives.length) (nb:=(planZ c).butt.length) (by omega) (by omega)
 obtain⟨w1,w2,w3⟩:=vals_at (s:=roundS (planZ c).ctl s) (nd:=(planZ c).drives.length) (nb:=(planZ c).butt.length) (by show s.ends.length=_;omega) (by show s.inputs.length=_;omega)
 have hfst:(planZ c).first=2*(planZ c).drives.length+(planZ c).butt.length:=rfl
 have hdn:=(mem_valvN.1 hm).2.2
 have hln:=valv_line hm
 have hdn:drivenZ (planZ c).drives i=none:=hdn
 have hB:∀st:State,(planZ c).posB st i=(valuesOf st).getD ((planZ c).first+(planZ c).order.length+(planZ c).valv.idxOf i) false:=fun st=>by
  unfold Pln.posB
  rw[hdn,hln]
  simp only
  rw[List.getD_eq_getElem?_getD]
 have e1:(planZ c).posB s i=(s.values[(planZ c).order.length+(planZ c).valv.idxOf i]?).getD false:=by
  rw[hB,List.getD_eq_getElem?_getD,hfst,show 2*(planZ c).drives.length+(planZ c).butt.length+(planZ c).order.length+(planZ c).valv.idxOf i=2*(planZ c).drives.length+(planZ c).butt.length+((planZ c).order.length+(planZ c).valv.idxOf i) by omega,v3]
 have e2:(planZ c).posB (roundS (planZ c).ctl s) i=((roundS (planZ c).ctl s).values[(planZ c).order.length+(planZ c).valv.idxOf i]?).getD false:=by
  rw[hB,List.getD_eq_getElem?_getD,hfst,show 2*(planZ c).drives.length+(planZ c).butt.length+(planZ c).order.length+(planZ c).valv.idxOf i=2*(planZ c).drives.length+(planZ c).butt.length+((planZ c).order.length+(planZ c).valv.idxOf i) by omega,w3]
 have hgv:=gates_keep (c:=(planZ c).ctl) (s:=s) (valv_kind hm)
 have hsv:s.values[(planZ c).order.length+(planZ c).valv.idxOf i]?=some ((planZ c).posB s i):=by
  rw[e1,List.getElem?_eq_getElem (by omega)]
  rfl
 rw[hsv]at hgv
 obtain⟨t,ht⟩:∃t,(gatesP (planZ c).ctl s).timers[(planZ c).order.length+(planZ c).valv.idxOf i]?=some t:=⟨_,List.getElem?_eq_getElem (by omega)⟩
 refine⟨t,sigStep_at hx hgv ht,?_⟩
 rw[e2]
 show ((newV (planZ c).ctl (gatesP (planZ c).ctl s))[_]?).getD false=_
 rw[newV_at hql]
 rfl
theorem round_same {c:Cir}{s:State}(h:RdI c s) {i:Nat}(hi:i<c.parts.length) (hm:i∉(planZ c).valv):(planZ c).posB (roundS (planZ c).ctl s) i=(planZ c).posB s i:=by
 obtain⟨g1,g2,g3,g4,g5⟩:=id h.shape
 have hact:(planZ c).ctl.actuators=(planZ c).drives.length:=rfl
 have hinp:(planZ c).ctl.inputs.length=(planZ c).butt.length:=by
  show ((planZ c).butt.map _).length=_
  rw[List.length_map]
 obtain⟨v1,v2,v3⟩:=vals_at (s:=s) (nd:=(planZ c).drives.length) (nb:=(planZ c).butt.length) (by omega) (by omega)
 obtain⟨w1,w2,w3⟩:=vals_at (s:=roundS (planZ c).ctl s) (nd:=(planZ c).drives.length) (nb:=(planZ c).butt.length) (by show s.ends.length=_;omega) (by show s.inputs.length=_;omega)
 unfold Pln.posB
 cases hz:drivenZ (planZ c).drives i with
 | some k=>rfl
 | none=>
  simp only
  cases hn:(planZ c).line i with
  | none=>rfl
  | some n=>
   simp only
   rcases line_cases (planZ_lim h.pg.right) hn with⟨_,hb,hne⟩|⟨_,hne⟩|⟨_,_,hv,_⟩
   ·have hil:=List.idxOf_lt_length_of_mem hb
    rw[hne,v2 _ (by omega),w2 _ (by omega)]
    rfl
   ·rw[v1 n hne,w1 n hne]
    rfl
   ·exact absurd hv hm
theorem stepC_same {c:Cir}{s:State}(h:RdI c s) {i:Nat}(hi:i<c.parts.length) (hdn:drivenZ (planZ c).drives i=none) (hpl:plusK (kindOf c.parts i)≠[]) (h12:kindOf c.parts i≠12) :
  numB ((planZ c).posB (roundS (planZ c).ctl s) i)=((nxZ c ((planZ c).pos s) i).1:Int)∧(sigStep (planZ c).ctl (gatesP (planZ c).ctl s) (valuesOf (gatesP (planZ c).ctl s)) ((planZ c).order.length+(planZ c).valv.idxOf i)).2.2=(nxZ c ((planZ c).pos s) i).2:=by
 have hm:i∈(planZ c).valv:=mem_valvN.2 ⟨hi,hpl,hdn⟩
 obtain⟨t,h1,h2⟩:=round_mov h hm
 have hk14:=kindOf_14 h.pg.right i
 obtain⟨q1,q2⟩:=piloted _ hk14
 have hps:(planZ c).ps=c.parts:=rfl
 have hk1:((planZ c).movS i).kind=1:=by unfold Pln.movS;rw[hps];simp only;rw[if_neg h12]
 have hon:((planZ c).movS i).on=(planZ c).gate i (plusK (kindOf c.parts i)):=rfl
 have hoff:((planZ c).movS i).off=if minusK (kindOf c.parts i)≠[] then (planZ c).gate i (minusK (kindOf c.parts i)) else notE ((planZ c).gate i (plusK (kindOf c.parts i))):=by
  unfold Pln.movS;rw[hps];simp only;rw[if_neg h12]
 have hpn:=posN_at (p:=planZ c) (s:=s) (i:=i) hi
 have e1:=pilot_gate h.pg hi (q1 hpl).1 (q1 hpl).2 hdn hpl
 rw[h2,h1,hk1,hon,hoff]
 unfold nxZ nextK
 rw[if_neg hpl,hpn]
 by_cases hmn:minusK (kindOf c.parts i)=[]
 ·rw[if_neg (by simp[hmn]),if_pos hmn]
  have e3:evalE (notE ((planZ c).gate i (plusK (kindOf c.parts i)))) (valuesOf (gatesP (planZ c).ctl s)) = !evalE ((planZ c).gate i (plusK (kindOf c.parts i))) (valuesOf (gatesP (planZ c).ctl s)):=by
   simp only[notE,evalE,evalL]
   cases evalE ((planZ c).gate i (plusK (kindOf c.parts i))) (valuesOf (gatesP (planZ c).ctl s))<;>rfl
  rw[e3,e1]
  generalize actZ c ((planZ c).pos s) i (plusK (kindOf c.parts i))=a
  generalize (planZ c).posB s i=b
  cases a<;>cases b<;>simp[stepV,numB]
 ·have e2:=pilot_gate h.pg hi (q2 hmn).1 (q2 hmn).2 hdn hmn
  rw[if_pos hmn,if_neg hmn,e1,e2]
  generalize actZ c ((planZ c).pos s) i (plusK (kindOf c.parts i))=a
  generalize actZ c ((planZ c).pos s) i (minusK (kindOf c.parts i))=b
  generalize (planZ c).posB s i=d
  cases a<;>cases b<;>cases d<;>simp[stepV,numB]
theorem stepsZ_succ (c:Cir) (pos:List Int) (n:Nat):stepsZ c pos (n+1)=stepsZ c pos n++[((nxZ c pos n).1:Int)]:=by
 unfold stepsZ
 rw[List.range_succ,List.map_append]
 rfl
theorem badZ_succ (c:Cir) (pos:List Int) (n:Nat):badZ c pos (n+1)=badZ c pos n++if (nxZ c pos n).2=true then [(n:Int)] else []:=by
 unfold badZ
 rw[List.range_succ,List.filter_append,List.map_append]
 congr 1
 cases e:(nxZ c pos n).2<;>simp[e]
theorem stepsZ_len (c:Cir) (pos:List Int) (n:Nat):(stepsZ c pos n).length=n:=by simp[stepsZ]
theorem badZ_len (c:Cir) (pos:List Int) (n:Nat):(badZ c pos n).length<=n:=by
 unfold badZ
 rw[List.length_map]
 exact Nat.le_trans (List.length_filter_le _ _) (by simp)
abbrev skB (s:PuS) (st:List Int) (b6 b2:Nat):Heap:=[(6,.box b6 [aIs st]),(170,.box b2 [.ptr 171 s.b 0]),(171,.box s.b [.dat (.sl (s.ps.map encPa)),.dat (.sl (s.l.map encPi)),aI s.ns.length,.map 172 s.m]),(172,.mapK s.m false s.E)]
abbrev skE (pos:List Int) (b6 b2:Nat):List (Nat×A):=[(1,aIs pos),(2,.ptr 170 b2 0),(4,.nils),(5,.nils),(6,.ptr 6 b6 0),(7,.nils),(8,.nils)]
abbrev skM (s:PuS):Heap:=[(171,.box s.b [.dat (.sl (s.ps.map encPa)),.dat (.sl (s.l.map encPi)),aI s.ns.length,.map 172 s.m]),(172,.mapK s.m false s.E)]
abbrev skK (s:PuS) (c:Cir) (pos:List Int) (r:A) (H':Heap):Prop:=∃g g',r=.tuple [.own 71 g,.own 72 g']∧subP ([(71,.seq g 3 1 ((stepsZ c pos c.parts.length).map rI)),(72,.seq g' 3 1 ((badZ c pos c.parts.length).map rI))]++skM s) H'
theorem step_a {s:PuS}{c:Cir}{pos:List Int}(h:s.Of c pos) {st:List Int}(hse:st=statesZ s.ps s.ns pos) (hst:st.length=s.ns.length) (b6 b2:Nat) :
  V ⟨Tryz.prog,none,69⟩ (restC Tryz.f65 3) (hdE (skE pos b6 b2) []) (skB s st b6 b2) (RetV Tryz.prog [.tmp 4,.tmp 5] (skK s c pos)):=by
 have hfew:=h.ok.few
 have hpl:=h.pos.1
 have hpp:=h.pos
 have hok:=h.ok
 have hps:=h.ps
 have hns:=h.ns
 have hnx:∀i,nxZ c pos i=nextK (kindOf s.ps i) (posN pos i) (plusK (kindOf s.ps i) != []&&decide (st.getD (netW s.ns ((i:Int),plusK (kindOf s.ps i))) 0=2)) (minusK (kindOf s.ps i) != []&&decide (st.getD (netW s.ns ((i:Int),minusK (kindOf s.ps i))) 0=2)):=fun i=>by
  unfold nxZ actZ
  rw[hse,hps,hns]
 have hcl:c.parts.length=s.ps.length:=by rw[hps]
 unfold skK
 rw[hcl]
 refine V.rest rfl ?_
 refine V.of_vcN 1 ?_
 simp
 refine V.forI (σ:=Value×Value) s.ps.length [1,2,4,5,6,25,26] (by simp;exact rfl) (fun i q=>[(7,.own 71 q.1),(8,.own 72 q.2),(27,aI i)]) (fun i q=>(71,.seq q.1 3 1 ((stepsZ c pos i).map rI))::(72,.seq q.2 3 1 ((badZ c pos i).map rI))::skB s st b6 b2) (fun _ _=>True) (.slice none 0 0,.slice none 0 0) trivial (by simp) ⟨by simp;exact rfl,by simp[stepsZ,badZ]⟩ ?_ ?_
 ·rintro i ⟨g,g'⟩ hi -
  obtain⟨p,hpp2⟩:∃p,s.ps[i]=p:=⟨_,rfl⟩
  have hpo:s.ps[i]?=some p:=by rw[List.getElem?_eq_getElem hi,hpp2]
  obtain⟨q1,q2,q3⟩:=hpp.at hi
  obtain⟨hil,q4⟩:=List.getElem?_eq_some_iff.1 q1
  have hk:=kindOf_at hpo
  have hkn:=hok.kinds p (List.mem_of_getElem? hpo)
  have hk14:p.kind.toNat<14:=by omega
  obtain⟨w1,w2⟩:=piloted _ hk14
  have hpil:=Pilots_k p.kind.toNat hk14
  rw[show ((p.kind.toNat:Nat):Int)=p.kind from by omega]at hpil
  have c1:=fun b9=>step1_s hok hst (i:=i) (t:=plusK p.kind.toNat) (fun e=>port_of hi (by rw[hk];exact (w1 e).1)) b6 b2 b9
  have c2:=fun b9=>step1_s hok hst (i:=i) (t:=minusK p.kind.toNat) (fun e=>port_of hi (by rw[hk];exact (w2 e).1)) b6 b2 b9
  have hn:=hnx i
  rw[hk]at hn q2
  have hnk:=fun a b=>Next_k p.kind.toNat hk14 (posN pos i) q2 a b
  rw[show ((p.kind.toNat:Nat):Int)=p.kind from by omega]at hnk
  have hl1:=stepsZ_len c pos i
  have hl2:=badZ_len c pos i
  rw[stepsZ_succ,badZ_succ,hn]
  generalize (plusK p.kind.toNat != []&&decide (st.getD (netW s.ns ((i:Int),plusK p.kind.toNat)) 0=2))=a1 at *
  generalize (minusK p.kind.toNat != []&&decide (st.getD (netW s.ns ((i:Int),minusK p.kind.toNat)) 0=2))=a2 at *
  have hnk:=hnk a1 a2
  generalize nextK p.kind.toNat (posN pos i) a1 a2=nx at *
  obtain⟨n1,n2⟩:=nx
  simp only at hnk
  generalize plusK p.kind.toNat=pl at *
  generalize minusK p.kind.toNat=mn at *
  generalize stepsZ c pos i=S at *
  generalize badZ c pos i=B at *
  simp[hi,hpp2,hpo]
  intro b9 b10
  refine hpil.s ?_
  simp
  refine V.drawX (fun t=>if t=49 then some (.ro (aB a1)) else if t=52 then some (.ro (aB a2)) else if t=53 then some (.fn (.tuple [aI (n1:Nat),aB n2,aI 0])) else none) (by kernel_rfl) (by kernel_rfl) (by simp) ?_
  simp[hil,q1,q4]
  exact⟨c1 b9,c2 b9,hnk,fun u=>⟨by omega,fun e u1=>⟨by omega,⟨by omega,by omega⟩,u,u1,⟨rfl,rfl⟩,rfl,rfl,by rw[e];rfl⟩,fun e=>⟨⟨by omega,by omega⟩,u,g',⟨rfl,rfl⟩,rfl,rfl,e⟩⟩⟩
 ·rintro⟨g,g'⟩ -
  simp
  refine V.of_vc ?_
  simp
  exact⟨g,g',⟨rfl,rfl⟩,⟨_,List.Sublist.cons_cons _ (List.Sublist.cons_cons _ (List.Sublist.cons _ (List.Sublist.cons _ (List.Sublist.refl _)))),List.Perm.refl _⟩⟩
theorem step_s {s:PuS}{c:Cir}{pos:List Int}(h:s.Of c pos):CallS Tryz.prog 65 [.ptr 170 s.b 0,aIs pos] s.hp (skK s c pos):=by
 have hss:=statesD_s h
 have hsl:(statesZ s.ps s.ns pos).length=s.ns.length:=states_len _ _ _
 have ha:=fun b6 b2=>step_a h rfl hsl b6 b2
 generalize statesZ s.ps s.ns pos=st at *
 refine callS_cut 3 Tryz.func65 rfl Tryz.ntmps65 (rs:=[.tmp 4,.tmp 5]) rfl (by kernel_rfl) (by simp) (by kernel_rfl) ?_
 simp
 intro b2
 refine (hss.mid [(2,_)] []).mono ?_
 rintro r H' ⟨rfl,rfl⟩
 simp
 intro b6
 refine V.cutIN 0 (Hs:=skB s st b6 b2) (skE pos b6 b2) ?_ ?_ (ha b6 b2)
 ·intro p hp x v hv
  simp only[List.mem_cons,List.not_mem_nil,or_false]at hp
  rcases hp with rfl | rfl | rfl | rfl | rfl | rfl | rfl
  ·simpa using hv
  ·simpa [D]using hv
  ·simpa using hv
  ·simpa using hv
  ·simpa using hv
  ·simpa using hv
  ·simpa using hv
 ·intro x H0 hi
  have h1:Inv x ([(6,Ent.box b6 [aIs st]),(170,.box b2 [.ptr 170 s.b 0]),(171,.box s.b s.cells),(172,.mapK s.m false s.E)]++H0):=hi.ents (by simp)
  have h2:=Inv.swap (g:=170) (e:=.box b2 [.ptr 170 s.b 0]) (e':=.box b2 [.ptr 171 s.b 0]) rfl (box_sat (Ds_c D_tag Ds_i)) (fun _ h=>h) h1
  have h3:=Inv.swap (g:=171) (e:=.box s.b s.cells) (e':=.box s.b [.dat (.sl (s.ps.map encPa)),.dat (.sl (s.l.map encPi)),aI s.ns.length,.map 172 s.m]) rfl (box_sat (Ds_c D_i (Ds_c D_i (Ds_c D_i (Ds_c D_mtag Ds_i))))) (fun _ h=>h) h2
  exact h3
theorem stepD_s {s:PuS}{c:Cir}{pos:List Int}(h:s.Of c pos):CallS Tryz.prog 65 [.ptr 170 s.b 0,aIs pos] s.hp fun r H'=>r=.tuple [aIs (stepsZ c pos c.parts.length),aIs (badZ c pos c.parts.length)]∧H'=s.hp:=by
 have h1:=CallS.dropP (step_s h) (K':=fun r H'=>∃g g',r=.tuple [.own 71 g,.own 72 g']∧H'=[(71,.seq g 3 1 ((stepsZ c pos c.parts.length).map rI)),(72,.seq g' 3 1 ((badZ c pos c.parts.length).map rI))]++skM s) (fun _ _ ⟨g,g',h1,h2⟩=>⟨_,h2,g,g',h1,rfl⟩)
 refine CallS.res (CallS.frzKeep (K':=fun r H'=>r=.tuple [aIs (stepsZ c pos c.parts.length),aIs (badZ c pos c.parts.length)]∧H'=skM s) h1 ?_) ?_
 ·rintro r H' ⟨g,g',rfl,rfl⟩
  exact⟨[_,_],skM s,List.Perm.refl _,by simp[frz,frzs,hget],by simp[frz,frzs,hget],rfl⟩
 ·rintro r H' ⟨rfl,rfl⟩
  refine⟨_,s.hp,fun x H0 hi=>?_,fun _ _ h=>h,rfl,rfl⟩
  have h1:Inv x ([(170,Ent.box s.b [.dat (.sl (s.ps.map encPa)),.dat (.sl (s.l.map encPi)),aI s.ns.length,.map 172 s.m]),(171,.mapK s.m false s.E)]++H0):=hi.ents (by simp)
  exact Inv.swap (g:=170) (e:=.box s.b [.dat (.sl (s.ps.map encPa)),.dat (.sl (s.l.map encPi)),aI s.ns.length,.map 172 s.m]) (e':=.box s.b s.cells) rfl (box_sat (Ds_c D_i (Ds_c D_i (Ds_c D_i (Ds_c D_mtag Ds_i))))) (fun _ h=>h) h1
structure Agr (c:Cir) (p q:List Int):Prop where
 two:∀i,i<c.parts.length->posN p i<2
 free:∀i,i<c.parts.length->drivenZ (planZ c).drives i=none->posN p i=posN q i
theorem take_nb {c:Cir}(hr:CirR c) (hd:drvE c.parts (netsZ c)=0) {pos:List Int}{i:Nat}{y:PassP}{t:List UInt8}(hi:i<c.parts.length) (h2:posN pos i<2) (hy:y∈passK (kindOf c.parts i) (posN pos i)) (ht:t∈y.src) (hdn:drivenZ (planZ c).drives i=none) :
  ¬Btw (planZ c).drives ((netsZ c).getD (netW (netsZ c) ((i:Int),t)) []):=fun hb=>by
 obtain⟨b1,b2,b3,b4,b5,b6⟩:=pass_to hy
 obtain⟨l,hl,hml⟩:=netW_some hr (port_of (t:=t) hi (passK_src b6 h2 hy ht))
 rw[net_getD hl]at hb
 obtain⟨e,he,hxe⟩:=btw_two hd hb hml
 obtain⟨k1,k2,k3⟩:=drives_kind hd he
 rcases hxe with a | a
 ·have a:(i:Int)=e.1:=a
  have:i=e.1:=by omega
  rw[this]at b5
  exact b5 k1
 ·have a:(i:Int)=e.2:=a
  have:i=e.2:=by omega
  rw[this]at hdn
  rw[hdn]at k3
  cases k3
theorem give_b {c:Cir}(hr:CirR c) (hd:drvE c.parts (netsZ c)=0) {i:Nat}{t:List UInt8}(ht:t=[50]∨t=[52]) (hdn:(drivenZ (planZ c).drives i).isSome=true) :
  Btw (planZ c).drives ((netsZ c).getD (netW (netsZ c) ((i:Int),t)) []):=by
 obtain⟨q,hq⟩:=Option.isSome_iff_exists.1 hdn
 obtain⟨h1,h2,_⟩:=List.findIdx?_eq_some_iff_getElem.1 hq
 have hem:=List.getElem_mem h1
 obtain⟨_,k1,_,_,hbb⟩:=mem_drvN hd hem
 obtain⟨_,k2,_⟩:=drives_kind hd hem
 have he2:=eq_of_beq h2
 generalize (planZ c).drives[q]=e at *
 unfold drvB at hbb
 simp only[Bool.and_eq_true]at hbb
 have hpz:pairZ (netsZ c) e.1 e.2 t=true:=by
  rcases ht with e' | e'<;>rw[e']
  ·exact hbb.2.1
  ·exact hbb.2.2
 obtain⟨n,l2,f1,f2,f3,f4⟩:=pair_mem hpz
 rw[he2]at f4
 rw[netW_at f1 f4,net_getD f1]
 have hne:((e.1:Int),t)≠((i:Int),t):=fun e'=>by
  simp only[Prod.mk.injEq,and_true]at e'
  have:e.1=e.2:=by omega
  rw[this]at k1
  omega
 have hall:∀p∈l2,p.2=t:=fun p hp=>by
  by_cases e':p=((i:Int),t)
  ·rw[e']
  ·rw[two_mem f2 hp f4 f3 e' hne]
 exact⟨f2,fun p hp q hq=>by rw[hall p hp,hall q hq],e,hem,⟨_,f3,rfl⟩,_,f4,by simp only;omega⟩
theorem prs_free {c:Cir}(hr:CirR c) (hd:drvE c.parts (netsZ c)=0) {p q:List Int}(h:Agr c p q) {k:Nat}(hp:Prs c.parts (netsZ c) p k):¬Btw (planZ c).drives ((netsZ c).getD k [])->Prs c.parts (netsZ c) q k:=by
 induction hp with
 | sup i hi hk=>exact fun _=>.sup i hi hk
 | all i y hi hy ha hs ih=>
  intro hb
  cases hdn:drivenZ (planZ c).drives i with
  | some j=>exact absurd (give_b hr hd (pass_to hy).1 (by rw[hdn];rfl)) hb
  | none=>
   refine .all i y hi (by rw[<- h.free i hi hdn];exact hy) ha fun t ht=>ih t ht (take_nb hr hd hi (h.two i hi) hy ht hdn)
 | any i y t hi hy ht ha hs ih=>
  intro hb
  cases hdn:drivenZ (planZ c).drives i with
  | some j=>exact absurd (give_b hr hd (pass_to hy).1 (by rw[hdn];rfl)) hb
  | none=>exact .any i y t hi (by rw[<- h.free i hi hdn];exact hy) ht ha (ih (take_nb hr hd hi (h.two i hi) hy ht hdn))
theorem cyl_ports (t:List UInt8) (h:t∈portsK 1):t=[50]∨t=[52]:=by simpa [portsK]using h
theorem pilot_nb {c:Cir}(hr:CirR c) (hd:drvE c.parts (netsZ c)=0) {i:Nat}{t:List UInt8}(hi:i<c.parts.length) (ht:t∈portsK (kindOf c.parts i)) (hrl:roleK (kindOf c.parts i) t=some 3):¬Btw (planZ c).drives ((netsZ c).getD (netW (netsZ c) ((i:Int),t)) []):=fun hb=>by
 obtain⟨l,hl,hml⟩:=netW_some hr (port_of hi ht)
 rw[net_getD hl]at hb
 obtain⟨_,h2,e,he,⟨p,hp,hpe⟩,_⟩:=hb
 obtain⟨k1,_,_⟩:=drives_kind hd he
 have hpa:=(netsZ_net hr _ (List.mem_of_getElem? hl)).2.2 p hp
 obtain⟨j,x,hj,hx,hx1,hx2⟩:=mem_allN.1 hpa
 have hje:j=e.1:=by omega
 have hkx:=kindOf_at hx
 rw[hje,k1]at hkx
 rw[<- hkx]at hx2
 have hpt:p.2=t:=h2 p hp _ hml
 rw[hpt]at hx2
 have key:∀k,k<14->roleK k [50]≠some 3∧roleK k [52]≠some 3:=by decide
 have:=key _ (kindOf_14 hr i)
 rcases cyl_ports t hx2 with rfl | rfl
 ·exact this.1 hrl
 ·exact this.2 hrl
theorem Agr.symm {c:Cir}{p q:List Int}(h:Agr c p q) (hq:∀i,i<c.parts.length->posN q i<2):Agr c q p:=⟨hq,fun i hi hd=>(h.free i hi hd).symm⟩
theorem act_free {c:Cir}(hr:CirR c) (hd:drvE c.parts (netsZ c)=0) {p q:List Int}(h:Agr c p q) (hq:∀i,i<c.parts.length->posN q i<2) {i:Nat}{t:List UInt8}(hi:i<c.parts.length) (ht:t≠[]->t∈portsK (kindOf c.parts i)∧roleK (kindOf c.parts i) t=some 3) :
  actZ c p i t=actZ c q i t:=by
 unfold actZ
 by_cases e:t=[]
 ·rw[e];rfl
 ·obtain⟨h1,h2⟩:=ht e
  have hnb:=pilot_nb hr hd hi h1 h2
  have:((statesZ c.parts (netsZ c) p).getD (netW (netsZ c) ((i:Int),t)) 0=2)↔((statesZ c.parts (netsZ c) q).getD (netW (netsZ c) ((i:Int),t)) 0=2):=by
   rw[states_prs hr h.two,states_prs hr hq]
   exact⟨fun hp=>prs_free hr hd h hp hnb,fun hp=>prs_free hr hd (h.symm hq) hp hnb⟩
  rw[decide_eq_decide.2 this]
theorem acts_free {c:Cir}(hr:CirR c) (hd:drvE c.parts (netsZ c)=0) {p q:List Int}(h:Agr c p q) (hq:∀i,i<c.parts.length->posN q i<2) {i:Nat}(hi:i<c.parts.length) :
  actZ c p i (plusK (kindOf c.parts i))=actZ c q i (plusK (kindOf c.parts i))∧actZ c p i (minusK (kindOf c.parts i))=actZ c q i (minusK (kindOf c.parts i)):=by
 obtain⟨w1,w2⟩:=piloted _ (kindOf_14 hr i)
 exact⟨act_free hr hd h hq hi w1,act_free hr hd h hq hi w2⟩
theorem nextK_two {k n:Nat}{p m:Bool}(hn:n<2):(nextK k n p m).1<2:=by
 unfold nextK
 repeat' split
 all_goals simp
 all_goals exact hn
theorem stepsZ_at {c:Cir}{pos:List Int}{i:Nat}(hi:i<c.parts.length):posN (stepsZ c pos c.parts.length) i=(nxZ c pos i).1:=by
 unfold posN stepsZ
 rw[List.getD_eq_getElem?_getD,List.getElem?_map,List.getElem?_range hi]
 simp only[Option.map_some,Option.getD_some,Int.toNat_natCast]
theorem Agr.step {c:Cir}{s:State}(hI:RdI c s) {p:List Int}(h:Agr c p ((planZ c).pos s)) (h12:∀i,i<c.parts.length->kindOf c.parts i≠12):Agr c (stepsZ c p c.parts.length) ((planZ c).pos (roundS (planZ c).ctl s)):=by
 have hr:=hI.pg.right
 have hd:=hI.pg.drv
 have hq:=pos_two hI.pg
 refine⟨fun i hi=>by rw[stepsZ_at hi];exact nextK_two (h.two i hi),fun i hi hdn=>?_⟩
 rw[stepsZ_at hi,posN_at (p:=planZ c) hi]
 obtain⟨a1,a2⟩:=acts_free hr hd h hq hi
 have hnx:nxZ c p i=nxZ c ((planZ c).pos s) i:=by
  unfold nxZ
  rw[a1,a2,h.free i hi hdn]
 rw[hnx]
 by_cases hpl:plusK (kindOf c.parts i)=[]
 ·have hm:i∉(planZ c).valv:=fun hm=>(mem_valvN.1 hm).2.1 hpl
  rw[round_same hI hi hm]
  unfold nxZ nextK
  rw[if_pos hpl,posN_at (p:=planZ c) hi]
 ·have:=(stepC_same hI hi hdn hpl (h12 i hi)).1
  have e:(nxZ c ((planZ c).pos s) i).1=(numB ((planZ c).posB (roundS (planZ c).ctl s) i)).toNat:=by rw[this];simp
  rw[e]
  unfold numB
  split<;>rfl
def rndN (ct:Control) (s:State):Nat->State
 | 0=>s
 | n+1=>roundS ct (rndN ct s n)
def stpN (c:Cir) (p:List Int):Nat->List Int
 | 0=>p
 | n+1=>stepsZ c (stpN c p n) c.parts.length
theorem rnd_right {ct:Control}{s:State}(h:rightC ct s=0):∀n,rightC ct (rndN ct s n)=0
 | 0=>h
 | n+1=>round_right (rnd_right h n)
theorem agr_n {c:Cir}(hb:buildE c=0) {s:State}(hR:rightC (planZ c).ctl s=0) (h12:∀i,i<c.parts.length->kindOf c.parts i≠12):∀n,Agr c (stpN c ((planZ c).pos s) n) ((planZ c).pos (rndN (planZ c).ctl s n))
 | 0=>⟨pos_two (PgI.of hb hR),fun _ _ _=>rfl⟩
 | n+1=>(agr_n hb hR h12 n).step (RdI.of hb (rnd_right hR n)) h12
theorem stp_stay {c:Cir}{p:List Int}{N:Nat}(h:stepsZ c (stpN c p N) c.parts.length=stpN c p N):∀k,stpN c p (N+k)=stpN c p N
 | 0=>rfl
 | k+1=>by
  show stepsZ c (stpN c p (N+k)) c.parts.length=_
  rw[stp_stay h k,h]
theorem rnd_stay {ct:Control}{s:State}{N:Nat}(h:roundS ct (rndN ct s N)=rndN ct s N):∀k,rndN ct s (N+k)=rndN ct s N
 | 0=>rfl
 | k+1=>by
  show roundS ct (rndN ct s (N+k))=_
  rw[rnd_stay h k,h]
theorem rest_agr {c:Cir}(hb:buildE c=0) {s:State}(hR:rightC (planZ c).ctl s=0) (h12:∀i,i<c.parts.length->kindOf c.parts i≠12) {N M:Nat}(hl:stepsZ c (stpN c ((planZ c).pos s) N) c.parts.length=stpN c ((planZ c).pos s) N)
  (ht:roundS (planZ c).ctl (rndN (planZ c).ctl s M)=rndN (planZ c).ctl s M):Agr c (stpN c ((planZ c).pos s) N) ((planZ c).pos (rndN (planZ c).ctl s M)):=by
 have:=agr_n hb hR h12 (N+M)
 rw[stp_stay hl M]at this
 rw[show N+M=M+N by omega,rnd_stay ht N]at this
 exact this
theorem pilotD_gate {c:Cir}{s:State}(h:PgI c s) {i:Nat}{t:List UInt8}(hi:i<c.parts.length) (ht:t∈portsK (kindOf c.parts i)) (hrl:roleK (kindOf c.parts i) t=some 3) (ht0:t≠[]) :
  ∃m:Nat,m<(planZ c).order.length∧(planZ c).gate i t=varE ((planZ c).first+m:Nat)∧(valuesOf (gatesP (planZ c).ctl s)).getD ((planZ c).first+m) false=actZ c ((planZ c).pos s) i t:=by
 obtain⟨l,hl,hml⟩:=netW_some h.right (port_of hi ht)
 have hkl:=(List.getElem?_eq_some_iff.1 hl).1
 have hc:countsI c.parts (netsZ c) (netW (netsZ c) ((i:Int),t))=true:=by
  unfold countsI
  rw[net_getD hl]
  unfold countsZ
  rcases l with _ | ⟨a,_ | ⟨b,l⟩⟩
  ·cases hml
  ·rw[List.mem_singleton]at hml
   subst hml
   simp[hrl]
  ·simp
 obtain⟨m,hm,hme⟩:=List.getElem_of_mem (h.full _ hkl hc)
 have hom:(planZ c).order[m]?=some (netW (netsZ c) ((i:Int),t)):=by rw[List.getElem?_eq_getElem hm,hme]
 have hnb:=pilot_nb h.right h.drv hi ht hrl
 have hgt:(planZ c).gate i t=varE ((planZ c).first+m:Nat):=by
  unfold Pln.gate
  cases hf:(planZ c).order.findIdx? (netW (planZ c).nets ((i:Int),t)==·) with
  | some k=>
   obtain⟨h1,h2,_⟩:=List.findIdx?_eq_some_iff_getElem.1 hf
   have hk:(planZ c).order[k]?=some (netW (netsZ c) ((i:Int),t)):=by
    rw[List.getElem?_eq_getElem h1]
    exact congrArg some (eq_of_beq h2).symm
   rw[order_inj hk hom]
  | none=>
   have:=List.findIdx?_eq_none_iff.1 hf _ (List.mem_of_getElem? hom)
   exact absurd this (by simp[show (planZ c).nets=netsZ c from rfl])
 refine⟨m,hm,hgt,?_⟩
 unfold actZ
 rw[Bool.eq_iff_iff,gate_prs h hom,Bool.and_eq_true,decide_eq_true_eq,states_prs h.right (pos_two h)]
 constructor
 ·rintro⟨hp,_⟩
  exact⟨by simpa using ht0,hp⟩
 ·rintro⟨_,hp⟩
  exact⟨hp,hnb⟩
theorem pil_at (p:Pln):∀n,n<=p.drives.length->(p.pil n).1.length=n∧(p.pil n).2.1.length=n∧∀k d,k<n->p.drives[k]?=some d->(p.pil n).1[k]?=some (p.gate d.2 [49,52]).index ∧
  ((kindOf p.ps d.2=2∧(p.pil n).2.1[k]?=some (p.gate d.2 [49,50]).index)∨(kindOf p.ps d.2≠2∧∃q:Nat,(p.pil n).2.1[k]?=some ((p.first+q:Nat):Int)∧(p.pil n).2.2[q]?=some (p.sprS d.2)))
 | 0,_=>⟨rfl,rfl,fun k d hk=>absurd hk (Nat.not_lt_zero _)⟩
 | n+1,hn=>by
  obtain⟨h1,h2,h3⟩:=pil_at p n (by omega)
  obtain⟨e,he⟩:∃e,p.drives[n]?=some e:=⟨_,List.getElem?_eq_getElem (by omega)⟩
  rw[p.pil_succ he]
  generalize p.pil n=q at *
  obtain⟨q1,q2,q3⟩:=q
  simp only at h1 h2 h3
  unfold Pln.drvS
  simp only
  refine⟨by simp[h1],by simp[h2],fun k d hk hd=>?_⟩
  by_cases e':k=n
  ·subst e'
   rw[he]at hd
   cases hd
   refine⟨by rw[List.getElem?_append_right (by omega),h1];simp,?_⟩
   by_cases hk2:kindOf p.ps e.2=2
   ·exact .inl ⟨hk2,by rw[List.getElem?_append_right (by omega),h2];simp[hk2]⟩
   ·refine .inr ⟨hk2,q3.length,by rw[List.getElem?_append_right (by omega),h2];simp[hk2],?_⟩
    rw[if_neg hk2,List.getElem?_append_right (Nat.le_refl _)]
    simp
  ·obtain⟨a1,a2⟩:=h3 k d (by omega) hd
   refine⟨by rw[List.getElem?_append_left (by omega)];exact a1,?_⟩
   rcases a2 with⟨b1,b2⟩|⟨b1,r,b2,b3⟩
   ·exact .inl ⟨b1,by rw[List.getElem?_append_left (by omega)];exact b2⟩
   ·refine .inr ⟨b1,r,by rw[List.getElem?_append_left (by omega)];exact b2,?_⟩
    split
    ·exact b3
    ·rw[List.getElem?_append_left (List.getElem?_eq_some_iff.1 b3).1]
     exact b3
theorem rest_drive {c:Cir}(hb:buildE c=0) {s:State}(hR:rightC (planZ c).ctl s=0) (h12:∀i,i<c.parts.length->kindOf c.parts i≠12) {N M:Nat}(hl:stepsZ c (stpN c ((planZ c).pos s) N) c.parts.length=stpN c ((planZ c).pos s) N)
  (ht:roundS (planZ c).ctl (rndN (planZ c).ctl s M)=rndN (planZ c).ctl s M) {k:Nat}{d:Drv}(hd:(planZ c).drives[k]?=some d) :
  ∃a b:Int,(planZ c).ctl.plus[k]?=some a∧(planZ c).ctl.minus[k]?=some b∧0<=a∧a<countC (planZ c).ctl∧0<=b∧b<countC (planZ c).ctl ∧
   ((valuesOf (rndN (planZ c).ctl s M)).getD a.toNat false=true->(valuesOf (rndN (planZ c).ctl s M)).getD b.toNat false=false->posN (stpN c ((planZ c).pos s) N) d.2=1) ∧
   ((valuesOf (rndN (planZ c).ctl s M)).getD b.toNat false=true->(valuesOf (rndN (planZ c).ctl s M)).getD a.toNat false=false->posN (stpN c ((planZ c).pos s) N) d.2=0):=by
 have hagr:=rest_agr hb hR h12 hl ht
 have hRt:=rnd_right hR M
 obtain⟨hr,hdv,hch,_,_⟩:=build_zero hb
 have hfi:=fine_of hch
 have hpg:=PgI.of hb hRt
 have hsh:=(right_zero hRt).2.1
 have hga:=gates_at hsh ht
 have hem:=List.mem_of_getElem? hd
 obtain⟨_,_,_,q2,hbb⟩:=mem_drvN hdv hem
 have k2:=drvB_kind hbb
 have hkl:=(List.getElem?_eq_some_iff.1 hd).1
 obtain⟨_,_,hpil⟩:=pil_at (planZ c) (planZ c).drives.length (Nat.le_refl _)
 obtain⟨p1,p2⟩:=hpil k d hkl hd
 have hps:(planZ c).ps=c.parts:=rfl
 rw[hps]at p2
 obtain⟨acts1,acts2⟩:=acts_free hr hdv hagr (pos_two hpg) q2
 have hstep:posN (stpN c ((planZ c).pos s) N) d.2=(nxZ c (stpN c ((planZ c).pos s) N) d.2).1:=by
  conv=>lhs;rw[<- hl]
  exact stepsZ_at q2
 unfold nxZ at hstep
 rw[acts1,acts2]at hstep
 have hplus:plusK (kindOf c.parts d.2)=[49,52]:=by rcases k2 with e | e<;>rw[e]<;>rfl
 obtain⟨m1,hm1,hg1,hv1⟩:=pilotD_gate hpg (i:=d.2) (t:=[49,52]) q2 (by rcases k2 with e | e<;>rw[e]<;>decide) (by rcases k2 with e | e<;>rw[e]<;>decide) (by simp)
 rw[hga]at hv1
 rw[hplus]at hstep
 have hsig:=(pil_sig (planZ_B hr) (planZ_D hdv)).2
 have hfst:(planZ c).first=2*(planZ c).drives.length+(planZ c).butt.length:=rfl
 have hact:(planZ c).ctl.actuators=(planZ c).drives.length:=rfl
 have hinp:(planZ c).ctl.inputs.length=(planZ c).butt.length:=by
  show ((planZ c).butt.map _).length=_
  rw[List.length_map]
 have hcn:countC (planZ c).ctl=2*(planZ c).ctl.actuators+(planZ c).ctl.inputs.length+(planZ c).ctl.signals.length:=rfl
 have hp1:(planZ c).ctl.plus[k]?=some (((planZ c).first+m1:Nat):Int):=by
  have:(planZ c).ctl.plus=((planZ c).pil (planZ c).drives.length).1:=rfl
  rw[this,p1,hg1]
  rfl
 rcases p2 with⟨e2,p2⟩|⟨e2,r,p2,p3⟩
 ·obtain⟨m2,hm2,hg2,hv2⟩:=pilotD_gate hpg (i:=d.2) (t:=[49,50]) q2 (by rw[e2];decide) (by rw[e2];decide) (by simp)
  rw[hga]at hv2
  have hp2:(planZ c).ctl.minus[k]?=some (((planZ c).first+m2:Nat):Int):=by
   have:(planZ c).ctl.minus=((planZ c).pil (planZ c).drives.length).2.1:=rfl
   rw[this,p2,hg2]
   rfl
  refine⟨_,_,hp1,hp2,by omega,by omega,by omega,by omega,?_⟩
  rw[Int.toNat_natCast,Int.toNat_natCast,hv1,hv2]
  have hmin:minusK (kindOf c.parts d.2)=[49,50]:=by rw[e2];rfl
  rw[hmin]at hstep
  generalize actZ c ((planZ c).pos (rndN (planZ c).ctl s M)) d.2 [49,52]=u at *
  generalize actZ c ((planZ c).pos (rndN (planZ c).ctl s M)) d.2 [49,50]=w at *
  rw[hstep,e2]
  constructor
  ·rintro rfl rfl;rfl
  ·rintro rfl rfl;rfl
 ·have e3:kindOf c.parts d.2=3:=by omega
  have hsl:=(List.getElem?_eq_some_iff.1 p3).1
  have hsl2:r<(planZ c).ctl.signals.length:=hsl
  have hp2:(planZ c).ctl.minus[k]?=some (((planZ c).first+r:Nat):Int):=p2
  have hx:(planZ c).ctl.signals[r]?=some ((planZ c).sprS d.2):=p3
  have hgg:=gates_gate hfi hsh hx rfl
  rw[hga]at hgg
  have hvr:(valuesOf (rndN (planZ c).ctl s M)).getD ((planZ c).first+r) false = !actZ c ((planZ c).pos (rndN (planZ c).ctl s M)) d.2 [49,52]:=by
   obtain⟨g1,g2,g3,g4,g5⟩:=id hsh
   obtain⟨_,_,w3⟩:=vals_at (s:=rndN (planZ c).ctl s M) (nd:=(planZ c).drives.length) (nb:=(planZ c).butt.length) (by omega) (by omega)
   rw[List.getD_eq_getElem?_getD,hfst,w3,hgg]
   simp only[Option.getD_some,Pln.sprS]
   rw[hg1]
   simp only[notE,varE,evalE,evalL,Int.toNat_natCast]
   rw[hv1]
   cases actZ c ((planZ c).pos (rndN (planZ c).ctl s M)) d.2 [49,52]<;>rfl
  refine⟨_,_,hp1,hp2,by omega,by omega,by omega,by omega,?_⟩
  rw[Int.toNat_natCast,Int.toNat_natCast,hv1,hvr]
  have hmin:minusK (kindOf c.parts d.2)=[]:=by rw[e3];rfl
  rw[hmin]at hstep
  generalize actZ c ((planZ c).pos (rndN (planZ c).ctl s M)) d.2 [49,52]=u at *
  generalize actZ c ((planZ c).pos (rndN (planZ c).ctl s M)) d.2 []=w at *
  rw[hstep,e3]
  constructor
  ·rintro rfl _;rfl
  ·intro h1 h2
   rw[h2]
   rfl
end Go.Proofs.YtafamcbdaeppoaaGreatDoor
