/- Texts joined by a program: Sb,Sc,Vba,Om,On,Sd. -/
import Derived.Test.YtpadinblmjlggaaGreatDoorW29
import Derived.Test.YtpadinblmjlggaaGreatDoorW11
import Derived.Test.YtpadinblmjlggaaGreatDoorW26
import Derived.Test.YtpadinblmjlggaaGreatDoorW28
set_option linter.unusedSimpArgs false
set_option linter.unusedVariables false
set_option maxHeartbeats 8000000
set_option maxRecDepth 10000
namespace Go.Proofs.YtpadinblmjlggaaGreatDoor
abbrev mcA (c:Control) (g:Nat->Value):List A:=[.dat (.int .i64 c.actuators),.dat (.sl (c.inputs.map encT)),.dat (.sl (c.signals.map encS)),.dat (.sl (c.plus.map encI)),.dat (.sl (c.minus.map encI)),.own 60 (g 0),.own 61 (g 1),.own 62 (g 2),.own 63 (g 3),.own 64 (g 4),aI (firstC c)]
abbrev mcH (bm:Nat) (c:Control) (g:Nat->Value) (s:State):Heap:=[(70,.box bm (mcA c g)),(60,.seq (g 0) 3 1 (s.ends.map rI)),(61,.seq (g 1) 4 1 (s.valves.map rB)),(62,.seq (g 2) 4 1 (s.inputs.map rB)),(63,.seq (g 3) 4 1 (s.values.map rB)),(64,.seq (g 4) 3 1 (s.timers.map rI))]
theorem lines_s {bm:Nat}{c:Control}{g:Nat->Value}{s:State}(hs:SmS s) (τ:Nat) {H:Heap}{K:A->Heap->Prop}(hH:∃R,H=mcH bm c g s++R) (hk:∀hd,K (.own τ hd) ((τ,.seq hd 4 1 ((valuesOf s).map rB))::H)) :
  CallS Tryz.prog 135 [.ptr 70 bm 0] H K:=by
 obtain⟨R,rfl⟩:=hH
 refine (lines_d c s hs).lendP τ (cs:=mcA c g) ?_ ?_ ?_ ?_ hk
 ·simp[hget]
 ·simp[hget,encC,encSt]
 ·simp
 ·intro h;simp
theorem copied_st (s:State) (h:SmS s):CallSt 133 [aSt s] s:=by
 obtain⟨h1,h2,h3,h4,h5⟩:=h
 refine CallSt.of (callS_of Tryz.func133 rfl Tryz.ntmps133 (rs:=[.cell 2 31]) rfl (by kernel_rfl) (by simp) (by kernel_rfl) ?_)
 simp
 intro b2
 refine V.draw (fun t=>if t=5 then some (.own 3 1 (s.ends.map rI)) else if t=8 then some (.own 4 1 (s.valves.map rB)) else if t=11 then some (.own 4 1 (s.inputs.map rB)) else if t=14 then some (.own 4 1 (s.values.map rB)) else if t=17 then some (.own 3 1 (s.timers.map rI)) else none) (by kernel_rfl) (by kernel_rfl) (by simp) ?_
 simp
 intro u0
 refine⟨cloneI_o s.ends (by omega),fun u1=>⟨cloneB_o s.valves (by omega),fun u2=>⟨cloneB_o s.inputs (by omega),fun u3=>⟨cloneB_o s.values (by omega),fun u4=>⟨cloneI_o s.timers (by omega),?_⟩⟩⟩⟩⟩
 simp[stAt,hget,hdel]
theorem CallSt.sts {g:FuncId}{az:List A}{s:State}(h:CallSt g az s):CallSts Tryz.prog g az [(3,1,s.ends.map rI),(4,1,s.valves.map rB),(4,1,s.inputs.map rB),(4,1,s.values.map rB),(3,1,s.timers.map rI)]:=by
 refine CallS.mono h ?_
 rintro r H' ⟨hh,rfl,rfl⟩
 exact⟨.agg #[hh 0,hh 1,hh 2,hh 3,hh 4],rfl,rfl⟩
theorem of_s (c:Control) (s:State) (hc:OkC c) (hs:SmS s):CallS Tryz.prog 82 [aC c,aSt s] [] fun r H'=>(rightC c s=0->∃bm g,r=.tuple [.ptr 70 bm 0,aI 0]∧H'=mcH bm c g s)∧(rightC c s≠0->r=.tuple [.nilp,aI (rightC c s)]∧H'=[]):=by
 have h:CallS Tryz.prog 82 [aC c,aSt s] [] fun r H'=>(rightC c s=0->∃bm u,r=.tuple [.ptr 24 bm 0,aI 0]∧subP ((24,.box bm ([.dat (.int .i64 c.actuators),.dat (.sl (c.inputs.map encT)),.dat (.sl (c.signals.map encS)),.dat (.sl (c.plus.map encI)),.dat (.sl (c.minus.map encI)),.own 100150 (uf u 0),.own 100151 (uf u 1),.own 100152 (uf u 2),.own 100153 (uf u 3),.own 100154 (uf u 4),aI (firstC c)]))::spreadL 100150 0 (hdrsL u 0 [(3,1,s.ends.map rI),(4,1,s.valves.map rB),(4,1,s.inputs.map rB),(4,1,s.values.map rB),(3,1,s.timers.map rI)])) H')∧(rightC c s≠0->r=.tuple [.nilp,aI (rightC c s)]):=by
  refine callS_of Tryz.func82 rfl Tryz.ntmps82 (rs:=[.tmp 4,.tmp 5]) rfl (by kernel_rfl) (by simp) (by kernel_rfl) ?_
  simp
  refine (Right_fn c s hc hs).s ?_
  simp
  by_cases hz:rightC c s=0
  ·obtain⟨z1,z2,z3⟩:=right_zero hz
   have hf:=fine_of z1
   have ha:=hf.act
   have hin:=hf.inp
   have hsg:=hf.sig
   simp[hz]
   refine V.drawS (fun t=>if t=15 then some (.sts [(3,1,s.ends.map rI),(4,1,s.valves.map rB),(4,1,s.inputs.map rB),(4,1,s.values.map rB),(3,1,s.timers.map rI)]) else none) (by kernel_rfl) (by kernel_rfl) (by simp) ?_
   simp
   exact fun u=>⟨(copied_st s hs).sts,by omega,by omega,fun b=>⟨fun _=>⟨u,subP.refl _⟩,hz⟩⟩
  ·simp[hz]
 have h2:=CallS.dropP (K':=fun r H'=>(rightC c s=0->∃bm u,r=.tuple [.ptr 24 bm 0,aI 0]∧H'=(24,Ent.box bm ([.dat (.int .i64 c.actuators),.dat (.sl (c.inputs.map encT)),.dat (.sl (c.signals.map encS)),.dat (.sl (c.plus.map encI)),.dat (.sl (c.minus.map encI)),.own 100150 (uf u 0),.own 100151 (uf u 1),.own 100152 (uf u 2),.own 100153 (uf u 3),.own 100154 (uf u 4),aI (firstC c)]))::spreadL 100150 0 (hdrsL u 0 [(3,1,s.ends.map rI),(4,1,s.valves.map rB),(4,1,s.inputs.map rB),(4,1,s.values.map rB),(3,1,s.timers.map rI)]))∧(rightC c s≠0->r=.tuple [.nilp,aI (rightC c s)]∧H'=[])) h (by
  rintro r H' ⟨k1,k2⟩
  by_cases hz:rightC c s=0
  ·obtain⟨bm,u,e1,e2⟩:=k1 hz
   exact⟨_,e2,fun _=>⟨bm,u,e1,rfl⟩,fun h=>absurd hz h⟩
  ·exact⟨[],⟨[],List.nil_sublist _,List.Perm.refl _⟩,fun h=>absurd h hz,fun _=>⟨k2 hz,rfl⟩⟩)
 refine⟨h2.1,fun x args H0 hi hd=>(h2.2 x args H0 hi hd).mono ?_⟩
 rintro _ _ ⟨y,v,r,H',rfl,rfl,hle,hi',hv,k1,k2⟩
 by_cases hz:rightC c s=0
 ·obtain⟨bm,u,rfl,rfl⟩:=k1 hz
  refine⟨y,v,.tuple [.ptr 70 bm 0,aI 0],mcH bm c (uf u) s,rfl,rfl,hle,?_,?_,fun _=>⟨bm,uf u,rfl,rfl⟩,fun h=>absurd hz h⟩
  ·have h3:=hi'.same (e':=.box bm (mcA c (uf u))) (fun _ h=>h) (by
    rintro⟨cs,ty,q1,q2⟩
    refine⟨cs,ty,q1,?_⟩
    generalize cs.toList=l at q2
    rcases l with _ | ⟨a0,_ | ⟨a1,_ | ⟨a2,_ | ⟨a3,_ | ⟨a4,_ | ⟨a5,_ | ⟨a6,_ | ⟨a7,_ | ⟨a8,_ | ⟨a9,_ | ⟨a10,l⟩⟩⟩⟩⟩⟩⟩⟩⟩⟩⟩<;>simp only[Ds,D]at q2 ⊢<;>exact q2)
   exact h3.ents (by simp)
  ·simp only[D]at hv ⊢
   obtain⟨vs,e,hds⟩:=hv
   refine⟨vs,e,?_⟩
   generalize vs.toList=l at hds
   rcases l with _ | ⟨a0,_ | ⟨a1,l⟩⟩<;>simp only[Ds,D]at hds ⊢<;>exact hds
 ·obtain⟨rfl,rfl⟩:=k2 hz
  exact⟨y,v,_,[],rfl,rfl,hle,hi',hv,fun h=>absurd h hz,fun _=>⟨rfl,rfl⟩⟩
theorem mgates_s {bm:Nat}{c:Control}{g:Nat->Value}{s:State}(hc:OkC c) (hf:Fine c) (hsh:shapeS c s):CallS Tryz.prog 134 [.ptr 70 bm 0] (mcH bm c g s) fun _ H'=>H'=mcH bm c g (gatesP c s):=by
 have hsm:=sm_of hf hsh
 have ha:=hf.act
 have hin:=hf.inp
 have hsg:=hf.sig
 have hpl:=preV_length hsh
 refine CallS.dropP (callS_of Tryz.func134 rfl Tryz.ntmps134 (rs:=[]) rfl (by kernel_rfl) (by simp) (by kernel_rfl) (K:=fun _ H'=>subP (mcH bm c g (gatesP c s)) H') ?_) (fun _ _ h=>⟨_,h,rfl⟩)
 simp[mcH]
 refine lines_s (bm:=bm) (c:=c) (g:=g) (s:=s) hsm 71 ⟨[],by simp⟩ fun h2=>?_
 simp
 refine V.forI (σ:=Unit) c.signals.length [0,2,12,13] (by simp;exact rfl) (fun i _=>[(14,aI i)]) (fun i _=>[(63,.seq (g 3) 4 1 ((gvals c s i).map rB)),(71,.seq h2 4 1 ((preV s++gvals c s i).map rB))]) (fun _ _=>True) () trivial (by simp) ⟨by simp;exact rfl,by simp[gvals,hget,hdel,valuesOf_eq]⟩ ?_ ?_
 ·rintro i-hi -
  obtain⟨x,hx⟩:∃x,c.signals[i]=x:=⟨_,rfl⟩
  have hxo:c.signals[i]?=some x:=by rw[List.getElem?_eq_getElem hi,hx]
  have hgl:=gvals_length c s i
  obtain⟨hon,-⟩:=hf.on hxo
  obtain⟨r1,r2,r3⟩:=right_of_check hon
  rw[gvals_at hxo]
  generalize gvals c s i=l at hgl ⊢
  have hil:i<l.length:=by obtain⟨_,_,_,h4,_⟩:=hsh;omega
  have hgi:l[i]?=some l[i]:=List.getElem?_eq_getElem hil
  have hl':((preV s++l).length:Int)=countC c:=by
   have:=valuesOf_length (c:=c) (s:={ s with values:=l }) ⟨hsh.1,hsh.2.1,hsh.2.2.1,hgl.trans hsh.2.2.2.1,hsh.2.2.2.2⟩
   exact this
  simp[hi,hx]
  intro b4
  by_cases hk:x.kind=0
  ·simp[hi,hx,hk]
   have ev:=value_fn (SizeOf.sizeOf x.on+1) x.on (by omega) (hc.sigs x (List.mem_of_getElem? hxo)).on (preV s++l) (by omega) (by rw[hl'];exact r1)
   refine ev.lend (by simp[hget,packA,encE_eq]) (by simp) ?_
   rw[valuesOf_with]
   generalize evalE x.on (preV s++l)=b
   simp
   have hpl2:(preV s).length<=10000000:=by unfold firstC at hpl;omega
   have ht:(((preV s).length:Int)+i).toNat=(preV s).length+i:=by omega
   have hA:(List.map rB (preV s)++List.map rB l)[(preV s).length+i]?=some [A.dat (L.bool l[i])]:=by
    rw[List.getElem?_append_right (by simp)]
    simp[hgi,rB,hil]
   have hS:∀r,(List.map rB (preV s)++List.map rB l).set ((preV s).length+i) r=List.map rB (preV s)++(List.map rB l).set i r:=by
    intro r
    rw[List.set_append_right _ _ (by simp)]
    simp
   refine V.draw (fun _=>none) (by kernel_rfl) (by kernel_rfl) (by simp) ?_
   simp[mcA,<- hpl,hi,hx,hk,hgi,hil,rB,ht,hA,hS]
   omega
  ·simp[hi,hx,hk]
   omega
 ·rintro - -
  simp
  exact⟨_,List.Sublist.cons_cons _ (List.Sublist.cons _ (List.Sublist.refl _)),(List.perm_middle (l₁:=[_,_,_,_]) (l₂:=[_]) (a:=_)).symm⟩
theorem set_mix {α:Type}{A B:List α}{i:Nat}{a:α}(ha:A[i]?=some a) (hl:A.length=B.length):(A.take i++B.drop i).set i a=A.take (i+1)++B.drop (i+1):=by
 obtain⟨h1,h2⟩:=List.getElem?_eq_some_iff.1 ha
 rw[List.set_append_right _ _ (by simp;omega),List.take_add_one,ha,List.append_assoc]
 congr 1
 rw[List.drop_eq_getElem_cons (by omega:i<B.length),List.length_take,Nat.min_eq_left (Nat.le_of_lt h1),Nat.sub_self]
 rfl
theorem mix_at {α:Type}{A B:List α}{i:Nat}(h:i<=A.length):(A.take i++B.drop i)[i]?=B[i]?:=by
 rw[List.getElem?_append_right (by simp;omega)]
 simp[Nat.min_eq_left h]
theorem newV_at {c:Control}{s:State}{i:Nat}(h:i<c.signals.length):(newV c s)[i]?=some (sigStep c s (valuesOf s) i).1:=by simp[newV,h]
theorem newT_at {c:Control}{s:State}{i:Nat}(h:i<c.signals.length):(newT c s)[i]?=some (sigStep c s (valuesOf s) i).2.1:=by simp[newT,h]
theorem newV_len (c:Control) (s:State):(newV c s).length=c.signals.length:=by simp[newV]
theorem newT_len (c:Control) (s:State):(newT c s).length=c.signals.length:=by simp[newT]
theorem sigStep_at {c:Control}{s:State}{L:List Bool}{i:Nat}{x:Signal}{v:Bool}{t:Int}(hx:c.signals[i]?=some x) (hv:s.values[i]?=some v) (ht:s.timers[i]?=some t) :
  sigStep c s L i=stepV x.kind v t (evalE x.on L) (x.kind==1&&evalE x.off L):=by simp only[sigStep,hx,hv,ht]
theorem same_eq (a b:State):sameSt a b=decide (a=b):=by
 cases a;cases b
 simp[sameSt,Bool.and_assoc]
theorem off_ok {c:Control}{i:Nat}{x:Signal}(hf:Fine c) (hxo:c.signals[i]?=some x) (hk:x.kind=1):checkE x.off (countC c)=0:=by
 have h:=hf.sigs i x hxo
 unfold signalE at h
 split at h
 ·rename_i h1;exact absurd h h1
 ·split at h
  ·cases h
  ·split at h
   ·rename_i h1;exact absurd h h1
   ·simp only[hk]at h
    simp[memE]at h
    by_cases h3:checkE x.off (countC c)=0
    ·exact h3
    ·simp[h3]at h
abbrev rkE (bm b4 b6:Nat) (h5:Value) (c:Control):List (Nat×A):=[(0,.ptr 70 bm 0),(2,.dat (.bool false)),(3,.nils),(4,.ptr 4 b4 0),(5,.own 71 h5),(6,.ptr 6 b6 0),(25,.dat (.sl (c.signals.map encS))),(26,.dat (.int .i64 c.signals.length))]
abbrev rkH (bm b4 b6:Nat) (g h4:Nat->Value) (h5:Value) (c:Control) (s G:State):Heap:=[(6,.box b6 rulesA),(71,.seq h5 4 1 ((valuesOf G).map rB)),(70,.box bm (mcA c g)),(60,.seq (g 0) 3 1 (G.ends.map rI)),(61,.seq (g 1) 4 1 (G.valves.map rB)),(62,.seq (g 2) 4 1 (G.inputs.map rB)),(4,.box b4 [.own 80 (h4 0),.own 81 (h4 1),.own 82 (h4 2),.own 83 (h4 3),.own 84 (h4 4)]),(80,.seq (h4 0) 3 1 (s.ends.map rI)),(81,.seq (h4 1) 4 1 (s.valves.map rB)),(82,.seq (h4 2) 4 1 (s.inputs.map rB)),(83,.seq (h4 3) 4 1 (s.values.map rB)),(84,.seq (h4 4) 3 1 (s.timers.map rI))]
abbrev rsE (i:Nat) (h7:Value):List (Nat×A):=[(27,aI i),(7,.own 72 h7)]
abbrev rsH (g:Nat->Value) (c:Control) (G:State) (i:Nat) (h7:Value):Heap:=[(72,.seq h7 3 1 ((onceB c G i).map rI)),(63,.seq (g 3) 4 1 (((newV c G).take i++G.values.drop i).map rB)),(64,.seq (g 4) 3 1 (((newT c G).take i++G.timers.drop i).map rI))]
theorem round_b0 {n:Nat}{Q:PostQ}{bm b4 b6:Nat}{g h4:Nat->Value}{h5 h7:Value}{c:Control}{s G:State}{i:Nat}{x:Signal}(hc:OkC c) (hf:Fine c) (hG:shapeS c G) (hxo:c.signals[i]?=some x) (hk:x.kind=0) :
  vcC ⟨Tryz.prog,none,n⟩ (loopC Tryz.f83 0) (hdE (rkE bm b4 b6 h5 c) (rsE i h7)) (hcat (rsH g c G i h7) (rkH bm b4 b6 g h4 h5 c s G)) (LoopQ Q fun E' H'=>∃s',True∧(∀p∈rsE (i+1) s',wk (E' p.1) p.2)∧(∀p∈rkE bm b4 b6 h5 c,E' p.1=p.2)∧subN (hcat (rsH g c G (i+1) s') (rkH bm b4 b6 g h4 h5 c s G)) H'):=by
 refine vc_part rfl ?_
 obtain⟨hi,hx⟩:=List.getElem?_eq_some_iff.1 hxo
 have ha:=hf.act
 have hin:=hf.inp
 have hsg:=hf.sig
 have hL:=valuesOf_length hG
 obtain⟨j1,j2,j3,j4,j5⟩:=hG
 have hox:=hc.sigs x (List.mem_of_getElem? hxo)
 obtain⟨v,hv⟩:∃v,G.values[i]?=some v:=⟨_,List.getElem?_eq_getElem (by omega)⟩
 obtain⟨t,ht⟩:∃t,G.timers[i]?=some t:=⟨_,List.getElem?_eq_getElem (by omega)⟩
 have hon:=hf.on hxo
 have r1:=(right_of_check hon.1).1
 have ron:CallFn Tryz.prog 137 [aE x.on,aBs (valuesOf G)] (aB (evalE x.on (valuesOf G))):=value_fn (SizeOf.sizeOf x.on+1) x.on (by omega) hox.on (valuesOf G) (by have:countC c=2*c.actuators+c.inputs.length+c.signals.length:=rfl;omega) (by rw[hL];exact r1)
 have hst:=sigStep_at (L:=valuesOf G) hxo hv ht
 obtain⟨nv,nt,cf,hst2,hrule⟩:∃nv nt cf,stepV 0 v t (evalE x.on (valuesOf G)) false=(nv,nt,cf)∧CallFn Tryz.prog 194 [aCh v t false,aB (evalE x.on (valuesOf G)),aB false] (aCh nv nt cf):=⟨v,t,false,rfl,rule0_fn v t false _ false⟩
 rw[hk]at hst
 have hst3:=hst.trans hst2
 have mV:=set_mix (B:=G.values) (newV_at (s:=G) hi) (by rw[newV_len];omega)
 have mT:=set_mix (B:=G.timers) (newT_at (s:=G) hi) (by rw[newT_len];omega)
 have aV:((newV c G).take i++G.values.drop i)[i]?=some v:=by rw[mix_at (by rw[newV_len];omega)];exact hv
 have aT:((newT c G).take i++G.timers.drop i)[i]?=some t:=by rw[mix_at (by rw[newT_len];omega)];exact ht
 have bl:=onceB_len c G i
 have bs:=onceB_succ c G i
 have lV:i<((newV c G).take i++G.values.drop i).length:=(List.getElem?_eq_some_iff.1 aV).1
 have lT:i<((newT c G).take i++G.timers.drop i).length:=(List.getElem?_eq_some_iff.1 aT).1
 unfold rsH
 rw[bs,<- mV,<- mT,hst3]
 clear mV mT hst hst2 hst3 bs
 have hfc:0<=firstC c∧firstC c<=100:=by unfold firstC;omega
 generalize (newV c G).take i++G.values.drop i=V1 at *
 generalize (newT c G).take i++G.timers.drop i=T1 at *
 generalize onceB c G i=B1 at *
 generalize evalE x.on (valuesOf G)=bon at *
 have aV2:=(List.getElem?_eq_some_iff.1 aV).2
 have aT2:=(List.getElem?_eq_some_iff.1 aT).2
 simp[hi,hx]
 intro b9
 refine V.drawX (fun q=>if q=56 then some (.ro (aB bon)) else if q=64 then some (.ro (aB false)) else if q=66 then some (.fn (aCh nv nt cf)) else none) (by kernel_rfl) (by kernel_rfl) (by simp) ?_
 simp[hk,hi,hx,aV,aT,lV,lT,rB,rI,aV2,aT2]
 refine⟨ron.lend (by simp[hget]) (by simp) ⟨rfl,rfl⟩,hrule,fun b10=>⟨by kernel_rfl,?_⟩⟩
 refine V.drawX (fun _=>none) (by kernel_rfl) (by kernel_rfl) (by simp) ?_
 simp[hk,hi,hx,aV,aT,lV,lT,rB,rI,aV2,aT2]
 refine⟨by kernel_rfl,?_⟩
 cases cf
 ·simp
  omega
 ·simp[rI]
  omega
theorem round_b1 {n:Nat}{Q:PostQ}{bm b4 b6:Nat}{g h4:Nat->Value}{h5 h7:Value}{c:Control}{s G:State}{i:Nat}{x:Signal}(hc:OkC c) (hf:Fine c) (hG:shapeS c G) (hxo:c.signals[i]?=some x) (hk:x.kind=1) :
  vcC ⟨Tryz.prog,none,n⟩ (loopC Tryz.f83 0) (hdE (rkE bm b4 b6 h5 c) (rsE i h7)) (hcat (rsH g c G i h7) (rkH bm b4 b6 g h4 h5 c s G)) (LoopQ Q fun E' H'=>∃s',True∧(∀p∈rsE (i+1) s',wk (E' p.1) p.2)∧(∀p∈rkE bm b4 b6 h5 c,E' p.1=p.2)∧subN (hcat (rsH g c G (i+1) s') (rkH bm b4 b6 g h4 h5 c s G)) H'):=by
 refine vc_part rfl ?_
 obtain⟨hi,hx⟩:=List.getElem?_eq_some_iff.1 hxo
 have ha:=hf.act
 have hin:=hf.inp
 have hsg:=hf.sig
 have hL:=valuesOf_length hG
 obtain⟨j1,j2,j3,j4,j5⟩:=hG
 have hox:=hc.sigs x (List.mem_of_getElem? hxo)
 obtain⟨v,hv⟩:∃v,G.values[i]?=some v:=⟨_,List.getElem?_eq_getElem (by omega)⟩
 obtain⟨t,ht⟩:∃t,G.timers[i]?=some t:=⟨_,List.getElem?_eq_getElem (by omega)⟩
 have hon:=hf.on hxo
 have r1:=(right_of_check hon.1).1
 have ron:CallFn Tryz.prog 137 [aE x.on,aBs (valuesOf G)] (aB (evalE x.on (valuesOf G))):=value_fn (SizeOf.sizeOf x.on+1) x.on (by omega) hox.on (valuesOf G) (by have:countC c=2*c.actuators+c.inputs.length+c.signals.length:=rfl;omega) (by rw[hL];exact r1)
 have roff:CallFn Tryz.prog 137 [aE x.off,aBs (valuesOf G)] (aB (evalE x.off (valuesOf G))):=
  value_fn (SizeOf.sizeOf x.off+1) x.off (by omega) hox.off (valuesOf G) (by have:countC c=2*c.actuators+c.inputs.length+c.signals.length:=rfl;omega) (by rw[hL];exact (right_of_check (off_ok hf hxo hk)).1)
 have hst:=sigStep_at (L:=valuesOf G) hxo hv ht
 obtain⟨nv,nt,cf,hst2,hrule⟩:∃nv nt cf,stepV 1 v t (evalE x.on (valuesOf G)) (evalE x.off (valuesOf G))=(nv,nt,cf)∧CallFn Tryz.prog 195 [aCh v t false,aB (evalE x.on (valuesOf G)),aB (evalE x.off (valuesOf G))] (aCh nv nt cf):=⟨_,_,_,by cases evalE x.on (valuesOf G)<;>cases evalE x.off (valuesOf G)<;>rfl,rule1_fn v t false _ _⟩
 rw[hk]at hst
 have hst3:=hst.trans hst2
 have mV:=set_mix (B:=G.values) (newV_at (s:=G) hi) (by rw[newV_len];omega)
 have mT:=set_mix (B:=G.timers) (newT_at (s:=G) hi) (by rw[newT_len];omega)
 have aV:((newV c G).take i++G.values.drop i)[i]?=some v:=by rw[mix_at (by rw[newV_len];omega)];exact hv
 have aT:((newT c G).take i++G.timers.drop i)[i]?=some t:=by rw[mix_at (by rw[newT_len];omega)];exact ht
 have bl:=onceB_len c G i
 have bs:=onceB_succ c G i
 have lV:i<((newV c G).take i++G.values.drop i).length:=(List.getElem?_eq_some_iff.1 aV).1
 have lT:i<((newT c G).take i++G.timers.drop i).length:=(List.getElem?_eq_some_iff.1 aT).1
 unfold rsH
 rw[bs,<- mV,<- mT,hst3]
 clear mV mT hst hst2 hst3 bs
 have hfc:0<=firstC c∧firstC c<=100:=by unfold firstC;omega
 generalize (newV c G).take i++G.values.drop i=V1 at *
 generalize (newT c G).take i++G.timers.drop i=T1 at *
 generalize onceB c G i=B1 at *
 generalize evalE x.on (valuesOf G)=bon at *
 generalize evalE x.off (valuesOf G)=boff at *
 have aV2:=(List.getElem?_eq_some_iff.1 aV).2
 have aT2:=(List.getElem?_eq_some_iff.1 aT).2
 simp[hi,hx]
 intro b9
 refine V.drawX (fun q=>if q=56 then some (.ro (aB bon)) else if q=64 then some (.ro (aB boff)) else if q=66 then some (.fn (aCh nv nt cf)) else none) (by kernel_rfl) (by kernel_rfl) (by simp) ?_
 simp[hk,hi,hx,aV,aT,lV,lT,rB,rI,aV2,aT2]
 refine⟨ron.lend (by simp[hget]) (by simp) ⟨rfl,rfl⟩,roff.lend (by simp[hget]) (by simp) ⟨rfl,rfl⟩,hrule,fun b10=>⟨by kernel_rfl,?_⟩⟩
 refine V.drawX (fun _=>none) (by kernel_rfl) (by kernel_rfl) (by simp) ?_
 simp[hk,hi,hx,aV,aT,lV,lT,rB,rI,aV2,aT2]
 refine⟨by kernel_rfl,?_⟩
 cases cf
 ·simp
  omega
 ·simp[rI]
  omega
theorem round_b2 {n:Nat}{Q:PostQ}{bm b4 b6:Nat}{g h4:Nat->Value}{h5 h7:Value}{c:Control}{s G:State}{i:Nat}{x:Signal}(hc:OkC c) (hf:Fine c) (hG:shapeS c G) (hxo:c.signals[i]?=some x) (hk:x.kind=2) :
  vcC ⟨Tryz.prog,none,n⟩ (loopC Tryz.f83 0) (hdE (rkE bm b4 b6 h5 c) (rsE i h7)) (hcat (rsH g c G i h7) (rkH bm b4 b6 g h4 h5 c s G)) (LoopQ Q fun E' H'=>∃s',True∧(∀p∈rsE (i+1) s',wk (E' p.1) p.2)∧(∀p∈rkE bm b4 b6 h5 c,E' p.1=p.2)∧subN (hcat (rsH g c G (i+1) s') (rkH bm b4 b6 g h4 h5 c s G)) H'):=by
 refine vc_part rfl ?_
 obtain⟨hi,hx⟩:=List.getElem?_eq_some_iff.1 hxo
 have ha:=hf.act
 have hin:=hf.inp
 have hsg:=hf.sig
 have hL:=valuesOf_length hG
 obtain⟨j1,j2,j3,j4,j5⟩:=hG
 have hox:=hc.sigs x (List.mem_of_getElem? hxo)
 obtain⟨v,hv⟩:∃v,G.values[i]?=some v:=⟨_,List.getElem?_eq_getElem (by omega)⟩
 obtain⟨t,ht⟩:∃t,G.timers[i]?=some t:=⟨_,List.getElem?_eq_getElem (by omega)⟩
 have hon:=hf.on hxo
 have r1:=(right_of_check hon.1).1
 have ron:CallFn Tryz.prog 137 [aE x.on,aBs (valuesOf G)] (aB (evalE x.on (valuesOf G))):=value_fn (SizeOf.sizeOf x.on+1) x.on (by omega) hox.on (valuesOf G) (by have:countC c=2*c.actuators+c.inputs.length+c.signals.length:=rfl;omega) (by rw[hL];exact r1)
 have hst:=sigStep_at (L:=valuesOf G) hxo hv ht
 obtain⟨nv,nt,cf,hst2,hrule⟩:∃nv nt cf,stepV 2 v t (evalE x.on (valuesOf G)) false=(nv,nt,cf)∧CallFn Tryz.prog 196 [aCh v t false,aB (evalE x.on (valuesOf G)),aB false] (aCh nv nt cf):=⟨_,_,_,by cases evalE x.on (valuesOf G)<;>simp[stepV]<;>split<;>rfl,rule2_fn v t _ false⟩
 rw[hk]at hst
 have hst3:=hst.trans hst2
 have mV:=set_mix (B:=G.values) (newV_at (s:=G) hi) (by rw[newV_len];omega)
 have mT:=set_mix (B:=G.timers) (newT_at (s:=G) hi) (by rw[newT_len];omega)
 have aV:((newV c G).take i++G.values.drop i)[i]?=some v:=by rw[mix_at (by rw[newV_len];omega)];exact hv
 have aT:((newT c G).take i++G.timers.drop i)[i]?=some t:=by rw[mix_at (by rw[newT_len];omega)];exact ht
 have bl:=onceB_len c G i
 have bs:=onceB_succ c G i
 have lV:i<((newV c G).take i++G.values.drop i).length:=(List.getElem?_eq_some_iff.1 aV).1
 have lT:i<((newT c G).take i++G.timers.drop i).length:=(List.getElem?_eq_some_iff.1 aT).1
 unfold rsH
 rw[bs,<- mV,<- mT,hst3]
 clear mV mT hst hst2 hst3 bs
 have hfc:0<=firstC c∧firstC c<=100:=by unfold firstC;omega
 generalize (newV c G).take i++G.values.drop i=V1 at *
 generalize (newT c G).take i++G.timers.drop i=T1 at *
 generalize onceB c G i=B1 at *
 generalize evalE x.on (valuesOf G)=bon at *
 have aV2:=(List.getElem?_eq_some_iff.1 aV).2
 have aT2:=(List.getElem?_eq_some_iff.1 aT).2
 simp[hi,hx]
 intro b9
 refine V.drawX (fun q=>if q=56 then some (.ro (aB bon)) else if q=64 then some (.ro (aB false)) else if q=66 then some (.fn (aCh nv nt cf)) else none) (by kernel_rfl) (by kernel_rfl) (by simp) ?_
 simp[hk,hi,hx,aV,aT,lV,lT,rB,rI,aV2,aT2]
 refine⟨ron.lend (by simp[hget]) (by simp) ⟨rfl,rfl⟩,hrule,fun b10=>⟨by kernel_rfl,?_⟩⟩
 refine V.drawX (fun _=>none) (by kernel_rfl) (by kernel_rfl) (by simp) ?_
 simp[hk,hi,hx,aV,aT,lV,lT,rB,rI,aV2,aT2]
 refine⟨by kernel_rfl,?_⟩
 cases cf
 ·simp
  omega
 ·simp[rI]
  omega
theorem once_right {c:Control}{s:State}(h:rightC c s=0):rightC c (onceS c s)=0:=by
 obtain⟨z1,z2,z3⟩:=right_zero h
 have hf:=fine_of z1
 have hsh:=once_shape z2
 unfold fitsSt at z3
 rw[if_neg (by simpa using z2)]at z3
 split at z3
 ·cases z3
 ·rename_i hout
  have hz:=firstErr_zero z3
  simp only[Bool.or_eq_true,not_or,Bool.not_eq_true]at hout
  obtain⟨hlv,hlt⟩:s.values.length=c.signals.length∧s.timers.length=c.signals.length:=⟨z2.2.2.2.1,z2.2.2.2.2⟩
  have hstep:∀i,i<c.signals.length->∃x v t,c.signals[i]?=some x∧s.values[i]?=some v∧s.timers[i]?=some t∧(newV c s)[i]?=some (stepV x.kind v t (evalE x.on (valuesOf s)) (x.kind==1&&evalE x.off (valuesOf s))).1∧(newT c s)[i]?=some (stepV x.kind v t (evalE x.on (valuesOf s)) (x.kind==1&&evalE x.off (valuesOf s))).2.1:=by
   intro i hi
   have hx:c.signals[i]?=some c.signals[i]:=List.getElem?_eq_getElem (by omega)
   have hv:s.values[i]?=some s.values[i]:=List.getElem?_eq_getElem (by omega)
   have ht:s.timers[i]?=some s.timers[i]:=List.getElem?_eq_getElem (by omega)
   refine⟨_,_,_,hx,hv,ht,?_,?_⟩
   ·rw[newV_at hi,sigStep_at hx hv ht]
   ·rw[newT_at hi,sigStep_at hx hv ht]
  have hout2:(onceS c s).timers.any (outR 3)=false:=by
   rw[List.any_eq_false]
   intro t' ht'
   obtain⟨i,hi,e⟩:=List.getElem_of_mem ht'
   have hi2:i<c.signals.length:=by rw[show (onceS c s).timers=newT c s from rfl,newT_len]at hi;exact hi
   obtain⟨x,v,t,hx,hv,ht,h1,h2⟩:=hstep i hi2
   have h3:(onceS c s).timers[i]?=some t':=by rw[List.getElem?_eq_getElem hi,e]
   rw[show (onceS c s).timers=newT c s from rfl,h2]at h3
   have h4:=List.any_eq_false.1 hout.2 t (List.mem_of_getElem? ht)
   cases h3
   simp only[outR]at h4 ⊢
   unfold stepV
   split
   ·exact h4
   ·split
    ·split
     ·decide
     ·simp only
      split
      ·decide
      ·exact h4
    ·exact h4
  have e:fitsSt c (onceS c s)=firstErr (tsE c (onceS c s)) (List.range c.signals.length):=by
   unfold fitsSt
   rw[if_neg (by simpa using hsh),if_neg]
   ·rw[show (onceS c s).timers=newT c s from rfl,newT_len]
   ·rw[hout2]
    have:(onceS c s).ends.any (outR 4)=false:=hout.1
    rw[this]
    simp
  have hn:NoE (tsE c (onceS c s)) c.signals.length:=by
   intro i hi
   have h0:=hz i (by omega)
   obtain⟨x,v,t,hx,hv,ht,h1,h2⟩:=hstep i hi
   unfold tsE at h0 ⊢
   rw[hx,hv,ht]at h0
   rw[hx,show (onceS c s).values=newV c s from rfl,show (onceS c s).timers=newT c s from rfl,h1,h2]
   simp only at h0 ⊢
   unfold tstE at h0 ⊢
   by_cases hk:x.kind=2
   ·simp only[hk,ne_eq,not_true_eq_false,false_and,true_and,false_or]at h0 ⊢
    have h0':v=(t==2):=by
     by_cases hv2:v=(t==2)
     ·exact hv2
     ·rw[if_pos hv2]at h0
      exact absurd h0 (by decide)
    refine if_neg ?_
    rw[Classical.not_not]
    unfold stepV
    rw[if_neg (by decide),if_pos rfl]
    by_cases ho:evalE x.on (valuesOf s)=false
    ·rw[if_pos ho];rfl
    ·rw[if_neg ho]
     simp only
     by_cases ht0:t=0
     ·rw[if_pos ht0,h0',ht0];rfl
     ·rw[if_neg ht0,h0']
   ·simp only[hk,ne_eq,not_false_eq_true,true_and,false_and,or_false]at h0 ⊢
    refine if_neg ?_
    rw[Classical.not_not]
    have ht0:t=0:=by
     by_cases ht0:t=0
     ·exact ht0
     ·rw[if_pos ht0]at h0
      exact absurd h0 (by decide)
    unfold stepV
    split
    ·exact ht0
    ·exact ht0
  rw[rightC,if_neg (by simpa using z1),e]
  exact firstErr_all hn
theorem round_right {c:Control}{s:State}(h:rightC c s=0):rightC c (roundS c s)=0:=once_right (gates_right h)
def actZ (c:Cir) (pos:List Int) (i:Nat) (t:List UInt8):Bool:=t != []&&decide ((statesZ c.parts (netsZ c) pos).getD (netW (netsZ c) ((i:Int),t)) 0=2)
def nxZ (c:Cir) (pos:List Int) (i:Nat):Nat×Bool:=nextK (kindOf c.parts i) (posN pos i) (actZ c pos i (plusK (kindOf c.parts i))) (actZ c pos i (minusK (kindOf c.parts i)))
def stepsZ (c:Cir) (pos:List Int) (n:Nat):List Int:=(List.range n).map fun i=>((nxZ c pos i).1:Int)
def badZ (c:Cir) (pos:List Int) (n:Nat):List Int:=((List.range n).filter fun i=>(nxZ c pos i).2).map fun i:Nat=>(i:Int)
theorem piloted:∀k,k<14->(plusK k≠[]->plusK k∈portsK k∧roleK k (plusK k)=some 3)∧(minusK k≠[]->minusK k∈portsK k∧roleK k (minusK k)=some 3):=by decide
theorem cyl_role (t:List UInt8):roleK 1 t≠some 3:=by
 intro h
 unfold roleK rolesK at h
 obtain⟨h1,h2,_⟩:=List.findIdx?_eq_some_iff_getElem.1 h
 simp at h2
theorem kindOf_14 {c:Cir}(hr:CirR c) (i:Nat):kindOf c.parts i<14:=by
 unfold kindOf
 cases hp:c.parts[i]? with
 | none=>simp
 | some p=>
  have:=part_kind (hr.part p (List.mem_of_getElem? hp))
  simp only
  omega
theorem pilot_gate {c:Cir}{s:State}(h:PgI c s) {i:Nat}{t:List UInt8}(hi:i<c.parts.length) (ht:t∈portsK (kindOf c.parts i)) (hrl:roleK (kindOf c.parts i) t=some 3) (hdn:drivenZ (planZ c).drives i=none) (ht0:t≠[]) :
  evalE ((planZ c).gate i t) (valuesOf (gatesP (planZ c).ctl s))=actZ c ((planZ c).pos s) i t:=by
 obtain⟨l,hl,hml⟩:=netW_some h.right (port_of hi ht)
 have hkl:=(List.getElem?_eq_some_iff.1 hl).1
 have hc:countsI c.parts (netsZ c) (netW (netsZ c) ((i:Int),t))=true:=by
  unfold countsI
  rw[net_getD hl]
  unfold countsZ
  rcases l with _ | ⟨a,_ | ⟨b,l⟩⟩
  ·cases hml
  ·rw[List.mem_singleton]at hml
   subst hml
   simp[hrl]
  ·simp
 obtain⟨m,hm,hme⟩:=List.getElem_of_mem (h.full _ hkl hc)
 have hom:(planZ c).order[m]?=some (netW (netsZ c) ((i:Int),t)):=by rw[List.getElem?_eq_getElem hm,hme]
 have hnb:¬Btw (planZ c).drives ((netsZ c).getD (netW (netsZ c) ((i:Int),t)) []):=fun hb=>by
  rw[net_getD hl]at hb
  obtain⟨e,he,hxe⟩:=btw_two h.drv hb hml
  obtain⟨k1,k2,k3⟩:=drives_kind h.drv he
  rcases hxe with a | a
  ·have a:(i:Int)=e.1:=a
   have:i=e.1:=by omega
   rw[this,k1]at hrl
   exact cyl_role t hrl
  ·have a:(i:Int)=e.2:=a
   have:i=e.2:=by omega
   rw[this]at hdn
   rw[hdn]at k3
   cases k3
 unfold actZ
 rw[Bool.eq_iff_iff,gate_eval,Bool.and_eq_true,decide_eq_true_eq,states_prs h.right (pos_two h)]
 constructor
 ·rintro⟨q,hq,hv⟩
  exact⟨by simpa using ht0,((gate_prs h hq).1 hv).1⟩
 ·rintro⟨_,hp⟩
  exact⟨m,hom,(gate_prs h hom).2 ⟨hp,hnb⟩⟩
structure RdI (c:Cir) (s:State):Prop where
 pg:PgI c s
 sig:∃X:List Signal,(planZ c).ctl.signals=(planZ c).order.map (planZ c).netS++(planZ c).valv.map (planZ c).movS++X∧∀x∈X,x.kind=0
 shape:shapeS (planZ c).ctl s
theorem RdI.of {c:Cir}(hb:buildE c=0) {s:State}(hR:rightC (planZ c).ctl s=0):RdI c s:=by
 obtain⟨X,h1,h2⟩:=pil_kind (planZ c) (planZ c).drives.length
 exact⟨PgI.of hb hR,⟨X,h1,h2⟩,(right_zero hR).2.1⟩
theorem conf_kind {ct:Control}{G:State}{L:List Bool}{q:Nat}(h:∀x,ct.signals[q]?=some x->x.kind≠1):(sigStep ct G L q).2.2=false:=by
 unfold sigStep
 split
 ·rename_i x v t hx hv ht
  have:=h x hx
  unfold stepV
  rw[if_neg this]
  split
  ·split<;>rfl
  ·rfl
 ·rfl
theorem mov_at {c:Cir}{s:State}(h:RdI c s) {i:Nat}(hm:i∈(planZ c).valv):(planZ c).ctl.signals[(planZ c).order.length+(planZ c).valv.idxOf i]?=some ((planZ c).movS i):=by
 obtain⟨X,h1,_⟩:=h.sig
 have hil:=List.idxOf_lt_length_of_mem hm
 rw[h1,List.getElem?_append_left (by simp;omega),List.getElem?_append_right (by simp),List.getElem?_map]
 simp only[List.length_map,Nat.add_sub_cancel_left]
 rw[List.getElem?_eq_getElem hil,List.getElem_idxOf]
 rfl
theorem round_mov {c:Cir}{s:State}(h:RdI c s) {i:Nat}(hm:i∈(planZ c).valv) :
  ∃t,sigStep (planZ c).ctl (gatesP (planZ c).ctl s) (valuesOf (gatesP (planZ c).ctl s)) ((planZ c).order.length+(planZ c).valv.idxOf i)=stepV ((planZ c).movS i).kind ((planZ c).posB s i) t (evalE ((planZ c).movS i).on (valuesOf (gatesP (planZ c).ctl s))) (((planZ c).movS i).kind==1&&evalE ((planZ c).movS i).off (valuesOf (gatesP (planZ c).ctl s))) ∧
   (planZ c).posB (roundS (planZ c).ctl s) i=(sigStep (planZ c).ctl (gatesP (planZ c).ctl s) (valuesOf (gatesP (planZ c).ctl s)) ((planZ c).order.length+(planZ c).valv.idxOf i)).1:=by
 have hx:=mov_at h hm
 obtain⟨hql,_⟩:=List.getElem?_eq_some_iff.1 hx
 have hgs:=gates_shape h.shape
 obtain⟨g1,g2,g3,g4,g5⟩:=id h.shape
 obtain⟨k1,k2,k3,k4,k5⟩:=id hgs
 have hact:(planZ c).ctl.actuators=(planZ c).drives.length:=rfl
 have hinp:(planZ c).ctl.inputs.length=(planZ c).butt.length:=by
  show ((planZ c).butt.map _).length=_
  rw[List.length_map]
 obtain⟨v1,v2,v3⟩:=vals_at (s:=s) (nd:=(planZ c).drives.length) (nb:=(planZ c).butt.length) (by omega) (by omega)
 obtain⟨w1,w2,w3⟩:=vals_at (s:=roundS (planZ c).ctl s) (nd:=(planZ c).drives.length) (nb:=(planZ c).butt.length) (by show s.ends.length=_;omega) (by show s.inputs.length=_;omega)
 have hfst:(planZ c).first=2*(planZ c).drives.length+(planZ c).butt.length:=rfl
 have hdn:=(mem_valvN.1 hm).2.2
 have hln:=valv_line hm
 have hdn:drivenZ (planZ c).drives i=none:=hdn
 have hB:∀st:State,(planZ c).posB st i=(valuesOf st).getD ((planZ c).first+(planZ c).order.length+(planZ c).valv.idxOf i) false:=fun st=>by
  unfold Pln.posB
  rw[hdn,hln]
  simp only
  rw[List.getD_eq_getElem?_getD]
 have e1:(planZ c).posB s i=(s.values[(planZ c).order.length+(planZ c).valv.idxOf i]?).getD false:=by
  rw[hB,List.getD_eq_getElem?_getD,hfst,show 2*(planZ c).drives.length+(planZ c).butt.length+(planZ c).order.length+(planZ c).valv.idxOf i=2*(planZ c).drives.length+(planZ c).butt.length+((planZ c).order.length+(planZ c).valv.idxOf i) by omega,v3]
 have e2:(planZ c).posB (roundS (planZ c).ctl s) i=((roundS (planZ c).ctl s).values[(planZ c).order.length+(planZ c).valv.idxOf i]?).getD false:=by
  rw[hB,List.getD_eq_getElem?_getD,hfst,show 2*(planZ c).drives.length+(planZ c).butt.length+(planZ c).order.length+(planZ c).valv.idxOf i=2*(planZ c).drives.length+(planZ c).butt.length+((planZ c).order.length+(planZ c).valv.idxOf i) by omega,w3]
 have hgv:=gates_keep (c:=(planZ c).ctl) (s:=s) (valv_kind hm)
 have hsv:s.values[(planZ c).order.length+(planZ c).valv.idxOf i]?=some ((planZ c).posB s i):=by
  rw[e1,List.getElem?_eq_getElem (by omega)]
  rfl
 rw[hsv]at hgv
 obtain⟨t,ht⟩:∃t,(gatesP (planZ c).ctl s).timers[(planZ c).order.length+(planZ c).valv.idxOf i]?=some t:=⟨_,List.getElem?_eq_getElem (by omega)⟩
 refine⟨t,sigStep_at hx hgv ht,?_⟩
 rw[e2]
 show ((newV (planZ c).ctl (gatesP (planZ c).ctl s))[_]?).getD false=_
 rw[newV_at hql]
 rfl
theorem round_same {c:Cir}{s:State}(h:RdI c s) {i:Nat}(hi:i<c.parts.length) (hm:i∉(planZ c).valv):(planZ c).posB (roundS (planZ c).ctl s) i=(planZ c).posB s i:=by
 obtain⟨g1,g2,g3,g4,g5⟩:=id h.shape
 have hact:(planZ c).ctl.actuators=(planZ c).drives.length:=rfl
 have hinp:(planZ c).ctl.inputs.length=(planZ c).butt.length:=by
  show ((planZ c).butt.map _).length=_
  rw[List.length_map]
 obtain⟨v1,v2,v3⟩:=vals_at (s:=s) (nd:=(planZ c).drives.length) (nb:=(planZ c).butt.length) (by omega) (by omega)
 obtain⟨w1,w2,w3⟩:=vals_at (s:=roundS (planZ c).ctl s) (nd:=(planZ c).drives.length) (nb:=(planZ c).butt.length) (by show s.ends.length=_;omega) (by show s.inputs.length=_;omega)
 unfold Pln.posB
 cases hz:drivenZ (planZ c).drives i with
 | some k=>rfl
 | none=>
  simp only
  cases hn:(planZ c).line i with
  | none=>rfl
  | some n=>
   simp only
   rcases line_cases (planZ_lim h.pg.right) hn with⟨_,hb,hne⟩|⟨_,hne⟩|⟨_,_,hv,_⟩
   ·have hil:=List.idxOf_lt_length_of_mem hb
    rw[hne,v2 _ (by omega),w2 _ (by omega)]
    rfl
   ·rw[v1 n hne,w1 n hne]
    rfl
   ·exact absurd hv hm
def cntB (c:Cir) (pos:List Int) (i:Nat):Bool:=plusK (kindOf c.parts i) != []&&(drivenZ (planZ c).drives i).isNone && !(kindOf c.parts i==12)&&(nxZ c pos i).2
theorem stepC_same {c:Cir}{s:State}(h:RdI c s) {i:Nat}(hi:i<c.parts.length) (hdn:drivenZ (planZ c).drives i=none) (hpl:plusK (kindOf c.parts i)≠[]) (h12:kindOf c.parts i≠12) :
  numB ((planZ c).posB (roundS (planZ c).ctl s) i)=((nxZ c ((planZ c).pos s) i).1:Int)∧(sigStep (planZ c).ctl (gatesP (planZ c).ctl s) (valuesOf (gatesP (planZ c).ctl s)) ((planZ c).order.length+(planZ c).valv.idxOf i)).2.2=(nxZ c ((planZ c).pos s) i).2:=by
 have hm:i∈(planZ c).valv:=mem_valvN.2 ⟨hi,hpl,hdn⟩
 obtain⟨t,h1,h2⟩:=round_mov h hm
 have hk14:=kindOf_14 h.pg.right i
 obtain⟨q1,q2⟩:=piloted _ hk14
 have hps:(planZ c).ps=c.parts:=rfl
 have hk1:((planZ c).movS i).kind=1:=by unfold Pln.movS;rw[hps];simp only;rw[if_neg h12]
 have hon:((planZ c).movS i).on=(planZ c).gate i (plusK (kindOf c.parts i)):=rfl
 have hoff:((planZ c).movS i).off=if minusK (kindOf c.parts i)≠[] then (planZ c).gate i (minusK (kindOf c.parts i)) else notE ((planZ c).gate i (plusK (kindOf c.parts i))):=by
  unfold Pln.movS;rw[hps];simp only;rw[if_neg h12]
 have hpn:=posN_at (p:=planZ c) (s:=s) (i:=i) hi
 have e1:=pilot_gate h.pg hi (q1 hpl).1 (q1 hpl).2 hdn hpl
 rw[h2,h1,hk1,hon,hoff]
 unfold nxZ nextK
 rw[if_neg hpl,hpn]
 by_cases hmn:minusK (kindOf c.parts i)=[]
 ·rw[if_neg (by simp[hmn]),if_pos hmn]
  have e3:evalE (notE ((planZ c).gate i (plusK (kindOf c.parts i)))) (valuesOf (gatesP (planZ c).ctl s)) = !evalE ((planZ c).gate i (plusK (kindOf c.parts i))) (valuesOf (gatesP (planZ c).ctl s)):=by
   simp only[notE,evalE,evalL]
   cases evalE ((planZ c).gate i (plusK (kindOf c.parts i))) (valuesOf (gatesP (planZ c).ctl s))<;>rfl
  rw[e3,e1]
  generalize actZ c ((planZ c).pos s) i (plusK (kindOf c.parts i))=a
  generalize (planZ c).posB s i=b
  cases a<;>cases b<;>simp[stepV,numB]
 ·have e2:=pilot_gate h.pg hi (q2 hmn).1 (q2 hmn).2 hdn hmn
  rw[if_pos hmn,if_neg hmn,e1,e2]
  generalize actZ c ((planZ c).pos s) i (plusK (kindOf c.parts i))=a
  generalize actZ c ((planZ c).pos s) i (minusK (kindOf c.parts i))=b
  generalize (planZ c).posB s i=d
  cases a<;>cases b<;>cases d<;>simp[stepV,numB]
theorem list_range {l:List Nat}:l=(List.range l.length).map fun j=>l.getD j 0:=by
 refine List.ext_getElem (by simp) fun j h1 h2=>?_
 rw[List.getElem_map,List.getElem_range,List.getD_eq_getElem?_getD,List.getElem?_eq_getElem h1]
 rfl
theorem round_lines {c:Cir}{s:State}(h:RdI c s):(roundB (planZ c).ctl s).length=((List.range c.parts.length).filter (cntB c ((planZ c).pos s))).length:=by
 obtain⟨X,h1,h2⟩:=h.sig
 have hps:(planZ c).ps=c.parts:=rfl
 obtain⟨P,hP⟩:∃P:Nat->Bool,(fun q=>(sigStep (planZ c).ctl (gatesP (planZ c).ctl s) (valuesOf (gatesP (planZ c).ctl s)) q).2.2)=P:=⟨_,rfl⟩
 have hPq:∀q,P q=(sigStep (planZ c).ctl (gatesP (planZ c).ctl s) (valuesOf (gatesP (planZ c).ctl s)) q).2.2:=fun q=>by rw[<- hP]
 have hlen:(roundB (planZ c).ctl s).length=(List.range ((planZ c).order.length+(planZ c).valv.length+X.length)).countP P:=by
  unfold roundB onceB
  rw[List.length_map,h1,<- List.countP_eq_length_filter,hP]
  simp only[List.length_append,List.length_map]
 have hlo:∀q,q<(planZ c).order.length->P q=false:=fun q hq=>by
  rw[hPq]
  refine conf_kind fun x hx=>?_
  rw[h1,List.append_assoc,List.getElem?_append_left (by simpa using hq),List.getElem?_map,List.getElem?_eq_getElem hq]at hx
  simp only[Option.map_some,Option.some.injEq]at hx
  rw[<- hx]
  show (0:Int)≠1
  decide
 have hhi:∀q,P ((planZ c).order.length+(planZ c).valv.length+q)=false:=fun q=>by
  rw[hPq]
  refine conf_kind fun x hx=>?_
  rw[h1,List.getElem?_append_right (by simp)]at hx
  rw[h2 x (List.mem_of_getElem? hx)]
  decide
 have hmid:(List.range (planZ c).valv.length).countP (P∘fun j=>(planZ c).order.length+j)=(planZ c).valv.countP fun i=>P ((planZ c).order.length+(planZ c).valv.idxOf i):=by
  conv=>rhs;rw[list_range (l:=(planZ c).valv)]
  rw[List.countP_map]
  refine List.countP_congr fun j hj=>?_
  have hjl:=List.mem_range.1 hj
  simp only[Function.comp]
  rw[<- list_range,List.getD_eq_getElem?_getD,List.getElem?_eq_getElem hjl,Option.getD_some,List.Nodup.idxOf_getElem (valv_nodup _)]
 have hz1:(List.range (planZ c).order.length).countP P=0:=List.countP_eq_zero.2 fun q hq=>by rw[hlo q (List.mem_range.1 hq)];simp
 have hz2:(List.range X.length).countP (P∘fun x=>(planZ c).order.length+(planZ c).valv.length+x)=0:=List.countP_eq_zero.2 fun q _=>by
  show ¬P ((planZ c).order.length+(planZ c).valv.length+q)=true
  rw[hhi q];simp
 rw[hlen,List.range_add,List.range_add,List.countP_append,List.countP_append,List.countP_map,List.countP_map,hmid,hz1,hz2,Nat.zero_add,Nat.add_zero]
 have hv:(planZ c).valv=(List.range c.parts.length).filter fun i=>(plusK (kindOf c.parts i) != [])&&(drivenZ (planZ c).drives i).isNone:=rfl
 rw[show ((planZ c).valv.countP fun i=>P ((planZ c).order.length+(planZ c).valv.idxOf i))=((List.range c.parts.length).filter fun i=>(plusK (kindOf c.parts i) != [])&&(drivenZ (planZ c).drives i).isNone).countP fun i=>P ((planZ c).order.length+(planZ c).valv.idxOf i) from rfl,List.countP_filter,<- List.countP_eq_length_filter]
 refine List.countP_congr fun i hi=>?_
 have hil:=List.mem_range.1 hi
 unfold cntB
 simp only[Bool.and_eq_true,bne_iff_ne,ne_eq,Option.isNone_iff_eq_none,Bool.not_eq_true',beq_eq_false_iff_ne]
 constructor
 ·rintro⟨hp,hpl,hdn⟩
  have h12:kindOf c.parts i≠12:=fun e=>by
   rw[hPq,conf_kind]at hp
   ·cases hp
   ·intro x hx
    rw[mov_at h (mem_valvN.2 ⟨hil,hpl,hdn⟩)]at hx
    simp only[Option.some.injEq]at hx
    rw[<- hx]
    unfold Pln.movS
    rw[hps]
    simp only
    rw[if_pos e]
    decide
  rw[hPq,(stepC_same h hil hdn hpl h12).2]at hp
  exact⟨⟨⟨hpl,hdn⟩,h12⟩,hp⟩
 ·rintro⟨⟨⟨hpl,hdn⟩,h12⟩,hp⟩
  rw[hPq,(stepC_same h hil hdn hpl h12).2]
  exact⟨hp,hpl,hdn⟩
theorem stepsZ_succ (c:Cir) (pos:List Int) (n:Nat):stepsZ c pos (n+1)=stepsZ c pos n++[((nxZ c pos n).1:Int)]:=by
 unfold stepsZ
 rw[List.range_succ,List.map_append]
 rfl
theorem badZ_succ (c:Cir) (pos:List Int) (n:Nat):badZ c pos (n+1)=badZ c pos n++if (nxZ c pos n).2=true then [(n:Int)] else []:=by
 unfold badZ
 rw[List.range_succ,List.filter_append,List.map_append]
 congr 1
 cases e:(nxZ c pos n).2<;>simp[e]
theorem stepsZ_len (c:Cir) (pos:List Int) (n:Nat):(stepsZ c pos n).length=n:=by simp[stepsZ]
theorem badZ_len (c:Cir) (pos:List Int) (n:Nat):(badZ c pos n).length<=n:=by
 unfold badZ
 rw[List.length_map]
 exact Nat.le_trans (List.length_filter_le _ _) (by simp)
abbrev skB (s:PuS) (st:List Int) (b6 b2:Nat):Heap:=[(6,.box b6 [aIs st]),(170,.box b2 [.ptr 171 s.b 0]),(171,.box s.b [.dat (.sl (s.ps.map encPa)),.dat (.sl (s.l.map encPi)),aI s.ns.length,.map 172 s.m]),(172,.mapK s.m false s.E)]
abbrev skE (pos:List Int) (b6 b2:Nat):List (Nat×A):=[(1,aIs pos),(2,.ptr 170 b2 0),(4,.nils),(5,.nils),(6,.ptr 6 b6 0),(7,.nils),(8,.nils)]
abbrev skK (c:Cir) (pos:List Int) (r:A) (H':Heap):Prop:=∃g g',r=.tuple [.own 71 g,.own 72 g']∧subP [(71,.seq g 3 1 ((stepsZ c pos c.parts.length).map rI)),(72,.seq g' 3 1 ((badZ c pos c.parts.length).map rI))] H'
theorem step_a {s:PuS}{c:Cir}{pos:List Int}(h:s.Of c pos) {st:List Int}(hse:st=statesZ s.ps s.ns pos) (hst:st.length=s.ns.length) (b6 b2:Nat) :
  V ⟨Tryz.prog,none,69⟩ (restC Tryz.f81 3) (hdE (skE pos b6 b2) []) (skB s st b6 b2) (RetV Tryz.prog [.tmp 4,.tmp 5] (skK c pos)):=by
 have hfew:=h.ok.few
 have hpl:=h.pos.1
 have hpp:=h.pos
 have hok:=h.ok
 have hps:=h.ps
 have hns:=h.ns
 have hnx:∀i,nxZ c pos i=nextK (kindOf s.ps i) (posN pos i) (plusK (kindOf s.ps i) != []&&decide (st.getD (netW s.ns ((i:Int),plusK (kindOf s.ps i))) 0=2)) (minusK (kindOf s.ps i) != []&&decide (st.getD (netW s.ns ((i:Int),minusK (kindOf s.ps i))) 0=2)):=fun i=>by
  unfold nxZ actZ
  rw[hse,hps,hns]
 have hcl:c.parts.length=s.ps.length:=by rw[hps]
 unfold skK
 rw[hcl]
 refine V.rest rfl ?_
 refine V.of_vcN 1 ?_
 simp
 refine V.forI (σ:=Value×Value) s.ps.length [1,2,4,5,6,25,26] (by simp;exact rfl) (fun i q=>[(7,.own 71 q.1),(8,.own 72 q.2),(27,aI i)]) (fun i q=>(71,.seq q.1 3 1 ((stepsZ c pos i).map rI))::(72,.seq q.2 3 1 ((badZ c pos i).map rI))::skB s st b6 b2) (fun _ _=>True) (.slice none 0 0,.slice none 0 0) trivial (by simp) ⟨by simp;exact rfl,by simp[stepsZ,badZ]⟩ ?_ ?_
 ·rintro i ⟨g,g'⟩ hi -
  obtain⟨p,hpp2⟩:∃p,s.ps[i]=p:=⟨_,rfl⟩
  have hpo:s.ps[i]?=some p:=by rw[List.getElem?_eq_getElem hi,hpp2]
  obtain⟨q1,q2,q3⟩:=hpp.at hi
  obtain⟨hil,q4⟩:=List.getElem?_eq_some_iff.1 q1
  have hk:=kindOf_at hpo
  have hkn:=hok.kinds p (List.mem_of_getElem? hpo)
  have hk14:p.kind.toNat<14:=by omega
  obtain⟨w1,w2⟩:=piloted _ hk14
  have hpil:=Pilots_k p.kind.toNat hk14
  rw[show ((p.kind.toNat:Nat):Int)=p.kind from by omega]at hpil
  have c1:=fun b9=>step1_s hok hst (i:=i) (t:=plusK p.kind.toNat) (fun e=>port_of hi (by rw[hk];exact (w1 e).1)) b6 b2 b9
  have c2:=fun b9=>step1_s hok hst (i:=i) (t:=minusK p.kind.toNat) (fun e=>port_of hi (by rw[hk];exact (w2 e).1)) b6 b2 b9
  have hn:=hnx i
  rw[hk]at hn q2
  have hnk:=fun a b=>Next_k p.kind.toNat hk14 (posN pos i) q2 a b
  rw[show ((p.kind.toNat:Nat):Int)=p.kind from by omega]at hnk
  have hl1:=stepsZ_len c pos i
  have hl2:=badZ_len c pos i
  rw[stepsZ_succ,badZ_succ,hn]
  generalize (plusK p.kind.toNat != []&&decide (st.getD (netW s.ns ((i:Int),plusK p.kind.toNat)) 0=2))=a1 at *
  generalize (minusK p.kind.toNat != []&&decide (st.getD (netW s.ns ((i:Int),minusK p.kind.toNat)) 0=2))=a2 at *
  have hnk:=hnk a1 a2
  generalize nextK p.kind.toNat (posN pos i) a1 a2=nx at *
  obtain⟨n1,n2⟩:=nx
  simp only at hnk
  generalize plusK p.kind.toNat=pl at *
  generalize minusK p.kind.toNat=mn at *
  generalize stepsZ c pos i=S at *
  generalize badZ c pos i=B at *
  simp[hi,hpp2,hpo]
  intro b9 b10
  refine hpil.s ?_
  simp
  refine V.drawX (fun t=>if t=49 then some (.ro (aB a1)) else if t=52 then some (.ro (aB a2)) else if t=53 then some (.fn (.tuple [aI (n1:Nat),aB n2,aI 0])) else none) (by kernel_rfl) (by kernel_rfl) (by simp) ?_
  simp[hil,q1,q4]
  exact⟨c1 b9,c2 b9,hnk,fun u=>⟨by omega,fun e u1=>⟨by omega,⟨by omega,by omega⟩,u,u1,⟨rfl,rfl⟩,rfl,rfl,by rw[e];rfl⟩,fun e=>⟨⟨by omega,by omega⟩,u,g',⟨rfl,rfl⟩,rfl,rfl,e⟩⟩⟩
 ·rintro⟨g,g'⟩ -
  simp
  refine V.of_vc ?_
  simp
  exact⟨g,g',⟨rfl,rfl⟩,⟨_,List.sublist_append_left [_,_] _,List.Perm.refl _⟩⟩
theorem step_s {s:PuS}{c:Cir}{pos:List Int}(h:s.Of c pos):CallS Tryz.prog 81 [.ptr 170 s.b 0,aIs pos] s.hp (skK c pos):=by
 have hss:=statesD_s h
 have hsl:(statesZ s.ps s.ns pos).length=s.ns.length:=states_len _ _ _
 have ha:=fun b6 b2=>step_a h rfl hsl b6 b2
 generalize statesZ s.ps s.ns pos=st at *
 refine callS_cut 3 Tryz.func81 rfl Tryz.ntmps81 (rs:=[.tmp 4,.tmp 5]) rfl (by kernel_rfl) (by simp) (by kernel_rfl) ?_
 simp
 intro b2
 refine (hss.mid [(2,_)] []).mono ?_
 rintro r H' ⟨rfl,rfl⟩
 simp
 intro b6
 refine V.cutIN 0 (Hs:=skB s st b6 b2) (skE pos b6 b2) ?_ ?_ (ha b6 b2)
 ·intro p hp x v hv
  simp only[List.mem_cons,List.not_mem_nil,or_false]at hp
  rcases hp with rfl | rfl | rfl | rfl | rfl | rfl | rfl
  ·simpa using hv
  ·simpa [D]using hv
  ·simpa using hv
  ·simpa using hv
  ·simpa using hv
  ·simpa using hv
  ·simpa using hv
 ·intro x H0 hi
  have h1:Inv x ([(6,Ent.box b6 [aIs st]),(170,.box b2 [.ptr 170 s.b 0]),(171,.box s.b s.cells),(172,.mapK s.m false s.E)]++H0):=hi.ents (by simp)
  have h2:=Inv.swap (g:=170) (e:=.box b2 [.ptr 170 s.b 0]) (e':=.box b2 [.ptr 171 s.b 0]) rfl (box_sat (Ds_c D_tag Ds_i)) (fun _ h=>h) h1
  have h3:=Inv.swap (g:=171) (e:=.box s.b s.cells) (e':=.box s.b [.dat (.sl (s.ps.map encPa)),.dat (.sl (s.l.map encPi)),aI s.ns.length,.map 172 s.m]) rfl (box_sat (Ds_c D_i (Ds_c D_i (Ds_c D_i (Ds_c D_mtag Ds_i))))) (fun _ h=>h) h2
  exact h3
def pstepQ (c:Cir) (pos:List Int):List Int×List Int×Int:=if presE c pos=0 then (stepsZ c pos c.parts.length,badZ c pos c.parts.length,0) else ([],[],presE c pos)
theorem Step_fn (c:Cir) (hc:OkCir c) (pos:List Int) (hp:Sh pos):CallFn Tryz.prog 33 [aCi c,aIs pos] (.tuple [aIs (pstepQ c pos).1,aIs (pstepQ c pos).2.1,aI (pstepQ c pos).2.2]):=by
 have ho:=puOf_s c hc pos hp
 unfold pstepQ
 by_cases h0:presE c pos=0
 ·simp only[h0,if_true]at ho ⊢
  obtain⟨hz,hpos⟩:=presE_pos h0
  have hr:=cirR_of hz
  refine callFz_of Tryz.func33 rfl Tryz.ntmps33 (rs:=[.tmp 4,.tmp 5,.tmp 6]) rfl (by kernel_rfl) (by simp) (by kernel_rfl) ?_
  simp
  refine ho.mono ?_
  rintro r H' ⟨s,rfl,rfl,h1,h2,h3⟩
  have hs:=step_s (s:=s) (c:=c) (pos:=pos) ⟨h1,hr,h2,h3,by rw[h2];exact hpos⟩
  simp
  refine (CallS.dropP hs (K':=fun r H'=>∃g g',r=.tuple [.own 71 g,.own 72 g']∧H'=[(71,.seq g 3 1 ((stepsZ c pos c.parts.length).map rI)),(72,.seq g' 3 1 ((badZ c pos c.parts.length).map rI))]) (fun _ _ ⟨g,g',h1,h2⟩=>⟨_,h2,g,g',h1,rfl⟩)).mono ?_
  rintro r H' ⟨g,g',rfl,rfl⟩
  simp
 ·simp only[h0,if_false]at ho ⊢
  refine callFz_of Tryz.func33 rfl Tryz.ntmps33 (rs:=[.tmp 4,.tmp 5,.tmp 6]) rfl (by kernel_rfl) (by simp) (by kernel_rfl) ?_
  simp
  refine ho.mono ?_
  rintro r H' ⟨rfl,rfl⟩
  simp[h0]
theorem sh_of {α:Type}{l:List α}(h:l.length<=1000000):Sh l:=by unfold Sh;omega
theorem SameStates_l (a b:State) (ha:SmS a) (hb:SmS b):CallFn Tryz.prog 138 [aSt a,aSt b] (aB (sameSt a b)):=by
 have c1:=eqI_fn a.ends b.ends (sh_of ha.ends) (sh_of hb.ends)
 have c2:=eqB_fn a.valves b.valves (sh_of ha.valves) (sh_of hb.valves)
 have c3:=eqB_fn a.inputs b.inputs (sh_of ha.inputs) (sh_of hb.inputs)
 have c4:=eqB_fn a.values b.values (sh_of ha.values) (sh_of hb.values)
 have c5:=eqI_fn a.timers b.timers (sh_of ha.timers) (sh_of hb.timers)
 refine callFz_of Tryz.func138 rfl Tryz.ntmps138 (rs:=[.tmp 4]) rfl (by kernel_rfl) (by simp) (by kernel_rfl) ?_
 unfold sameSt
 generalize decide (a.ends=b.ends)=b1 at *
 generalize decide (a.valves=b.valves)=b2 at *
 generalize decide (a.inputs=b.inputs)=b3 at *
 generalize decide (a.values=b.values)=b4 at *
 generalize decide (a.timers=b.timers)=b5 at *
 simp
 refine c1.s ?_
 simp
 refine GCall.fn (aB b2) (fun _=>⟨by first | trivial | assumption,c2⟩) ?_
 simp
 refine GCall.fn (aB b3) (fun _=>⟨by first | trivial | assumption,c3⟩) ?_
 simp
 refine GCall.fn (aB b4) (fun _=>⟨by first | trivial | assumption,c4⟩) ?_
 simp
 refine GCall.fn (aB b5) (fun _=>⟨by first | trivial | assumption,c5⟩) ?_
 simp
theorem round_s {bm:Nat}{c:Control}{g:Nat->Value}{s:State}(hc:OkC c) (hf:Fine c) (hsh:shapeS c s):CallS Tryz.prog 83 [.ptr 70 bm 0] (mcH bm c g s)
  fun r H'=>r=.tuple [aB (!decide (roundS c s=s)),aIs (roundB c s)]∧H'=mcH bm c g (roundS c s):=by
 have hsm:=sm_of hf hsh
 have ha:=hf.act
 have hin:=hf.inp
 have hsg:=hf.sig
 have hgs:=gates_shape hsh
 have hgm:=sm_of hf hgs
 refine CallS.dropP (K:=fun r H'=>r=.tuple [aB (!decide (roundS c s=s)),aIs (roundB c s)]∧subP (mcH bm c g (roundS c s)) H') ?_ (fun _ _ h=>⟨_,h.2,h.1,rfl⟩)
 refine CallS.frzKeep (K:=fun r H'=>∃h7:Value,r=.tuple [aB (!decide (roundS c s=s)),.own 72 h7]∧subP ((72,.seq h7 3 1 ((roundB c s).map rI))::mcH bm c g (roundS c s)) H') ?_ ?_
 ·refine callS_of Tryz.func83 rfl Tryz.ntmps83 (rs:=[.tmp 2,.tmp 3]) rfl (by kernel_rfl) (by simp) (by kernel_rfl) ?_
  simp[mcH]
  refine (copied_st s hsm).lend 80 (by simp[hget,packA,encSt]) fun h4=>?_
  simp[stA,stH]
  intro b4
  refine ((CallS.frame (H1:=[(4,.box b4 [.own 80 (h4 0),.own 81 (h4 1),.own 82 (h4 2),.own 83 (h4 3),.own 84 (h4 4)]),(80,.seq (h4 0) 3 1 (s.ends.map rI)),(81,.seq (h4 1) 4 1 (s.valves.map rB)),(82,.seq (h4 2) 4 1 (s.inputs.map rB)),(83,.seq (h4 3) 4 1 (s.values.map rB)),(84,.seq (h4 4) 3 1 (s.timers.map rI))]) (mgates_s (bm:=bm) (g:=g) hc hf hsh)).perm List.perm_append_comm).mono ?_
  rintro r H' ⟨H2,rfl,rfl⟩
  have eR:roundS c s=onceS c (gatesP c s):=rfl
  have eB:roundB c s=onceB c (gatesP c s) c.signals.length:=rfl
  have eE:(gatesP c s).ends=s.ends∧(gatesP c s).valves=s.valves∧(gatesP c s).inputs=s.inputs∧(gatesP c s).timers=s.timers:=⟨rfl,rfl,rfl,rfl⟩
  rw[eR,eB]
  generalize gatesP c s=G at *
  obtain⟨e1,e2,e3,e5⟩:=eE
  simp[mcH]
  refine lines_s (bm:=bm) (c:=c) (g:=g) (s:=G) hgm 71 ⟨[(4,.box b4 [.own 80 (h4 0),.own 81 (h4 1),.own 82 (h4 2),.own 83 (h4 3),.own 84 (h4 4)]),(80,.seq (h4 0) 3 1 (s.ends.map rI)),(81,.seq (h4 1) 4 1 (s.valves.map rB)),(82,.seq (h4 2) 4 1 (s.inputs.map rB)),(83,.seq (h4 3) 4 1 (s.values.map rB)),(84,.seq (h4 4) 3 1 (s.timers.map rI))],by simp⟩ fun h5=>?_
  simp
  refine rules_fn.s ?_
  simp
  intro b6
  have hL:=valuesOf_length hgs
  refine V.forI (σ:=Value) c.signals.length [0,2,3,4,5,6,25,26] (by simp;exact rfl) (fun i h7=>[(27,aI i),(7,.own 72 h7)]) (fun i h7=>[(72,.seq h7 3 1 ((onceB c G i).map rI)),(63,.seq (g 3) 4 1 (((newV c G).take i++G.values.drop i).map rB)),(64,.seq (g 4) 3 1 (((newT c G).take i++G.timers.drop i).map rI))]) (fun _ _=>True) (.slice none 0 0) trivial (by simp) ⟨by simp;exact rfl,by simp[onceB,hget,hdel]⟩ ?_ ?_
  ·rintro i h7 hi -
   have hxo:c.signals[i]?=some c.signals[i]:=List.getElem?_eq_getElem hi
   have hon:=(hf.on hxo).2
   obtain hk | hk | hk:c.signals[i].kind=0∨c.signals[i].kind=1∨c.signals[i].kind=2:=by omega
   ·exact vc_of_part rfl (round_b0 hc hf hgs hxo hk)
   ·exact vc_of_part rfl (round_b1 hc hf hgs hxo hk)
   ·exact vc_of_part rfl (round_b2 hc hf hgs hxo hk)
  ·rintro h7 -
   have e63:(newV c G).take c.signals.length++G.values.drop c.signals.length=newV c G:=by
    rw[List.take_of_length_le (by rw[newV_len];exact Nat.le_refl _),List.drop_of_length_le (by rw[hgs.2.2.2.1];exact Nat.le_refl _),List.append_nil]
   have e64:(newT c G).take c.signals.length++G.timers.drop c.signals.length=newT c G:=by
    rw[List.take_of_length_le (by rw[newT_len];exact Nat.le_refl _),List.drop_of_length_le (by rw[hgs.2.2.2.2];exact Nat.le_refl _),List.append_nil]
   have hss:=SameStates_l s (onceS c G) hsm (sm_of hf (once_shape hgs))
   rw[same_eq]at hss
   have eO:onceS c G=⟨G.ends,G.valves,G.inputs,newV c G,newT c G⟩:=rfl
   have ed:decide (onceS c G=s)=decide (s=onceS c G):=by
    congr 1
    exact propext ⟨Eq.symm,Eq.symm⟩
   rw[ed]
   rw[e63,e64]
   generalize decide (s=onceS c G)=dd at hss
   rw[eO]at hss ⊢
   generalize newV c G=nv at *
   generalize newT c G=nt at *
   simp
   refine V.drawX (fun q=>if q=102 then some (.ro (aB dd)) else none) (by kernel_rfl) (by kernel_rfl) (by simp) ?_
   simp
   refine⟨hss.lend (by simp[hget,packA,encSt]) (by simp) ⟨rfl,rfl⟩,?_⟩
   refine subP_of ?_
   simp[mcH]
 ·rintro r H' ⟨h7,rfl,K,k1,k2⟩
  obtain⟨R,hR⟩:=k1.exists_perm_append
  refine⟨[(72,.seq h7 3 1 ((roundB c s).map rI))],mcH bm c g (roundS c s)++R,?_,?_,?_,_,List.sublist_append_left _ _,List.Perm.refl _⟩
  ·exact ((k2.append_right R).symm.trans hR.symm)
  ·simp[frz]
  ·simp[frz,hget]
end Go.Proofs.YtpadinblmjlggaaGreatDoor
