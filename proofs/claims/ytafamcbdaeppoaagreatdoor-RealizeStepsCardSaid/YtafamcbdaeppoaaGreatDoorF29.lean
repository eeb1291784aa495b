/- Texts joined by a program: Qp,Qsa,Qq,Wb,Wc,Wd,We,Qr,Qs,Qt,Wf,Wg,Wh,Wi,Wj,Qu,Eha,Wk,Wl,Wm,Wn,Wo,Wp,Wq,Vca,Wr,Ozd,Ozi,Xe,Xl,Of,Og,Oh,Oi. -/
import Derived.Shelf.Slices.Delete
import Derived.Test.YtafamcbdaeppoaaGreatDoorF28
import Derived.Test.YtafamcbdaeppoaaGreatDoorF12
import Derived.Test.YtafamcbdaeppoaaGreatDoorF25
import Derived.Test.YtafamcbdaeppoaaGreatDoorF26
import Derived.Test.YtafamcbdaeppoaaGreatDoorF23
import Derived.Test.YtafamcbdaeppoaaGreatDoorF13
import Derived.Test.YtafamcbdaeppoaaGreatDoorF14
import Derived.Test.YtafamcbdaeppoaaGreatDoorF11
import Derived.Test.YtafamcbdaeppoaaGreatDoorF18
import Derived.Test.YtafamcbdaeppoaaGreatDoorF22
import Derived.Test.YtafamcbdaeppoaaGreatDoorF20
import Derived.Test.YtafamcbdaeppoaaGreatDoorF24
set_option linter.unusedSimpArgs false
set_option linter.unusedVariables false
set_option maxHeartbeats 8000000
set_option maxRecDepth 1000000
namespace Go.Proofs.YtafamcbdaeppoaaGreatDoor

structure OkCir (c:Cir):Prop where
 names:c.parts.length<=64->∀p∈c.parts,p.name.length<=1000
 parts:Sh c.parts
 pipes:Sh c.pipes
def posOkB (ps:List Prt) (pos:List Int) (i:Nat):Bool:=decide (0<=pos.getD i 0∧pos.getD i 0<manyK (kindOf ps i))
def presE (c:Cir) (pos:List Int):Int:=
 if cirE c≠0 then cirE c else if pos.length≠c.parts.length then 8 else if (List.range c.parts.length).all (posOkB c.parts pos)=true then 0 else 2
theorem presE_bad {c:Cir}{pos:List Int}(h0:cirE c=0) (hl:pos.length=c.parts.length) {i:Nat}(hi:i<c.parts.length) (hb:posOkB c.parts pos i=false):presE c pos=2:=by
 unfold presE
 rw[if_neg (by simp[h0]),if_neg (by simp[hl]),if_neg]
 intro h
 have:=List.all_eq_true.1 h i (List.mem_range.2 hi)
 rw[hb]at this
 cases this
theorem presE_good {c:Cir}{pos:List Int}(h0:cirE c=0) (hl:pos.length=c.parts.length) (h:∀i,i<c.parts.length->posOkB c.parts pos i=true):presE c pos=0:=by
 unfold presE
 rw[if_neg (by simp[h0]),if_neg (by simp[hl]),if_pos]
 rw[List.all_eq_true]
 exact fun i hi=>h i (List.mem_range.1 hi)
theorem presCheck_fn (c:Cir) (hc:OkCir c) (pos:List Int) (hp:Sh pos):CallFn Tryz.prog 86 [aCi c,aIs pos] (aI (presE c pos)):=by
 have hch:=CheckZ_fn c hc.names hc.parts hc.pipes
 have hl:=hc.parts
 generalize hP:presE c pos=P
 by_cases h0:cirE c=0
 ·have hr:=cirR_of h0
  have hf:=hr.few
  rw[h0]at hch
  refine callFz_of Tryz.func86 rfl Tryz.ntmps86 (rs:=[.tmp 4]) rfl (by kernel_rfl) (by simp) (by kernel_rfl) ?_
  simp
  refine hch.s ?_
  simp
  by_cases hlen:pos.length=c.parts.length
  ·have hlz:((pos.length:Nat):Int)=c.parts.length:=by omega
   simp[hlz]
   refine V.forI (σ:=Unit) c.parts.length [2,4,21,22] (by simp;exact rfl) (fun i _=>[(23,aI i)]) (fun _ _=>[]) (fun i _=>∀j,j<i->posOkB c.parts pos j=true) () (by simp) (by simp) ⟨by simp[hlz];exact rfl,by simp⟩ ?_ ?_
   ·rintro i ⟨⟩ hi hI
    obtain⟨x,hx⟩:∃x,c.parts[i]=x:=⟨_,rfl⟩
    have hxo:c.parts[i]?=some x:=by rw[List.getElem?_eq_getElem hi,hx]
    have hip:i<pos.length:=by omega
    obtain⟨z,hz⟩:∃z,pos[i]=z:=⟨_,rfl⟩
    have hzo:pos[i]?=some z:=by rw[List.getElem?_eq_getElem hip,hz]
    have hk:=part_kind (hr.part x (List.mem_of_getElem? hxo))
    have hpk:=Positions_k x.kind.toNat (by omega)
    rw[show ((x.kind.toNat:Nat):Int)=x.kind from by omega]at hpk
    have hpo:posOkB c.parts pos i=decide (0<=z∧z<manyK x.kind.toNat):=by
     unfold posOkB
     rw[kindOf_at hxo,List.getD_eq_getElem?_getD,hzo]
     rfl
    simp[hi,hip,hx,hxo,hz,hzo]
    refine hpk.s ?_
    simp
    refine⟨fun hbad=>?_,fun h1 h2=>⟨⟨by omega,by omega⟩,fun j hj=>?_⟩⟩
    ·rw[<- hP,presE_bad h0 hlen hi]
     rw[hpo]
     simp only[decide_eq_false_iff_not]
     omega
    ·by_cases e:j=i
     ·rw[e,hpo]
      simp only[decide_eq_true_eq]
      exact⟨h1,h2⟩
     ·exact hI j (by omega)
   ·rintro⟨⟩ hI
    simp[hlen]
    rw[<- hP,presE_good h0 hlen hI]
  ·have hlz:¬((pos.length:Nat):Int)=c.parts.length:=by omega
   simp[hlz]
   rw[<- hP]
   unfold presE
   rw[if_neg (by simp[h0]),if_pos (by simpa using hlen)]
 ·refine callFz_of Tryz.func86 rfl Tryz.ntmps86 (rs:=[.tmp 4]) rfl (by kernel_rfl) (by simp) (by kernel_rfl) ?_
  simp
  refine hch.s ?_
  simp[h0]
  rw[<- hP]
  unfold presE
  rw[if_pos (by simpa using h0)]




structure PlR (c:Cir):Prop where
 cir:CirR c
 drv:drvE c.parts (netsZ c)=0
 pln:planE c=0






structure CtW where
 vi:Value
 vp:Value
 vm:Value
 I:List (List UInt8)
 P:List Int
 M:List Int


theorem beginR_o (c:Control) (hc:OkC c) (hf:Fine c):CallSt 48 [aC c] (firstSt c):=by
 have hcs:=hf.sig
 have hsm:=hf.sm
 have ha:=hf.act
 have hin:=hf.inp
 refine CallSt.of (callS_of Tryz.func48 rfl Tryz.ntmps48 (rs:=[.cell 2 29]) rfl (by kernel_rfl) (by simp) (by kernel_rfl) ?_)
 simp
 intro b2
 refine V.draw (fun _=>none) (by kernel_rfl) (by kernel_rfl) (by simp) ?_
 simp
 intro u0
 refine⟨by omega,fun u1=>⟨by omega,fun u2=>⟨by omega,fun u3=>⟨by omega,fun u4=>⟨by omega,?_⟩⟩⟩⟩⟩
 intro b3
 refine V.forI (σ:=Unit) c.signals.length [1,2,3] (by simp;exact rfl) (fun i _=>[(4,aI i)]) (fun i _=>[(18,.seq u3 4 1 ((initV c i).map rB))]) (fun _ _=>True) () trivial (by simp) ⟨by simp;exact rfl,by simp[hget,hdel,initV,rB]⟩ ?_ ?_
 ·rintro i-hi -
  obtain⟨x,hx⟩:∃x,c.signals[i]=x:=⟨_,rfl⟩
  have hxo:c.signals[i]?=some x:=by rw[List.getElem?_eq_getElem hi,hx]
  rw[<- initV_set hxo]
  have hl:=initV_length c i (by omega)
  generalize initV c i=l at hl ⊢
  have hil:i<l.length:=by omega
  have hgi:l[i]?=some l[i]:=List.getElem?_eq_getElem hil
  simp[hi,hx]
  refine V.draw (fun _=>none) (by kernel_rfl) (by kernel_rfl) (by simp) ?_
  simp[hi,hx,hil,hgi,rB]
  omega
 ·rintro - -
  simp
  refine (computedR_o c (newSt c c.signals.length) hc hf (newSt_sm hf) (newSt_shape hf)).lend 60 ?_ ?_
  ·simp[hget,packA,encSt,newSt]
  ·intro hd
   simp[stA,stH,stAt,hget,hdel,firstSt]




section
open Go.Shelf Go.RowKit Go.Lib Go.Sort
theorem blockV {w:World}{g n:Nat}{cur:Array Value}{e:TypeId}(h5:w.heap[g]?=some (.cells cur e (0,0))) (d:Array Value) :
  (putRow id (Sort.ahead w n) g 0 d).heap[g]?=some (.cells (putCells id 0 d cur) e (0,0))∧(putRow id (Sort.ahead w n) g 0 d).heap.size=w.heap.size∧∀k,k<w.heap.size->k≠g->(putRow id (Sort.ahead w n) g 0 d).heap[k]?=w.heap[k]?:=by
 refine⟨?_,?_,?_⟩
 ·simp[putRow,mapBlock,Sort.ahead,Array.getElem?_modify,h5,onCells]
 ·simp[putRow,mapBlock,Sort.ahead]
 ·intro k hk hne
  simp[putRow,mapBlock,Sort.ahead,Array.getElem?_modify,Ne.symm hne]
end




section
theorem tel_part {J:List (Pin×Pin)}{Ps:List Made}{on:Made->Bool}{q:Pin}{b:Bool}(h:Tel J Ps on q b):q=noPin∨q=supPin∨∃p∈Ps,q.part=p.name∧q.port∈outsK p.kind∧(p.kind=2->p.valve = -1):=by
 cases h with
 | no=>exact .inl rfl
 | sup=>exact .inr (.inl rfl)
 | plain p hp hk=>exact .inr (.inr ⟨p,hp,rfl,by rcases hk with e | e | e<;>rw[e]<;>simp[outsK],fun e=>by omega⟩)
 | mem p hp hk hv=>exact .inr (.inr ⟨p,hp,rfl,by rw[hk];simp[outsK],fun _=>hv⟩)
 | neg p hp hk=>exact .inr (.inr ⟨p,hp,rfl,by rw[hk];simp[outsK],fun e=>by omega⟩)
 | two p hp hk=>exact .inr (.inr ⟨p,hp,rfl,by rcases hk with e | e<;>rw[e]<;>simp[outsK],fun e=>by omega⟩)
variable {c:Control}
theorem kn_mem {p:Made}(hp:p∈(wholeM c).parts):(p.kind,p.name)∈(wholeM c).parts.map knOf:=List.mem_map.2 ⟨p,hp,rfl⟩
theorem outs_port:∀k,k<14->∀t∈outsK (k:Nat),k=1∨t∈portsK k:=by decide
theorem out_allP (hc:checkC c=0) (hm:manyM (dM c)=false) {q:Pin}(hq:OutP ((wholeM c).parts.map knOf) q):pinZ c q∈allP (cirW c).parts:=by
 obtain⟨k,hk,ht⟩:=hq
 obtain⟨p,hp,rfl,hn⟩:=kn_part hk
 obtain⟨i,hi,_,hki,hpin⟩:=part_index hc hp
 have:=hpin q.port
 rw[hn]at this
 rw[show pinZ c q=((i:Int),q.port) from this]
 refine port_of hi ?_
 rw[hki]
 have hg:=whole_gear hc p hp
 obtain⟨n,n1,n2,_⟩:=gear_part hc hg
 rw[n1]at ht ⊢
 rw[Int.toNat_natCast]
 rcases outs_port n n2 _ ht with e | e
 ·rw[e]at ht
  exact absurd ht (by simp[outsK])
 ·exact e
end
section
variable {c:Control}
theorem cirW_enc (c:Control):aCirc ((dM c).parts,pipesM (dM c))=aCi (cirW c):=by
 show A.record [L.sl ((dM c).parts.map encPart),L.sl ((pipesM (dM c)).map encPipe)]=A.record [L.sl (((dM c).parts.map partZ).map encPa),L.sl (((pipesM (dM c)).map fun x=>(portZ x.1,portZ x.2)).map encPi)]
 rw[List.map_map,List.map_map]
 rfl
theorem cirW_ok (hc:checkC c=0) (hm:manyM (dM c)=false):OkCir (cirW c):=by
 have hr:=cirW_right hc hm
 have h1:=hr.few
 have h2:=hr.many
 refine⟨fun _ p hp=>?_,by unfold Sh;omega,by unfold Sh;omega⟩
 have hpe:=hr.part p hp
 unfold partE at hpe
 split at hpe
 ·cases hpe
 ·split at hpe
  ·rename_i h;exact absurd hpe h
  ·rename_i h
   have h:=Classical.not_not.1 h
   unfold wordE at h
   split at h
   ·cases h
   ·split at h
    ·cases h
    ·split at h
     ·cases h
     ·omega
theorem posW_ok (hc:checkC c=0) (hm:manyM (dM c)=false) (s:State):presE (cirW c) (posW c s)=0∧(posW c s).length=(cirW c).parts.length:=by
 have hl:(posW c s).length=(cirW c).parts.length:=by simp[posW,cirW,cirOf]
 refine⟨presE_good (cirW_zero hc hm) hl fun i hi=>?_,hl⟩
 have hi':i<(dM c).parts.length:=by simpa [cirW,cirOf]using hi
 have hp:=List.getElem?_eq_getElem hi'
 generalize (dM c).parts[i]=p at hp
 have hg:=dM_k hc (List.mem_of_getElem? hp)
 have hk:kindOf (cirW c).parts i=p.kind.toNat:=by
  unfold kindOf cirW cirOf
  simp only[List.getElem?_map,hp,Option.map_some,partZ]
 have hpos:(posW c s).getD i 0=placeI (onM c (gatesP c s) p):=by
  unfold posW
  rw[List.getD_eq_getElem?_getD,List.getElem?_map,hp]
  rfl
 unfold posOkB
 rw[hpos,hk]
 have h01:placeI (onM c (gatesP c s) p)=0∨placeI (onM c (gatesP c s) p)=1:=by
  unfold placeI
  split
  ·exact .inr rfl
  ·exact .inl rfl
 have h2:1<manyK p.kind.toNat∨onM c (gatesP c s) p=false:=by
  cases hg<;>first | (left;dsimp only;decide) | (right;rfl)
 rw[decide_eq_true_eq]
 rcases h2 with h2 | h2
 ·omega
 ·rw[h2]
  refine⟨by decide,?_⟩
  rcases many_two p.kind.toNat with e | e<;>rw[e]<;>decide
end
theorem nets_sh {c:Cir}(h:CirR c):(netsZ c).length<=448∧∀l∈netsZ c,l.length<=448:=⟨netsZ_few h,fun l hl=>(netsZ_net h l hl).1⟩
theorem right37_fn (c:Control) (s:State) (hc:OkC c) (hs:OkSt s):CallFn Tryz.prog 8 [aC c,aSt s] (aB (rightB c s)):=by
 have hF:=Few_fn c hc
 have hG:=FewStates_fn s hs
 refine callFz_of Tryz.func8 rfl Tryz.ntmps8 (rs:=[.tmp 4]) rfl (by kernel_rfl) (by simp) (by kernel_rfl) ?_
 simp
 refine hF.s ?_
 simp
 refine GCall.fn (aB (fewS s)) (fun h=>⟨h,hG⟩) ?_
 simp
 refine GCall.fn (aI (rightC c s)) (fun h=>⟨by first | trivial | exact h,RightR_fn c s hc (few_c h.1).1 (few_c h.1).2 (few_sm h.2)⟩) ?_
 simp[rightB]
theorem tel_outL {c:Control}{s:State}{q:Pin}{b:Bool}(hc:checkC c=0) (h:TelW c s q b) (hq:q≠noPin):OutP ((wholeM c).parts.map knOf) q:=by
 rcases tel_part h with e | e | ⟨p,hp,e1,e2,_⟩
 ·exact absurd e hq
 ·rw[e]
  exact⟨0,(whole_fullT (inC_of hc).act).sup,by decide⟩
 ·exact⟨p.kind,by rw[e1];exact kn_mem hp,e2⟩
theorem port_row {c:Control}(hoc:OkC c) (hz:checkC c=0) (hm:manyM (dM c)=false) {s:State}(hR:rightC c s=0) {k:Nat}(hk:(k:Int)<countC c) (hbig:countC c<=1000000) :
  ∃(po:PortZ) (ok:Bool),CallFn Tryz.prog 17 [aC c,aI k] (.tuple [.record (encPo po),aB ok,aI 0])∧(ok=false->valL c s k=false)∧(ok=true->∃q,q≠noPin∧po=pinZ c q∧TelW c s q (valL c s k)∧po∈allP (cirW c).parts):=by
 have hp:=Port_fn c k hoc ((inR_i64 _).2 ⟨by omega,by omega⟩)
 have ht:=lines_tel hz hR (l:=(k:Int)) ⟨by omega,hk⟩
 unfold portQ37 at hp
 rw[if_neg (by simp[hz]),if_neg (by simp[hm]),if_neg (by omega)]at hp
 by_cases hn:portM c (wholeM c).gates k=noPin
 ·rw[if_pos hn]at hp
  exact⟨(0,[]),false,hp,fun _=>tel_no ht hn,fun h=>by cases h⟩
 ·rw[if_neg hn]at hp
  exact⟨pinZ c (portM c (wholeM c).gates k),true,hp,fun h=>by (cases h),fun _=>⟨_,hn,rfl,ht,out_allP hz hm (tel_outL hz ht hn)⟩⟩
structure PuS where
 ps:List Prt
 l:List PipeZ
 ns:List (List PortZ)
 m:Nat
 b:Nat
 E:List (KeyK×List L)
abbrev PuS.cells (s:PuS):List A:=[.dat (.sl (s.ps.map encPa)),.dat (.sl (s.l.map encPi)),aI s.ns.length,.map 171 s.m]
abbrev PuS.hp (s:PuS):Heap:=[(170,.box s.b s.cells),(171,.mapK s.m false s.E)]
structure PuS.OK (s:PuS):Prop where
 few:s.ps.length<=64
 kinds:∀p∈s.ps,0<=p.kind∧p.kind<14
 nets:s.ns.length<=448
 of:∀p∈allP s.ps,kget s.E p=some [.int .i64 (netW s.ns p:Nat)]∧netW s.ns p<s.ns.length
theorem puNet_s {s:PuS}(h:s.OK) {i:Nat}{t:List UInt8}(hp:((i:Int),t)∈allP s.ps):CallS Tryz.prog 76 [.ptr 170 s.b 0,aI i,aT t] s.hp fun r H'=>r=aI (netW s.ns ((i:Int),t))∧H'=s.hp:=by
 obtain⟨h1,h2⟩:=h.of _ hp
 have hok:=okK_port (ps:=s.ps) (by have:=h.few;omega) hp
 generalize netW s.ns ((i:Int),t)=k at *
 refine callS_of Tryz.func76 rfl Tryz.ntmps76 (rs:=[.tmp 6]) rfl (by kernel_rfl) (by simp) (by kernel_rfl) ?_
 simp[h1]
 exact hok
abbrev pu (c:Cir) (m b:Nat) (E:List (KeyK×List L)):PuS:=⟨c.parts,c.pipes,netsZ c,m,b,E⟩
theorem pu_ok {c:Cir}(hr:CirR c) {E:List (KeyK×List L)}(h:OfD (netsZ c) (netsZ c).length 0 E) (m b:Nat):(pu c m b E).OK:=
 ⟨hr.few,fun p hp=>part_kind (hr.part p hp),netsZ_few hr,h.all hr⟩
theorem pu_a {c:Cir}(hr:CirR c) (m b:Nat):V ⟨Tryz.prog,none,56⟩ (restC Tryz.f57 5) (hdE [(4,.nilp),(5,aI 0),(7,aNets (netsZ c)),(9,.ptr 170 b 0)] []) (pu c m b []).hp (RetV Tryz.prog [.tmp 4,.tmp 5] fun r H'=>∃m b E,r=.tuple [.ptr 170 b 0,aI 0]∧subP (pu c m b E).hp H'∧OfD (netsZ c) (netsZ c).length 0 E):=by
 refine V.rest rfl ?_
 refine V.of_vcN 1 ?_
 have hfew:=netsZ_few hr
 simp
 refine V.forI (σ:=List (KeyK×List L)) (netsZ c).length [4,5,9,34,35] (by simp;exact rfl) (fun i _=>[(36,aI i)]) (fun _ q=>(pu c m b q).hp) (fun i q=>OfD (netsZ c) i 0 q) [] (OfD.zero _) (by simp) ⟨by simp;exact rfl,by simp⟩ ?_ ?_
 ·rintro i q hi hI
  obtain⟨l,hl⟩:∃l,(netsZ c)[i]=l:=⟨_,rfl⟩
  have hlo:(netsZ c)[i]?=some l:=by rw[List.getElem?_eq_getElem hi,hl]
  obtain⟨n1,n2,n3⟩:=netsZ_net hr l (List.mem_of_getElem? hlo)
  simp[hi,hl,hlo]
  refine V.forI (σ:=List (KeyK×List L)) l.length [4,5,9,10,11,34,35,36,41,42] (by simp;exact rfl) (fun j _=>[(43,aI j)]) (fun _ q=>(pu c m b q).hp) (fun j q=>OfD (netsZ c) i j q) q hI (by simp) ⟨by simp;exact rfl,by simp⟩ ?_ ?_
  ·rintro j q hj hI
   obtain⟨x,hx⟩:∃x,l[j]=x:=⟨_,rfl⟩
   have hxo:l[j]?=some x:=by rw[List.getElem?_eq_getElem hj,hx]
   have hok:=okK_port (ps:=c.parts) (by have:=hr.few;omega) (n3 x (List.mem_of_getElem? hxo))
   simp[hj,hx,hxo]
   intro b10
   refine V.drawX (fun _=>none) (by kernel_rfl) (by kernel_rfl) (by simp) ?_
   simp
   exact⟨hok,⟨by omega,by omega⟩,hI.put hlo hxo⟩
  ·rintro q hI
   simp
   exact⟨⟨by omega,by omega⟩,hI.next hlo⟩
 ·rintro q hI
  simp
  refine V.of_vc ?_
  simp
  exact⟨m,q,subP.refl _,hI⟩
theorem puOf_s (c:Cir) (hc:OkCir c) (pos:List Int) (hp:Sh pos) :
  CallS Tryz.prog 57 [aCi c,aIs pos] [] fun r H'=>if presE c pos=0 then ∃s:PuS,r=.tuple [.ptr 170 s.b 0,aI 0]∧H'=s.hp∧s.OK∧s.ps=c.parts∧s.ns=netsZ c else r=.tuple [.nilp,aI (presE c pos)]∧H'=[]:=by
 have hn:=Nets_fn c hc.names hc.parts hc.pipes
 have hpc:=presCheck_fn c hc pos hp
 by_cases h0:presE c pos=0
 ·have hz:cirE c=0:=by
   unfold presE at h0
   split at h0
   ·rename_i h;exact absurd h0 h
   ·rename_i h;exact Classical.not_not.1 h
  have hr:=cirR_of hz
  rw[hz]at hn
  rw[h0]at hpc
  simp only[h0,if_true]
  refine CallS.dropP (callS_cut 5 Tryz.func57 rfl Tryz.ntmps57 (rs:=[.tmp 4,.tmp 5]) rfl (by kernel_rfl) (by simp) (by kernel_rfl) (K:=fun r H'=>∃m b E,r=.tuple [.ptr 170 b 0,aI 0]∧subP (pu c m b E).hp H'∧OfD (netsZ c) (netsZ c).length 0 E) ?_) (fun r H' ⟨m,b,E,h1,h2,h3⟩=>⟨_,h2,pu c m b E,h1,rfl,pu_ok hr h3 _ _,rfl,rfl⟩)
  simp
  refine hpc.s ?_
  simp
  refine hn.s ?_
  simp
  intro m b
  refine V.cutIN 0 (Hs:=(pu c m b []).hp) [(4,.nilp),(5,aI 0),(7,aNets (netsZ c)),(9,.ptr 170 b 0)] ?_ ?_ ?_
  ·intro p hp x v hv
   simp only[List.mem_cons,List.not_mem_nil,or_false]at hp
   rcases hp with rfl | rfl | rfl | rfl
   ·simpa using hv
   ·simpa using hv
   ·simpa using hv
   ·simpa [D]using hv
  ·intro x H0 hi
   have h1:Inv x ([(170,Ent.box b [.dat (.sl (c.parts.map encPa)),.dat (.sl (c.pipes.map encPi)),aI (netsZ c).length,.map 31 m]),(171,.mapK m false [])]++H0):=hi.ents (by simp)
   have h2:=Inv.swap (g:=170) (e:=.box b [.dat (.sl (c.parts.map encPa)),.dat (.sl (c.pipes.map encPi)),aI (netsZ c).length,.map 31 m]) (e':=.box b (pu c m b []).cells) rfl (box_sat (Ds_c D_i (Ds_c D_i (Ds_c D_i (Ds_c D_mtag Ds_i))))) (fun _ h=>h) h1
   exact h2
  ·exact pu_a hr m b
 ·simp only[h0,if_false]
  refine callS_of Tryz.func57 rfl Tryz.ntmps57 (rs:=[.tmp 4,.tmp 5]) rfl (by kernel_rfl) (by simp) (by kernel_rfl) ?_
  simp
  refine hpc.s ?_
  simp[h0]
abbrev encPg (y:Psg):List L:=[.int .i64 (y.part:Int),.int .i64 (y.to:Int),.sl (y.src.map encN),.bool y.all]
abbrev rPg (y:Psg):List A:=(encPg y).map A.dat
theorem rowsD_Pg (xs:List Psg):rowsD (xs.map rPg)=xs.map encPg:=by unfold rowsD;rw[List.map_map];rfl
theorem allD_Pg (xs:List Psg):allD (xs.map rPg)=true:=by simp[allD,isD]
attribute [simp] rowsD_Pg allD_Pg
theorem psgsN_succ (ps:List Prt) (nets:List (List PortZ)) (pos:List Int) (n:Nat):psgsN ps nets pos (n+1)=psgsN ps nets pos n++psgsI ps nets pos n:=by
 unfold psgsN
 rw[List.range_succ,List.flatMap_append]
 simp
theorem psgsN_len (ps:List Prt) (nets:List (List PortZ)) (pos:List Int):∀n,(psgsN ps nets pos n).length<=n
 | 0=>by simp[psgsN]
 | n+1=>by
  have h:=psgsN_len ps nets pos n
  have h2:=passK_len (kindOf ps n) (posN pos n)
  rw[psgsN_succ,List.length_append]
  unfold psgsI
  rw[List.length_map]
  omega
def PosOK (ps:List Prt) (pos:List Int):Prop:=pos.length=ps.length∧∀i,i<ps.length->0<=pos.getD i 0∧pos.getD i 0<manyK (kindOf ps i)
theorem presE_pos {c:Cir}{pos:List Int}(h:presE c pos=0):cirE c=0∧PosOK c.parts pos:=by
 unfold presE at h
 split at h
 ·rename_i h0;exact absurd h h0
 ·rename_i h0
  split at h
  ·cases h
  ·rename_i h1
   split at h
   ·rename_i h2
    refine⟨Classical.not_not.1 h0,Classical.not_not.1 h1,fun i hi=>?_⟩
    have:=List.all_eq_true.1 h2 i (List.mem_range.2 hi)
    unfold posOkB at this
    simpa using this
   ·cases h
theorem PosOK.at {ps:List Prt}{pos:List Int}(h:PosOK ps pos) {i:Nat}(hi:i<ps.length):pos[i]?=some (posN pos i:Int)∧posN pos i<manyK (kindOf ps i)∧posN pos i<2:=by
 obtain⟨h1,h2⟩:=h
 have h3:=h2 i hi
 have h4:pos[i]?=some pos[i]:=List.getElem?_eq_getElem (by omega)
 have h5:pos.getD i 0=pos[i]:=by rw[List.getD_eq_getElem?_getD,h4];rfl
 unfold posN
 rw[h5]at h3 ⊢
 refine⟨by rw[h4];congr 1;omega,by omega,?_⟩
 rcases many_two (kindOf ps i) with e | e<;>omega
abbrev pgE (g:Value) (l:List Psg):Nat×Ent:=(71,.seq g 195 4 (l.map rPg))
theorem passages_s {s:PuS}(h:s.OK) {pos:List Int}(hp:PosOK s.ps pos) :
  CallS Tryz.prog 122 [.ptr 170 s.b 0,aIs pos] s.hp fun r H'=>r=.dat (.sl ((psgsN s.ps s.ns pos s.ps.length).map encPg))∧H'=s.hp:=by
 have hfew:=h.few
 have hpl:=hp.1
 refine CallS.frzTop (τ:=71) (e:=195) (sz:=4) (rows:=(psgsN s.ps s.ns pos s.ps.length).map rPg) (allD_Pg _) (rowsD_Pg _) (callS_of Tryz.func122 rfl Tryz.ntmps122 (rs:=[.tmp 4]) rfl (by kernel_rfl) (by simp) (by kernel_rfl) ?_)
 simp
 refine V.forI (σ:=Value) s.ps.length [0,1,4,19,20] (by simp;exact rfl) (fun i g=>[(5,.own 71 g),(21,aI i)]) (fun i g=>pgE g (psgsN s.ps s.ns pos i)::s.hp) (fun _ _=>True) (.slice none 0 0) trivial (by simp) ⟨by simp;exact rfl,by simp[psgsN]⟩ ?_ ?_
 ·rintro i g hi -
  obtain⟨p,hpp⟩:∃p,s.ps[i]=p:=⟨_,rfl⟩
  have hpo:s.ps[i]?=some p:=by rw[List.getElem?_eq_getElem hi,hpp]
  obtain⟨q1,q2,q3⟩:=hp.at hi
  obtain⟨hil,q4⟩:=List.getElem?_eq_some_iff.1 q1
  have hk:=kindOf_at hpo
  have hkn:=h.kinds p (List.mem_of_getElem? hpo)
  have hpk:=Passes_k p.kind.toNat (by omega) (posN pos i) (by rw[<- hk];exact q2)
  rw[show ((p.kind.toNat:Nat):Int)=p.kind from by omega]at hpk
  have hsrc:∀y∈passK p.kind.toNat (posN pos i),y.src.length<=2∧((i:Int),y.to)∈allP s.ps∧∀t∈y.src,((i:Int),t)∈allP s.ps:=fun y hy=>by
   rw[<- hk]at hy
   have hk14:=(pass_to hy).2.2.2.2.2
   exact⟨passK_srcl _ _ y hy,port_of hi (pass_port _ hk14 _ q3 y hy),fun t ht=>port_of hi (passK_src hk14 q3 hy ht)⟩
  have hpi:psgsI s.ps s.ns pos i=(passK p.kind.toNat (posN pos i)).map fun y=>⟨i,netW s.ns ((i:Int),y.to),y.src.map fun t=>netW s.ns ((i:Int),t),y.all⟩:=by
   unfold psgsI
   rw[hk]
  have hpl1:=passK_len p.kind.toNat (posN pos i)
  have hnl:=psgsN_len s.ps s.ns pos i
  rw[psgsN_succ,hpi]
  generalize psgsN s.ps s.ns pos i=W at *
  generalize passK p.kind.toNat (posN pos i)=Y at *
  have hFl:(Y.map fun y=>(⟨i,netW s.ns ((i:Int),y.to),y.src.map fun t=>netW s.ns ((i:Int),t),y.all⟩:Psg)).length=Y.length:=List.length_map _
  have hFj:∀(j:Nat) (y:PassP),Y[j]?=some y->(Y.map fun y=>(⟨i,netW s.ns ((i:Int),y.to),y.src.map fun t=>netW s.ns ((i:Int),t),y.all⟩:Psg))[j]?=some (⟨i,netW s.ns ((i:Int),y.to),y.src.map fun t=>netW s.ns ((i:Int),t),y.all⟩:Psg):=fun j y h=>by rw[List.getElem?_map,h];rfl
  generalize (Y.map fun y=>(⟨i,netW s.ns ((i:Int),y.to),y.src.map fun t=>netW s.ns ((i:Int),t),y.all⟩:Psg))=F at *
  simp[hi,hpp,hpo]
  intro b7
  refine V.drawX (fun t=>if t=33 then some (.fn (.tuple [.dat (.sl (Y.map encPs')),aI 0])) else none) (by kernel_rfl) (by kernel_rfl) (by simp) ?_
  simp[hil,q1,q4]
  refine⟨hpk,?_⟩
  simp
  refine V.forV (σ:=Value) Y.length [0,1,4,6,7,19,20,21,36,37] (by simp;exact rfl) (fun j g=>[(5,.own 71 g),(38,aI j)]) (fun j g=>pgE g (W++F.take j)::(7,.box b7 ((encPa p).map A.dat))::s.hp) (fun _ _=>True) g trivial (by simp) ⟨by simp;exact rfl,by simp⟩ ?_ ?_
  ·rintro j g hj -
   obtain⟨y,hy⟩:∃y,Y[j]=y:=⟨_,rfl⟩
   have hyo:Y[j]?=some y:=by rw[List.getElem?_eq_getElem hj,hy]
   obtain⟨y1,y2,y3⟩:=hsrc y (List.mem_of_getElem? hyo)
   have hnet:=puNet_s h y2
   have hnt:=fun t ht=>puNet_s h (y3 t ht)
   rw[List.take_add_one,hFj j y hyo]
   have hUl:(W++F.take j).length<=100:=by rw[List.length_append,List.length_take];omega
   rw[<- List.append_assoc]
   generalize W++F.take j=U at *
   obtain⟨N,hN⟩:∃N,netW s.ns ((i:Int),y.to)=N:=⟨_,rfl⟩
   rw[hN]at hnet ⊢
   refine V.seqV (V.of_vc ?_)
   simp[hj]
   refine V.seqV (V.condV ?_)
   simp
   refine V.of_vc ?_
   simp
   refine V.seqV (V.blockV (V.of_vcN 3 ?_))
   simp[hj,hy,hyo]
   intro b11
   refine V.drawX (fun t=>if t=47 then some (.ro (aI N)) else none) (by kernel_rfl) (by kernel_rfl) (by simp) ?_
   simp
   refine⟨hnet,?_⟩
   simp
   intro b12
   refine⟨by kernel_rfl,?_⟩
   refine V.inv (H':=(90,.seq (.slice none 0 0) 3 1 [])::(12,.box b12 [aI i,aI N,.own 90 (.slice none 0 0),aB y.all])::(11,.box b11 [aT y.to,aTs y.src,aB y.all])::pgE g U::(7,.box b7 ((encPa p).map A.dat))::s.hp) (fun x H0 hi=>?_) ?_
   ·have h1:=Inv.swap (g:=12) (e:=.box b12 [aI i,aI N,.nils,aB y.all]) (e':=.box b12 [aI i,aI N,.own 90 (.slice none 0 0),aB y.all]) rfl (box_sat (Ds_c D_i (Ds_c D_i (Ds_c D_nilo (Ds_c D_i Ds_i))))) (fun b hb=>hb) hi
    exact Inv.nil h1 ⟨rfl,rfl⟩
   have hZl:(y.src.map fun t=>netW s.ns ((i:Int),t)).length=y.src.length:=List.length_map _
   have hZj:∀(n:Nat) (t:List UInt8),y.src[n]?=some t->(y.src.map fun t=>netW s.ns ((i:Int),t))[n]?=some (netW s.ns ((i:Int),t)):=fun n t h=>by rw[List.getElem?_map,h];rfl
   generalize (y.src.map fun t=>netW s.ns ((i:Int),t))=Z at *
   refine V.forI (σ:=Value) y.src.length [0,1,4,5,6,7,11,12,19,20,21,36,37,38,52,53] (by simp;exact rfl) (fun n _=>[(54,aI n)]) (fun n v=>(90,.seq v 3 1 ((Z.take n).map rN))::(12,.box b12 [aI i,aI N,.own 90 v,aB y.all])::(11,.box b11 [aT y.to,aTs y.src,aB y.all])::pgE g U::(7,.box b7 ((encPa p).map A.dat))::s.hp) (fun _ _=>True) (.slice none 0 0) trivial (by simp) ⟨by simp;exact rfl,by simp⟩ ?_ ?_
   ·rintro n v hn -
    obtain⟨t,ht⟩:∃t,y.src[n]=t:=⟨_,rfl⟩
    have hto:y.src[n]?=some t:=by rw[List.getElem?_eq_getElem hn,ht]
    have hnt:=hnt t (List.mem_of_getElem? hto)
    have hzn:=hZj n t hto
    obtain⟨M,hM⟩:∃M,netW s.ns ((i:Int),t)=M:=⟨_,rfl⟩
    rw[hM]at hnt hzn
    rw[List.take_add_one,hzn]
    have hZ:(Z.take n).length<=2:=by rw[List.length_take];omega
    generalize Z.take n=Y2 at *
    simp[hn,ht,hto]
    refine V.drawX (fun t=>if t=63 then some (.ro (aI M)) else none) (by kernel_rfl) (by kernel_rfl) (by simp) ?_
    simp
    refine⟨hnt,?_⟩
    simp
    exact⟨by omega,by kernel_rfl,by omega,by omega⟩
   ·rintro v -
    rw[List.take_of_length_le (by omega:Z.length<=y.src.length)]
    simp
    refine V.ofG ?_
    refine Gh.frzBox (g:=12) (τ:=90) (j:=2) (t:=90) rfl rfl (by simp[allD,isD]) rfl ?_
    refine Gh.here ?_
    refine V.of_vc ?_
    simp
    intro u
    refine⟨by omega,V.of_vc ?_⟩
    simp
    refine⟨⟨by omega,by omega⟩,Gh.here ?_⟩
    simp
  ·rintro g -
   simp
   exact⟨⟨by omega,by omega⟩,List.take_of_length_le (by rw[List.length_map];omega)⟩
 ·rintro g -
  simp
  exact subP.refl _
abbrev zN' (l:List Nat):List Int:=l.map fun n:Nat=>(n:Int)
theorem aIs_zN (l:List Nat):aIs (zN' l)=aNs l:=by
 unfold aIs aNs
 rw[List.map_map]
 rfl
theorem any_zN (l:List Nat) (p:Int->Bool):(zN' l).any p=l.any fun n=>p (n:Int):=by rw[List.any_map];rfl
theorem containsM_s (xs:List Int) (p:Int->Bool) (f:FuncId) (first caps:List A) (H:Heap) (hx:Sh xs) (hp:∀n∈xs,CallS Tryz.prog f (first++[aI n]++caps) H fun r H'=>r=aB (p n)∧H'=H) :
  CallS Tryz.prog 87 [aIs xs,.fn f first caps] H fun r H'=>r=aB (xs.any p)∧H'=H:=by
 have h:=idxM_s xs p f first caps H hx hp
 refine CallS.dropP (callS_of Tryz.func87 rfl Tryz.ntmps87 (rs:=[.tmp 4]) rfl (by kernel_rfl) (by simp) (by kernel_rfl) (K:=fun r H'=>r=aB (xs.any p)∧subP H H') ?_) (fun _ _ ⟨h1,h2⟩=>⟨_,h2,h1,rfl⟩)
 simp
 refine h.mono ?_
 rintro r H' ⟨rfl,rfl⟩
 simp
 refine⟨?_,subP.refl _⟩
 rw[idxI_ge,List.findIdx?_isSome]
theorem getD_at {st:List Int}{n:Nat}(h:n<st.length):st[n]?=some (st.getD n 0)∧st[n]=st.getD n 0:=by
 rw[List.getD_eq_getElem?_getD,List.getElem?_eq_getElem h]
 exact⟨rfl,rfl⟩
theorem flows1_fn (st:List Int) (n:Nat) (hn:n<st.length) (hl:st.length<=1000):CallFn Tryz.prog 182 [aI n,.rptr [.sl (st.map encI)]] (aB (st.getD n 0==2)):=by
 obtain⟨h1,h2⟩:=getD_at hn
 generalize st.getD n 0=z at *
 refine callFz_of Tryz.func182 rfl Tryz.ntmps182 (rs:=[.tmp 3]) rfl (by kernel_rfl) (by simp) (by kernel_rfl) ?_
 simp[hn,h1,h2]
theorem flows2_s (st:List Int) (n:Nat) (hn:n<st.length) (hl:st.length<=1000) (b5:Nat) :
  CallS Tryz.prog 183 [aI n,.ptr 5 b5 0] [(5,.box b5 [.fn 182 [] [.rptr [.sl (st.map encI)]]])] fun r H'=>r=aB (!(st.getD n 0==2))∧H'=[(5,.box b5 [.fn 182 [] [.rptr [.sl (st.map encI)]]])]:=by
 have h:=flows1_fn st n hn hl
 generalize (st.getD n 0==2)=z at *
 refine callS_of Tryz.func183 rfl Tryz.ntmps183 (rs:=[.tmp 3]) rfl (by kernel_rfl) (by simp) (by kernel_rfl) ?_
 simp
 refine h.s ?_
 simp
theorem flows_fn (st:List Int) (y:Psg) (hl:st.length<=1000) (hy:∀n∈y.src,n<st.length) (hs:y.src.length<=2):CallFn Tryz.prog 125 [aIs st,.record (encPg y)] (aB (flowsZ st y)):=by
 have hc:=fun b5=>containsM_s (zN' y.src) (fun n=>!(st.getD n.toNat 0==2)) 183 [] [.ptr 5 b5 0] [(5,.box b5 [.fn 182 [] [.rptr [.sl (st.map encI)]]])] (by unfold Sh;simp;omega) (fun n hn=>by
  obtain⟨v,hv,rfl⟩:=List.mem_map.1 hn
  exact flows2_s st v (hy v hv) hl b5)
 have hd:=containsF_fn (zN' y.src) (fun n=>st.getD n.toNat 0==2) 182 [] [.rptr [.sl (st.map encI)]] (by unfold Sh;simp;omega) (fun n hn=>by
  obtain⟨v,hv,rfl⟩:=List.mem_map.1 hn
  exact flows1_fn st v (hy v hv) hl)
 rw[aIs_zN,any_zN]at hd
 have hc:=fun b5=>by
  have:=hc b5
  rw[aIs_zN,any_zN]at this
  exact this
 simp only[Int.toNat_natCast]at hc hd
 have hf:flowsZ st y=if y.all=true then !(y.src.any fun n=>!(st.getD n 0==2)) else y.src.any fun n=>st.getD n 0==2:=by
  unfold flowsZ
  split
  ·rw[List.all_eq_not_any_not]
  ·rfl
 rw[hf]
 generalize (y.src.any fun n=>!(st.getD n 0==2))=u at *
 generalize (y.src.any fun n=>st.getD n 0==2)=w at *
 refine callFz_of Tryz.func125 rfl Tryz.ntmps125 (rs:=[.tmp 4]) rfl (by kernel_rfl) (by simp) (by kernel_rfl) ?_
 simp
 intro b5
 refine⟨fun ha=>?_,fun ha=>?_⟩
 ·rw[if_pos ha]
  refine (hc b5).mono ?_
  rintro r H' ⟨rfl,rfl⟩
  simp
 ·rw[if_neg (by simp[ha])]
  refine hd.s ?_
  simp
abbrev clH (g:Value) (b:Nat) (st:List Int):Heap:=[(18,.seq g 3 1 (st.map rI)),(5,.box b [.own 18 g])]
theorem states1_s (st:List Int) (y:Psg) (hl:st.length<=1000) (hy:∀n∈y.src,n<st.length) (hs:y.src.length<=2) (g:Value) (b:Nat) :
  CallS Tryz.prog 124 [.record (encPg y),.ptr 5 b 0] (clH g b st) fun r H'=>r=aB (flowsZ st y)∧H'=clH g b st:=by
 have h:=flows_fn st y hl hy hs
 generalize flowsZ st y=z at *
 refine CallS.dropP (callS_of Tryz.func124 rfl Tryz.ntmps124 (rs:=[.tmp 3]) rfl (by kernel_rfl) (by simp) (by kernel_rfl) (K:=fun r H'=>r=aB z∧subP (clH g b st) H') ?_) (fun _ _ ⟨h1,h2⟩=>⟨_,h2,h1,rfl⟩)
 simp
 refine h.lend (by simp[frzs,frz,hget,hdel]) rfl ?_
 simp
 exact subP.refl _
theorem states21_s (st:List Int) (n:Nat) (hn:n<st.length) (hl:st.length<=1000) (g:Value) (b:Nat) :
  CallS Tryz.prog 128 [aI n,.ptr 5 b 0] (clH g b st) fun r H'=>r=aB (st.getD n 0==1)∧H'=clH g b st:=by
 obtain⟨h1,h2⟩:=getD_at hn
 generalize st.getD n 0=z at *
 refine callS_of Tryz.func128 rfl Tryz.ntmps128 (rs:=[.tmp 3]) rfl (by kernel_rfl) (by simp) (by kernel_rfl) ?_
 simp[hn,h1,h2]
theorem states2_s (st:List Int) (y:Psg) (hl:st.length<=1000) (hy:∀n∈y.src,n<st.length) (hs:y.src.length<=2) (g:Value) (b:Nat) :
  CallS Tryz.prog 127 [.record (encPg y),.ptr 5 b 0] (clH g b st) fun r H'=>r=aB (airZ st y)∧H'=clH g b st:=by
 have hc:=containsM_s (zN' y.src) (fun n=>st.getD n.toNat 0==1) 128 [] [.ptr 5 b 0] (clH g b st) (by unfold Sh;simp;omega) (fun n hn=>by
  obtain⟨v,hv,rfl⟩:=List.mem_map.1 hn
  exact states21_s st v (hy v hv) hl g b)
 rw[aIs_zN,any_zN]at hc
 simp only[Int.toNat_natCast]at hc
 have hf:airZ st y=y.src.any fun n=>st.getD n 0==1:=rfl
 rw[hf]
 generalize (y.src.any fun n=>st.getD n 0==1)=z at *
 refine CallS.dropP (callS_of Tryz.func127 rfl Tryz.ntmps127 (rs:=[.tmp 3]) rfl (by kernel_rfl) (by simp) (by kernel_rfl) (K:=fun r H'=>r=aB z∧subP (clH g b st) H') ?_) (fun _ _ ⟨h1,h2⟩=>⟨_,h2,h1,rfl⟩)
 simp
 refine hc.mono ?_
 rintro r H' ⟨rfl,rfl⟩
 simp
 exact subP.refl _
theorem closed_s (v:Int) (hv:v≠0) (tk:List Int->Psg->Bool) (f:FuncId) (l:List Psg) (N:Nat) (hl:l.length<=1000) (hN:N<=1000) (hto:∀y∈l,y.to<N) (g:Value) (b:Nat)
  (hc:∀st y,y∈l->st.length=N->CallS Tryz.prog f [.record (encPg y),.ptr 5 b 0] (clH g b st) fun r H'=>r=aB (tk st y)∧H'=clH g b st) (st0:List Int) (h0:st0.length=N) :
  CallS Tryz.prog 123 [.own 18 g,.dat (.sl (l.map encPg)),aI v,.fn f [] [.ptr 5 b 0]] (clH g b st0) fun r H'=>r=.tuple []∧H'=clH g b (closeZ v tk l (N+1) st0):=by
 generalize hR:closeZ v tk l (N+1) st0=R
 refine CallS.dropP (callS_of Tryz.func123 rfl Tryz.ntmps123 (rs:=[]) rfl (by kernel_rfl) (by simp) (by kernel_rfl) (K:=fun r H'=>r=.tuple []∧subP (clH g b R) H') ?_) (fun _ _ ⟨h1,h2⟩=>⟨_,h2,h1,rfl⟩)
 simp
 refine V.for' (ι:=List Int×Bool×Nat) [0,1,2,3] (fun q=>[(8,aB q.2.1)]) (fun q=>clH g b q.1) (fun q=>q.1.length=N∧if q.2.1=true then zeros q.1<q.2.2∧closeZ v tk l q.2.2 q.1=R else q.1=R) (fun q=>if q.2.1=true then zeros q.1+1 else 0) (st0,true,N+1) ⟨⟨h0,?_⟩,by simp,subP.refl _⟩ ?_
 ·have:=zeros_le st0
  exact⟨by simp only;omega,hR⟩
 ·rintro⟨st,m,n⟩ ⟨h1,h2⟩
  simp only at h1 h2
  cases m with
  | false=>
   simp only[Bool.false_eq_true,if_false]at h2
   subst h2
   simp
   exact subP.refl _
  | true=>
   simp only[if_true]at h2
   obtain⟨h2,h3⟩:=h2
   obtain⟨n,rfl⟩:∃k,n=k+1:=⟨n-1,by omega⟩
   obtain⟨s1,s2⟩:=sweep_zeros hv (tk:=tk) hto h1
   unfold closeZ at h3
   simp
   refine V.forI (σ:=List Int×Bool) l.length [0,1,2,3,12,13] (by simp;exact rfl) (fun j q=>[(8,aB q.2),(14,aI j)]) (fun _ q=>clH g b q.1) (fun j q=>q.1.length=N∧q=(l.take j).foldl (swStep v tk) (st,false)) (st,false) ⟨h1,rfl⟩ (by simp) ⟨by simp;exact rfl,by simp⟩ ?_ ?_
   ·rintro j ⟨s,m⟩ hj ⟨k1,k2⟩
    simp only at k1
    obtain⟨y,hy⟩:∃y,l[j]=y:=⟨_,rfl⟩
    have hyo:l[j]?=some y:=by rw[List.getElem?_eq_getElem hj,hy]
    have hym:=List.mem_of_getElem? hyo
    have hyt:=hto y hym
    have hcs:=hc s y hym k1
    have hst:(l.take (j+1)).foldl (swStep v tk) (st,false)=swStep v tk (s,m) y:=by
     rw[List.take_add_one,hyo,List.foldl_append,<- k2]
     rfl
    rw[hst]
    unfold swStep
    simp only
    have hys:y.to<s.length:=by omega
    obtain⟨e1,e2⟩:=getD_at hys
    generalize s.getD y.to 0=z at *
    simp[hj,hy,hyo]
    intro b10
    simp[hys,e1,e2]
    by_cases hz:z=0
    ·refine GCall.sure ⟨hz,hcs.c1.mono ?_⟩ hz
     rintro r H' ⟨_,⟨rfl,rfl⟩,rfl⟩
     cases htk:tk s y
     ·simp[hz]
      refine⟨⟨by omega,by omega⟩,s,?_⟩
      cases m
      ·exact .inl ⟨⟨k1,rfl,rfl⟩,rfl,rfl⟩
      ·exact .inr ⟨⟨k1,rfl,rfl⟩,rfl,rfl⟩
     ·simp[hz,hys,e1,e2]
      exact⟨⟨by omega,by omega⟩,s.set y.to v,⟨by rw[List.length_set];exact k1,rfl⟩,by rw[List.map_set]⟩
    ·refine GCall.never hz (aB false) ?_
     simp[hz]
     refine⟨⟨by omega,by omega⟩,s,?_⟩
     cases m
     ·exact .inl ⟨⟨k1,rfl,rfl⟩,rfl,rfl⟩
     ·exact .inr ⟨⟨k1,rfl,rfl⟩,rfl,rfl⟩
   ·rintro⟨s,m⟩ ⟨k1,k2⟩
    rw[List.take_length]at k2
    have hq:sweep v tk l st=(s,m):=k2.symm
    rw[hq]at h3 s1 s2
    simp
    cases m with
    | false=>
     simp only[Bool.false_eq_true,if_false]at h3
     exact⟨s,.inl ⟨⟨k1,h3⟩,rfl,subP.refl _⟩⟩
    | true=>
     simp only[if_true]at h3 s2
     exact⟨s,.inr ⟨⟨k1,n,by omega,h3⟩,by omega,rfl,subP.refl _⟩⟩
theorem portT_eq (k:Nat) (hk:k<14):portT k=portsK k:=by
 have h1:(portT k).Pairwise fun a b=>decide (a<=b)=true:=by
  unfold portT sortT
  refine List.pairwise_mergeSort ?_ ?_ _
  ·intro a b c h1 h2
   simp only[decide_eq_true_eq]at *
   exact List.le_trans h1 h2
  ·intro a b
   simp only[Bool.or_eq_true,decide_eq_true_eq]
   exact List.le_total a b
 have h2:(portT k).Perm (portsK k):=(List.mergeSort_perm _ _).trans (portsK_perm k hk)
 refine sorted_same (fun a b _ _ h3 h4=>?_) h1 (portsK_le k hk) h2
 simp only[decide_eq_true_eq]at h3 h4
 exact List.le_antisymm h3 h4
theorem open_fn (p:Prt) (hk:0<=p.kind∧p.kind<14) (n:Nat) (hn:n<manyK p.kind.toNat):CallFn Tryz.prog 126 [.record (encPa p),aI n] (aTs (openK p.kind.toNat n)):=by
 obtain⟨k,nm,d⟩:=p
 simp only at hk hn ⊢
 obtain⟨m,rfl⟩:∃m:Nat,k=m:=⟨k.toNat,by omega⟩
 simp only[Int.toNat_natCast]at hn ⊢
 have hv:=Vents_k m (by omega) n hn
 have hp:=Ports_fn m (by omega)
 rw[portT_eq m (by omega)]at hp
 have hr:=fun t=>Role_k m (by omega) t
 have hvl:(vntK m n).length<=1:=by
  unfold vntK
  repeat' split
  all_goals simp
 have hpl:=portsK_len m
 unfold openK exhK
 generalize vntK m n=W at *
 generalize portsK m=F at *
 refine callFz_of Tryz.func126 rfl Tryz.ntmps126 (rs:=[.tmp 4]) rfl (by kernel_rfl) (by simp) (by kernel_rfl) ?_
 simp
 refine hv.s ?_
 simp
 refine hp.s ?_
 simp
 refine V.forV (σ:=Unit) F.length [2,4,26,27] (by simp;exact rfl) (fun i _=>[(5,aTs (W++(F.take i).filter fun t=>roleK m t==some 2)),(28,aI i)]) (fun _ _=>[]) (fun _ _=>True) () trivial (by simp) ⟨by simp;exact rfl,by simp⟩ ?_ ?_
 ·rintro i-hi -
  obtain⟨t,ht⟩:∃t,F[i]=t:=⟨_,rfl⟩
  have hto:F[i]?=some t:=by rw[List.getElem?_eq_getElem hi,ht]
  have hrt:=hr t
  have hfl:((F.take i).filter fun t=>roleK m t==some 2).length<=7:=Nat.le_trans (List.length_filter_le _ _) (by rw[List.length_take];omega)
  have hnx:(F.take (i+1)).filter (fun t=>roleK m t==some 2)=(F.take i).filter (fun t=>roleK m t==some 2)++if roleK m t=some 2 then [t] else []:=by
   rw[List.take_add_one,hto,List.filter_append]
   congr 1
   by_cases e:roleK m t=some 2<;>simp[e]
  rw[hnx]
  generalize (F.take i).filter (fun t=>roleK m t==some 2)=U at *
  refine V.seqV (V.of_vc ?_)
  simp[hi]
  refine V.seqV (V.condV ?_)
  simp
  refine V.of_vc ?_
  simp
  refine V.seqV (V.blockV (V.of_vcN 2 ?_))
  simp[hi,ht,hto]
  refine hrt.s ?_
  simp
  refine V.seqV (V.of_vc ?_)
  simp
  refine V.condV ?_
  simp
  refine⟨fun h1=>?_,fun h1=>?_⟩
  ·have e:roleK m t=some 2:=by
    cases hrr:roleK m t with
    | none=>rw[hrr]at h1;simp at h1
    | some q=>rw[hrr]at h1;simp only[Option.getD_some]at h1;congr 1;omega
   have htk:List.take (W.length+U.length) (List.map encT W++List.map encT U)=(W++U).map encT:=by
    rw[<- List.map_append]
    exact List.take_of_length_le (by simp)
   rw[if_pos e]
   refine V.regF (fun t=>if t=46∨t=49 then some .clip else none) [] ?_
   simp
   rw[show ((W.length:Int)+(U.length:Int)).toNat=W.length+U.length by omega,htk]
   refine⟨by omega,⟨of_eq_true (rl_map (f:=encT) (n:=1) (fun _=>rfl) _),by omega⟩,?_⟩
   refine V.of_vc ?_
   simp
   refine⟨⟨by omega,by omega⟩,Gh.here ?_⟩
   have e2:A.dat (L.sl (List.map encT W++(List.map encT U++[[L.str t]])))=aTs (W++(U++[t])):=by simp[aTs,encT]
   simp[e2]
  ·have e:¬roleK m t=some 2:=by
    intro e
    rw[e]at h1
    simp at h1
   rw[if_neg e]
   refine V.of_vc ?_
   simp
   refine V.of_vc ?_
   simp
   refine⟨⟨by omega,by omega⟩,Gh.here ?_⟩
   simp
 ·rintro - -
  simp
end Go.Proofs.YtafamcbdaeppoaaGreatDoor
