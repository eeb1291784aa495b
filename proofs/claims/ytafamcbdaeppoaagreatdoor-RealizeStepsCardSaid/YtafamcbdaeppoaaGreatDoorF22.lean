/- Texts joined by a program: Ie,Sm,If,Ig,Ih,Ii,Ij,Ik,Il. -/
import Derived.Shelf.SlSortCmp.WholeK
import Derived.Shelf.SlSortCmp.NoneTotal
import Derived.Test.YtafamcbdaeppoaaGreatDoorProg
import Derived.KernelRfl
import Derived.Test.YtafamcbdaeppoaaGreatDoorF21
import Derived.Test.YtafamcbdaeppoaaGreatDoorF16
import Derived.Test.YtafamcbdaeppoaaGreatDoorF20
import Derived.Test.YtafamcbdaeppoaaGreatDoorF15
set_option linter.unusedSimpArgs false
set_option linter.unusedVariables false
set_option maxHeartbeats 8000000
set_option maxRecDepth 100000
namespace Go.Proofs.YtafamcbdaeppoaaGreatDoor
abbrev encPort (p:PortP):List L:=[.int .i64 p.1,.str p.2]
abbrev encPipe (p:PortP×PortP):List L:=[.int .i64 p.1.1,.str p.1.2,.int .i64 p.2.1,.str p.2.2]
def cmpP (a b:PortP):Int:=if cmpI a.1 b.1≠0 then cmpI a.1 b.1 else Go.Lib.compareBytes a.2 b.2
def cmpPP (a b:PortP×PortP):Int:=if cmpP a.1 b.1≠0 then cmpP a.1 b.1 else cmpP a.2 b.2
theorem compareP_fn (a b:PortP):CallFn Tryz.prog 112 [.record (encPort a),.record (encPort b)] (aI (cmpP a b)):=by
 obtain⟨a1,a2⟩:=a
 obtain⟨b1,b2⟩:=b
 have h1:=cmpI_fn a1 b1
 have h2:=Compare_fnT a2 b2
 have h3:=cmpOr_fn (cmpI a1 b1) (Go.Lib.compareBytes a2 b2)
 refine callFz_of Tryz.func112 rfl Tryz.ntmps112 (rs:=[.tmp 4]) rfl (by kernel_rfl) (by simp) (by kernel_rfl) ?_
 simp
 refine V.drawX (fun t=>if t=9 then some (.fn (aI (cmpI a1 b1))) else if t=14 then some (.fn (aI (Go.Lib.compareBytes a2 b2))) else if t=16 then some (.fn (aI (cmpP (a1,a2) (b1,b2)))) else none) (by kernel_rfl) (by kernel_rfl) (by simp) ?_
 simp
 exact⟨h1,h2,h3⟩
theorem cmpI_lt (a b:Nat):cmpI a b<0↔a<b:=by
 unfold cmpI
 split
 ·omega
 ·split<;>omega
theorem cmpP_lt (a b:PortP):cmpP a b<0↔beforeP a b=true:=by
 unfold cmpP beforeP lexB
 by_cases h:a.1=b.1
 ·rw[if_pos h,if_neg (by rw[h];simp[cmpI]),cmpT_lt]
 ·have h0:cmpI a.1 b.1≠0:=by unfold cmpI;split<;>(try split)<;>omega
  rw[if_neg h,if_pos h0,cmpI_lt]
  simp
theorem cmpP_zero (a b:PortP):cmpP a b=0↔a=b:=by
 unfold cmpP
 by_cases h:a.1=b.1
 ·rw[if_neg (by rw[h];simp[cmpI]),cmpT_zero]
  exact⟨fun h2=>Prod.ext h h2,fun h2=>by rw[h2]⟩
 ·have h0:cmpI a.1 b.1≠0:=by unfold cmpI;split<;>(try split)<;>omega
  rw[if_pos h0]
  exact⟨fun h2=>absurd h2 h0,fun h2=>absurd (by rw[h2]) h⟩
theorem cmpPP_lt (a b:PortP×PortP):cmpPP a b<0↔earlierP a b=true:=by
 unfold cmpPP earlierP lexB
 by_cases h:a.1=b.1
 ·rw[if_pos h,if_neg (by rw[h];simp[cmpP_zero]),cmpP_lt]
 ·rw[if_neg h,if_pos (by rw[ne_eq,cmpP_zero];exact h),cmpP_lt]
theorem cmpP_gt (a b:PortP):0<cmpP a b↔beforeP b a=true:=by
 unfold cmpP beforeP lexB
 by_cases h:a.1=b.1
 ·rw[if_pos h.symm,if_neg (by rw[h];simp[cmpI]),cmpT_eq]
  cases h1:ltB a.2 b.2 with
  | true=>rw[if_pos rfl,ltB_asymm h1];simp
  | false=>cases h2:ltB b.2 a.2<;>simp
 ·have h0:cmpI a.1 b.1≠0:=by unfold cmpI;split<;>(try split)<;>omega
  rw[if_pos h0,if_neg (fun e:b.1=a.1=>h e.symm)]
  simp only[decide_eq_true_eq]
  unfold cmpI
  split<;>(try split)<;>omega
theorem pipe_ord:OrdOK (fun _:PortP×PortP=>True) cmpPP:=by
 have ho:=earlier_tot.ord
 refine⟨fun a _=>?_,fun a b c _ _ _ h1 h2=>?_,fun a b c _ _ _ h1 h2=>?_⟩
 ·rw[cmpPP_lt,earlier_tot.irr]
  simp
 ·rw[cmpPP_lt]at *
  exact earlier_tot.trans _ _ _ h1 h2
 ·rw[cmpPP_lt]at *
  have:=ho.ntrans c b a (by simpa using h2) (by simpa using h1)
  simpa using this
def sfapiPipeRen:Go.Shelf.Ren:=⟨fun | 6=>113 | 14=>176 | 15=>152 | 20=>255 | 21=>256 | 22=>257 | 23=>258 | 24=>259 | 25=>260 | 26=>261 | 27=>262 | 28=>223 | 29=>224 | 46=>331 | 47=>298 | 48=>299 | 49=>332 | 50=>333 | 57=>370 | n=>n,fun | 0=>0 | 3=>3 | 4=>4 | 5=>5 | 9=>9 | 22=>33 | 24=>172 | 25=>174 | 39=>220 | 45=>287 | 46=>288 | 50=>142 | 53=>295 | 55=>297 | 66=>367 | 70=>371 | 76=>414 | 77=>415 | n=>n,fun n=>n⟩
theorem sfapiPipeLays:Go.Proofs.SlLaysF0.n6 Tryz.prog sfapiPipeRen:={ 
 mixed:=by kernel_rfl,
 f6:=⟨ "slices.SortFunc[[]pneumatic/api.Pipe,pneumatic/api.Pipe]",by kernel_rfl,by kernel_rfl⟩,
 f14:=⟨ "slices.pdqsortCmpFunc[pneumatic/api.Pipe]",by kernel_rfl,by kernel_rfl⟩,
 f15:=by kernel_rfl,
 f20:=⟨ "slices.insertionSortCmpFunc[pneumatic/api.Pipe]",by kernel_rfl,by kernel_rfl⟩,
 f21:=⟨ "slices.heapSortCmpFunc[pneumatic/api.Pipe]",by kernel_rfl,by kernel_rfl⟩,
 f22:=⟨ "slices.breakPatternsCmpFunc[pneumatic/api.Pipe]",by kernel_rfl,by kernel_rfl⟩,
 f23:=⟨ "slices.choosePivotCmpFunc[pneumatic/api.Pipe]",by kernel_rfl,by kernel_rfl⟩,
 f24:=⟨ "slices.reverseRangeCmpFunc[pneumatic/api.Pipe]",by kernel_rfl,by kernel_rfl⟩,
 f25:=⟨ "slices.partialInsertionSortCmpFunc[pneumatic/api.Pipe]",by kernel_rfl,by kernel_rfl⟩,
 f26:=⟨ "slices.partitionEqualCmpFunc[pneumatic/api.Pipe]",by kernel_rfl,by kernel_rfl⟩,
 f27:=⟨ "slices.partitionCmpFunc[pneumatic/api.Pipe]",by kernel_rfl,by kernel_rfl⟩,
 f28:=by kernel_rfl,
 f29:=by kernel_rfl,
 f46:=⟨ "slices.siftDownCmpFunc[pneumatic/api.Pipe]",by kernel_rfl,by kernel_rfl⟩,
 f47:=by kernel_rfl,
 f48:=by kernel_rfl,
 f49:=⟨ "slices.medianAdjacentCmpFunc[pneumatic/api.Pipe]",by kernel_rfl,by kernel_rfl⟩,
 f50:=⟨ "slices.medianCmpFunc[pneumatic/api.Pipe]",by kernel_rfl,by kernel_rfl⟩,
 f57:=⟨ "slices.order2CmpFunc[pneumatic/api.Pipe]",by kernel_rfl,by kernel_rfl⟩,
 t0:=Tryz.underlying0,
 a0:=Tryz.isAgg0,
 z0:=Tryz.sizeOf0,
 v0:=Tryz.zeroValue0,
 t3:=Tryz.underlying3,
 a3:=Tryz.isAgg3,
 z3:=Tryz.sizeOf3,
 v3:=Tryz.zeroValue3,
 t4:=Tryz.underlying4,
 a4:=Tryz.isAgg4,
 z4:=Tryz.sizeOf4,
 v4:=Tryz.zeroValue4,
 t5:=Tryz.underlying5,
 a5:=Tryz.isAgg5,
 z5:=Tryz.sizeOf5,
 v5:=Tryz.zeroValue5,
 t9:=Tryz.underlying9,
 a9:=Tryz.isAgg9,
 z9:=Tryz.sizeOf9,
 v9:=Tryz.zeroValue9,
 t22:=Tryz.underlying33,
 a22:=Tryz.isAgg33,
 z22:=Tryz.sizeOf33,
 v22:=Tryz.zeroValue33,
 t25:=Tryz.underlying174,
 a25:=Tryz.isAgg174,
 z25:=Tryz.sizeOf174,
 v25:=Tryz.zeroValue174,
 t39:=Tryz.underlying220,
 a39:=Tryz.isAgg220,
 z39:=Tryz.sizeOf220,
 v39:=Tryz.zeroValue220,
 t45:=Tryz.underlying287,
 a45:=Tryz.isAgg287,
 z45:=Tryz.sizeOf287,
 v45:=Tryz.zeroValue287,
 t46:=Tryz.underlying288,
 a46:=Tryz.isAgg288,
 z46:=Tryz.sizeOf288,
 v46:=Tryz.zeroValue288,
 t50:=Tryz.underlying142,
 a50:=Tryz.isAgg142,
 z50:=Tryz.sizeOf142,
 v50:=Tryz.zeroValue142,
 t53:=Tryz.underlying295,
 a53:=Tryz.isAgg295,
 z53:=Tryz.sizeOf295,
 v53:=Tryz.zeroValue295,
 t55:=Tryz.underlying297,
 a55:=Tryz.isAgg297,
 z55:=Tryz.sizeOf297,
 v55:=Tryz.zeroValue297,
 t66:=Tryz.underlying367,
 a66:=Tryz.isAgg367,
 z66:=Tryz.sizeOf367,
 v66:=Tryz.zeroValue367,
 t70:=Tryz.underlying371,
 a70:=Tryz.isAgg371,
 z70:=Tryz.sizeOf371,
 v70:=Tryz.zeroValue371,
 t76:=Tryz.underlying414,
 a76:=Tryz.isAgg414,
 z76:=Tryz.sizeOf414,
 v76:=Tryz.zeroValue414,
 t77:=Tryz.underlying415,
 a77:=Tryz.isAgg415,
 z77:=Tryz.sizeOf415,
 v77:=Tryz.zeroValue415 }
section
abbrev rPart (p:Made):List A:=[aI p.kind,.dat (.str p.name),aI p.delay]
abbrev rPipe (q:PortP×PortP):List A:=[aI q.1.1,.dat (.str q.1.2),aI q.2.1,.dat (.str q.2.2)]
theorem circuit1_agg (a b:PortP×PortP):CallFn Tryz.prog 114 [.agg (rPipe a),.agg (rPipe b)] (aI (cmpPP a b)):=by
 obtain⟨⟨a1,a2⟩,a3,a4⟩:=a
 obtain⟨⟨b1,b2⟩,b3,b4⟩:=b
 have h1:=compareP_fn (a1,a2) (b1,b2)
 have h2:=compareP_fn (a3,a4) (b3,b4)
 have h3:=cmpOr_fn (cmpP (a1,a2) (b1,b2)) (cmpP (a3,a4) (b3,b4))
 refine callFz_of Tryz.func114 rfl Tryz.ntmps114 (rs:=[.tmp 4]) rfl (by kernel_rfl) (by simp) (by kernel_rfl) ?_
 simp
 intros
 refine V.drawX (fun t=>if t=9 then some (.fn (aI (cmpP (a1,a2) (b1,b2)))) else if t=14 then some (.fn (aI (cmpP (a3,a4) (b3,b4)))) else if t=16 then some (.fn (aI (cmpPP ((a1,a2),a3,a4) ((b1,b2),b3,b4)))) else none) (by kernel_rfl) (by kernel_rfl) (by simp) ?_
 simp
 exact⟨h1,h2,h3⟩
theorem sortP_s (l:List (PortP×PortP)) (hl:l.length<=1000000) {h:Value}:CallS Tryz.prog 113 [.own 61 h,.fn 114 [] []] [(61,.seq h 172 4 (l.map rPipe))] fun r H'=>r=.tuple []∧H'=[(61,.seq h 172 4 ((sortB earlierP l).map rPipe))]:=by
 refine (sortA_s sfapiPipeLays 4 (by exact Tryz.isAgg172) (by exact Tryz.sizeOf172) ⟨_,Tryz.func113,by kernel_rfl,by kernel_rfl⟩
  ⟨_,Tryz.func114,by kernel_rfl,by kernel_rfl⟩ rPipe (fun _=>rfl) (fun p=>rfl) (fun _=>True) cmpPP (fun a b _ _=>circuit1_agg a b) pipe_ord l (fun _ _=>trivial) (by omega)).mono ?_
 rintro r H' ⟨rfl,l',h1,h2,rfl⟩
 refine⟨rfl,?_⟩
 rw[sort_unique earlier_tot (List.Perm.refl l) h1 (h2.imp fun {a b} hab=>by rw[cmpPP_lt]at hab;simpa using hab)]
abbrev ciH (c:Control) (b bg:Nat) (hp hj:Value) (m:Mk) (b2 b4:Nat) (g1 g2:Value) (xs:List Made) (l:List (PortP×PortP)):Heap:=
 (61,.seq g2 172 4 (l.map rPipe))::(60,.seq g1 67 3 (xs.map rPart))::(4,.box b4 [.own 60 g1,.own 61 g2])::(2,.box b2 [.nils,.nils])::fkH c b bg hp hj m
abbrev outH (c:Control) (b bg:Nat) (hp hj:Value) (m:Mk) (g1 g2:Value) (xs:List Made) (l:List (PortP×PortP)):Heap:=
 (61,.seq g2 172 4 (l.map rPipe))::(60,.seq g1 67 3 (xs.map rPart))::fkH c b bg hp hj m
section
variable {c:Control}{b bg:Nat}{hp hj:Value}{m:Mk}
theorem cir_c {K:A->Heap->Prop}{b2 b4:Nat}{g1 g2:Value}{xs:List Made}{l:List (PortP×PortP)}(hl:l.length<=1000000) (hK:∀H',subP (outH c b bg hp hj m g1 g2 xs (sortB earlierP l)) H'->K (.tuple [.agg [.own 60 g1,.own 61 g2],aI 0]) H') :
  vcC ⟨Tryz.prog,none,79⟩ (restC Tryz.f51 5) (hdE [(2,.ptr 2 b2 0),(3,aI 0),(4,.ptr 4 b4 0)] []) (ciH c b bg hp hj m b2 b4 g1 g2 xs l)
   (RetV Tryz.prog [.cell 2 35,.tmp 3] K):=by
 refine vc_rest rfl ?_
 simp
 refine ((sortP_s l hl).frame).mono ?_
 rintro _ _ ⟨_,⟨rfl,rfl⟩,rfl⟩
 simp
 exact hK _ (subP.cc (subP.cc (subP.c (subP.c (subP.refl _) _) _) _) _)
theorem cir_b {K:A->Heap->Prop}{b2 b4:Nat}{g1:Value}{xs:List Made}(hs:m.parts.Pairwise (fun a b=>byName b a=false)) (hl:m.parts.length<=1000000) (hl2:m.joins.length<=1000000)
  (hK:∀g2 H',subP (outH c b bg hp hj m g1 g2 xs (sortB earlierP (m.joins.map fun j=>pipeN (portL m.parts j.1) (portL m.parts j.2)))) H'->K (.tuple [.agg [.own 60 g1,.own 61 g2],aI 0]) H') :
  vcN ⟨Tryz.prog,none,79⟩ 1 (restC Tryz.f51 4) (hdE [(0,.ptr 170 b 0),(2,.ptr 2 b2 0),(3,aI 0),(4,.ptr 4 b4 0)] []) (ciH c b bg hp hj m b2 b4 g1 (.slice none 0 0) xs [])
   (RetV Tryz.prog [.cell 2 35,.tmp 3] K):=by
 refine vcN_rest rfl ?_
 simp
 refine V.forI (σ:=Value) m.joins.length [0,2,3,4,46,47] (by simp;exact rfl) (fun i _=>[(48,aI i)])
  (fun i g=>[(61,.seq g 172 4 (((m.joins.take i).map fun j=>pipeN (portL m.parts j.1) (portL m.parts j.2)).map rPipe)),(4,.box b4 [.own 60 g1,.own 61 g])]) (fun _ _=>True) (.slice none 0 0) trivial (by simp) ⟨by simp;exact rfl,by simp⟩ ?_ ?_
 ·rintro i g hi -
  obtain⟨j,hj1⟩:∃j,m.joins[i]=j:=⟨_,rfl⟩
  have hjo:m.joins[i]?=some j:=by rw[List.getElem?_eq_getElem hi,hj1]
  have f1:=findF_s (c:=c) (b:=b) (bg:=bg) (hp:=hp) (hj:=hj) (m:=m) j.1 hs hl
  have f2:=findF_s (c:=c) (b:=b) (bg:=bg) (hp:=hp) (hj:=hj) (m:=m) j.2 hs hl
  obtain⟨⟨p1,p2⟩,q1,q2⟩:=j
  have hst:((m.joins.take (i+1)).map fun j=>pipeN (portL m.parts j.1) (portL m.parts j.2)).map rPipe=((m.joins.take i).map fun j=>pipeN (portL m.parts j.1) (portL m.parts j.2)).map rPipe++[rPipe (pipeN (posL m.parts p1,p2) (posL m.parts q1,q2))]:=by
   rw[List.take_add_one,hjo]
   simp[portL]
  rw[hst]
  have hpn:pipeN (posL m.parts p1,p2) (posL m.parts q1,q2)=if 0<cmpP (posL m.parts p1,p2) (posL m.parts q1,q2) then ((posL m.parts q1,q2),posL m.parts p1,p2) else ((posL m.parts p1,p2),posL m.parts q1,q2):=by
   unfold pipeN
   by_cases h:0<cmpP (posL m.parts p1,p2) (posL m.parts q1,q2)
   ·rw[if_pos h,if_pos ((cmpP_gt _ _).1 h)]
   ·rw[if_neg h,if_neg (fun h2=>h ((cmpP_gt _ _).2 h2))]
  simp[hi,hj1,hjo]
  intro b8
  refine V.drawX (fun t=>if t=55 then some (.ro (.record [.int .i64 (posL m.parts p1),.str p2])) else if t=59 then some (.ro (.record [.int .i64 (posL m.parts q1),.str q2])) else none) (by kernel_rfl) (by kernel_rfl) (by simp) ?_
  simp
  refine⟨f1,f2,?_⟩
  intro u1 u2
  refine⟨by kernel_rfl,(compareP_fn (posL m.parts p1,p2) (posL m.parts q1,q2)).s ?_⟩
  by_cases hc:0<cmpP (posL m.parts p1,p2) (posL m.parts q1,q2)
  ·rw[if_pos hc]at hpn
   rw[hpn]
   simp[hc]
   omega
  ·rw[if_neg hc]at hpn
   rw[hpn]
   simp[hc]
   omega
 ·rintro g -
  simp
  exact V.cut [(2,.ptr 2 b2 0),(3,aI 0),(4,.ptr 4 b4 0)] (Hs:=ciH c b bg hp hj m b2 b4 g1 g xs (m.joins.map fun j=>pipeN (portL m.parts j.1) (portL m.parts j.2))) (by simp) (by simp) (vc_of_rest rfl (cir_c (by simp;omega) fun H' h=>hK g H' h))
theorem cir_a {K:A->Heap->Prop}{b2 b4:Nat}(hs:m.parts.Pairwise (fun a b=>byName b a=false)) (hl:m.parts.length<=1000000) (hl2:m.joins.length<=1000000)
  (hK:∀g1 g2 H',subP (outH c b bg hp hj m g1 g2 m.parts (sortB earlierP (m.joins.map fun j=>pipeN (portL m.parts j.1) (portL m.parts j.2)))) H'->K (.tuple [.agg [.own 60 g1,.own 61 g2],aI 0]) H') :
  vcN ⟨Tryz.prog,none,79⟩ 1 (restC Tryz.f51 3) (hdE [(0,.ptr 170 b 0),(2,.ptr 2 b2 0),(3,aI 0),(4,.ptr 4 b4 0)] []) (ciH c b bg hp hj m b2 b4 (.slice none 0 0) (.slice none 0 0) [] [])
   (RetV Tryz.prog [.cell 2 35,.tmp 3] K):=by
 refine vcN_rest rfl ?_
 simp
 refine V.forI (σ:=Value) m.parts.length [0,2,3,4,29,30] (by simp;exact rfl) (fun i _=>[(31,aI i)])
  (fun i g=>[(60,.seq g 67 3 ((m.parts.take i).map rPart)),(4,.box b4 [.own 60 g,.own 61 (.slice none 0 0)])]) (fun _ _=>True) (.slice none 0 0) trivial (by simp) ⟨by simp;exact rfl,by simp⟩ ?_ ?_
 ·rintro i g hi -
  obtain⟨p,hp1⟩:∃p,m.parts[i]=p:=⟨_,rfl⟩
  have hpo:m.parts[i]?=some p:=by rw[List.getElem?_eq_getElem hi,hp1]
  obtain⟨ak,an,ad,asg,aa,av,al⟩:=p
  have hst:(m.parts.take (i+1)).map rPart=(m.parts.take i).map rPart++[rPart ⟨ak,an,ad,asg,aa,av,al⟩]:=by rw[List.take_add_one,hpo];simp
  rw[hst]
  cases aa
  all_goals
   simp[hi,hp1,hpo,argA]
   omega
 ·rintro g -
  simp
  exact V.cutN 1 [(0,.ptr 170 b 0),(2,.ptr 2 b2 0),(3,aI 0),(4,.ptr 4 b4 0)] (Hs:=ciH c b bg hp hj m b2 b4 g (.slice none 0 0) m.parts []) (by simp) (by simp) (vcN_of_rest rfl (cir_b hs hl hl2 fun g2 H' h=>hK g g2 H' h))
end
end
theorem ownF_s {c:Control}(hc:Sm c) {i:Nat}(hi:i<c.signals.length) {b bg:Nat}{hp hj:Value}{m:Mk}:CallS Tryz.prog 134 [.ptr 170 b 0,aI i] (fkH c b bg hp hj m) fun r H'=>r=.dat (.str (ownT c i))∧H'=fkH c b bg hp hj m:=by
 obtain⟨h1,h2,h3⟩:=hc
 have hit:=Itoa_fn i (by omega)
 obtain⟨x,hx⟩:∃x,c.signals[i]=x:=⟨_,rfl⟩
 have hxo:c.signals[i]?=some x:=by rw[List.getElem?_eq_getElem hi,hx]
 have hk:kindAt c i=x.kind:=by simp[kindAt,hxo]
 have hnl:=numT_len i
 refine callS_of Tryz.func134 rfl Tryz.ntmps134 (rs:=[.tmp 4]) rfl (by kernel_rfl) (by simp) (by kernel_rfl) ?_
 simp[hi,hx]
 refine⟨fun e=>hit.s ?_,fun e=>hit.s ?_⟩
 ·simp[ownT,hk,e]
  omega
 ·simp[ownT,hk,e]
  omega
theorem portF_s {c:Control}(hc:Sm c) (h0:0<=c.actuators∧c.actuators<=12) {line:Int}(hl:0<=line∧line<countC c) {b bg:Nat}{hp' hj:Value}{m:Mk} :
  CallS Tryz.prog 62 [.ptr 170 b 0,aI line] (fkH c b bg hp' hj m) fun r H'=>r=.record (encPin (portM c m.gates line))∧H'=fkH c b bg hp' hj m:=by
 have hfs:=firstF_s (b:=b) (bg:=bg) (hp:=hp') (hj:=hj) (m:=m) hc
 obtain⟨h1,h2,h3⟩:=hc
 have hcn:countC c=firstC c+c.signals.length:=rfl
 have hfc:firstC c=2*c.actuators+c.inputs.length:=rfl
 refine CallS.dropP (callS_of Tryz.func62 rfl Tryz.ntmps62 (rs:=[.cell 4 123]) rfl (by kernel_rfl) (by simp) (by kernel_rfl) (K:=fun r H'=>r=.record (encPin (portM c m.gates line))∧subP (fkH c b bg hp' hj m) H') ?_) (fun r H' ⟨e,h⟩=>⟨_,h,e,rfl⟩)
 have hc:Sm c:=⟨h1,h2,h3⟩
 simp
 intro b4'
 refine hfs.c1.mono ?_
 rintro _ _ ⟨_,⟨rfl,rfl⟩,rfl⟩
 obtain⟨l,rfl⟩:∃l:Nat,line=l:=⟨line.toNat,by omega⟩
 have e1:((l:Int).tdiv 2)=((l / 2:Nat):Int):=by rw[Int.tdiv_eq_ediv_of_nonneg (by omega)];rfl
 have e2:((l:Int).tmod 2)=((l % 2:Nat):Int):=by rw[Int.tmod_eq_emod_of_nonneg (by omega)];rfl
 by_cases hA:(l:Int)<2*c.actuators
 ·have hp:portM c m.gates l=⟨letterT (l / 2)++numT (l % 2),[50]⟩:=by
   unfold portM
   rw[if_pos hA,Int.toNat_natCast]
  have hn1:=numT_len (l % 2)
  rw[hp]
  simp[hA]
  refine⟨by omega,by omega,by omega,?_⟩
  rw[show ((l:Int) / 2)=((l / 2:Nat):Int) from rfl]
  refine (letter_fn (l / 2) (by omega)).s ?_
  simp
  rw[e2]
  refine (Itoa_fn (l % 2) (by omega)).s ?_
  simp
  refine⟨?_,subP.c (subP.refl _) _⟩
  simp[letterT]
  omega
 ·by_cases hB:(l:Int)<firstC c
  ·have hp:portM c m.gates l=⟨c.inputs.getD (l-2*c.actuators).toNat [],[50]⟩:=by
    unfold portM
    rw[if_neg hA,if_pos hB]
   have hi:((l:Int)-2*c.actuators).toNat<c.inputs.length:=by omega
   rw[hp,List.getD_eq_getElem?_getD,List.getElem?_eq_getElem hi]
   have hB2:(l:Int)-firstC c<0:=by omega
   simp[hA,hB2]
   refine⟨by omega,by omega,?_⟩
   refine V.drawX (fun _=>none) (by kernel_rfl) (by kernel_rfl) (by simp) ?_
   simp[hi]
   exact⟨by omega,by omega,by omega,subP.c (subP.refl _) _⟩
  ·have hi:((l:Int)-firstC c).toNat<c.signals.length:=by omega
   obtain⟨x,hx⟩:∃x,c.signals[((l:Int)-firstC c).toNat]=x:=⟨_,rfl⟩
   have hxo:c.signals[((l:Int)-firstC c).toNat]?=some x:=by rw[List.getElem?_eq_getElem hi,hx]
   have hk:kindAt c ((l:Int)-firstC c)=x.kind:=by simp[kindAt,hxo]
   have hB2:¬(l:Int)-firstC c<0:=by omega
   have hown:=ownF_s (b:=b) (bg:=bg) (hp:=hp') (hj:=hj) (m:=m) hc hi
   rw[show ((((l:Int)-firstC c).toNat:Nat):Int)=l-firstC c by omega]at hown
   have hp:portM c m.gates l=if x.kind=1 then ⟨ownT c ((l:Int)-firstC c).toNat,[52]⟩ else if x.kind=2 then ⟨ownT c ((l:Int)-firstC c).toNat,[50]⟩ else (getG m.gates l).getD noPin:=by
    unfold portM
    rw[if_neg hA,if_neg hB,hk]
   rw[hp]
   simp[hA,hB2,hi,hx,hxo]
   have hsub:∀l,subP (fkH c b bg hp' hj m) ((4,.box b4' l)::fkH c b bg hp' hj m):=fun l=>subP.c (subP.refl _) _
   refine⟨by omega,by omega,by omega,fun h=>?_,fun h=>⟨by omega,fun h2=>?_,fun h2=>?_⟩⟩
   ·refine hown.c1.mono ?_
    rintro _ _ ⟨_,⟨rfl,rfl⟩,rfl⟩
    simp[h]
    exact hsub _
   ·refine hown.c1.mono ?_
    rintro _ _ ⟨_,⟨rfl,rfl⟩,rfl⟩
    simp[h,h2]
    exact hsub _
   ·rw[if_neg h,if_neg h2]
    have hg:=get_gate l m.gates
    cases hgg:getG m.gates l with
    | none=>
     rw[hgg]at hg
     simp at hg
     simp[hg]
     exact hsub _
    | some q=>
     rw[hgg]at hg
     simp at hg
     simp[hg]
     exact hsub _
def manyM (m:Mk):Bool:=decide (64<m.parts.length)||decide (256<m.joins.length)
theorem circuit_s {c:Control}{b bg:Nat}{hp hj:Value}{m:Mk}(hs:m.parts.Pairwise (fun a b=>byName b a=false)) (hl:m.parts.length<=1000000) (hl2:m.joins.length<=1000000) :
  CallS Tryz.prog 51 [.ptr 170 b 0] (fkH c b bg hp hj m) fun r H'=>(manyM m=true∧r=.tuple [.record [.sl [],.sl []],aI 5]∧H'=fkH c b bg hp hj m) ∨
   (manyM m=false∧∃g1 g2,r=.tuple [.agg [.own 60 g1,.own 61 g2],aI 0]∧H'=outH c b bg hp hj m g1 g2 m.parts (sortB earlierP (m.joins.map fun j=>pipeN (portL m.parts j.1) (portL m.parts j.2)))):=by
 refine CallS.dropP (callS_cut 3 Tryz.func51 rfl Tryz.ntmps51 (rs:=[.cell 2 35,.tmp 3]) rfl (by kernel_rfl) (by simp) (by kernel_rfl) (K:=fun r H'=>(manyM m=true∧r=.tuple [.record [.sl [],.sl []],aI 5]∧subP (fkH c b bg hp hj m) H') ∨
   (manyM m=false∧∃g1 g2,r=.tuple [.agg [.own 60 g1,.own 61 g2],aI 0]∧subP (outH c b bg hp hj m g1 g2 m.parts (sortB earlierP (m.joins.map fun j=>pipeN (portL m.parts j.1) (portL m.parts j.2)))) H')) ?_) ?_
 ·simp
  intro b2
  refine⟨fun h=>⟨?_,subP.c (subP.refl _) _⟩,fun h1 h2 b4=>?_⟩
  ·unfold manyM
   rw[Bool.or_eq_true,decide_eq_true_eq,decide_eq_true_eq]
   omega
  ·refine V.cutIN 1 (Hs:=ciH c b bg hp hj m b2 b4 (.slice none 0 0) (.slice none 0 0) [] []) [(0,.ptr 170 b 0),(2,.ptr 2 b2 0),(3,aI 0),(4,.ptr 4 b4 0)] ?_ ?_ ?_
   ·simp[D]
   ·intro x H0 hi
    have k1:=Inv.swap (g:=4) (e:=.box b4 [.nils,.nils]) (e':=.box b4 [.own 60 (.slice none 0 0),.own 61 (.slice none 0 0)]) rfl (box_sat (Ds_c D_nilo (Ds_c D_nilo Ds_i))) (fun _ h=>h) hi
    simp only[hset,if_true]at k1
    exact Inv.nil (t:=61) (e:=.seq (.slice none 0 0) 172 4 []) (Inv.nil (t:=60) (e:=.seq (.slice none 0 0) 67 3 []) k1 ⟨rfl,rfl⟩) ⟨rfl,rfl⟩
   ·refine vcN_of_rest rfl (cir_a hs hl hl2 fun g1 g2 H' h=>.inr ⟨?_,g1,g2,rfl,h⟩)
    unfold manyM
    rw[Bool.or_eq_false_iff,decide_eq_false_iff_not,decide_eq_false_iff_not]
    omega
 ·rintro r H' (⟨h,rfl,h2⟩|⟨h,g1,g2,rfl,h2⟩)
  ·exact⟨_,h2,.inl ⟨h,rfl,rfl⟩⟩
  ·exact⟨_,h2,.inr ⟨h,g1,g2,rfl,rfl⟩⟩
abbrev dM (c:Control):Mk:={ wholeM c with parts:=partsL (wholeR c).gears }
theorem dM_sorted (c:Control):(dM c).parts.Pairwise (fun a b=>byName b a=false):=sortB_sorted (ltB_ord Made.name) _
theorem dM_perm {c:Control}(h:checkC c=0):(dM c).parts.Perm (wholeM c).parts:=by
 have hr:=(whole_rel (inC_of h)).parts
 rw[List.append_nil]at hr
 exact (sortB_perm byName _).trans hr.symm
theorem dM_few {c:Control}(h:checkC c=0):(dM c).parts.length<=60000∧(wholeM c).joins.length<=3*60000:=by
 have:=few_whole (okR_of h)
 exact⟨by rw[(dM_perm h).length_eq];exact this.1,this.2⟩
theorem givenM_s (c:Control) (hc:OkC c):CallS Tryz.prog 52 [aC c] [] fun r H'=>(checkC c≠0∧r=.tuple [.nilp,aI (checkC c)]∧H'=[]) ∨
  (checkC c=0∧∃b bg hp hj,r=.tuple [.ptr 170 b 0,aI (if manyM (dM c)=true then 5 else 0)]∧H'=fkH c b bg hp hj (dM c)):=by
 have hd:=drawnF_s c hc
 refine CallS.dropP (callS_of Tryz.func52 rfl Tryz.ntmps52 (rs:=[.tmp 2,.tmp 3]) rfl (by kernel_rfl) (by simp) (by kernel_rfl) (K:=fun r H'=>(checkC c≠0∧r=.tuple [.nilp,aI (checkC c)]∧subP [] H') ∨
  (checkC c=0∧∃b bg hp hj,r=.tuple [.ptr 170 b 0,aI (if manyM (dM c)=true then 5 else 0)]∧subP (fkH c b bg hp hj (dM c)) H')) ?_) ?_
 ·simp
  refine hd.mono ?_
  rintro r H' (⟨hz,rfl,rfl⟩|⟨hz,b,bg,hp,hj,rfl,rfl⟩)
  ·simp[hz]
   exact subP.refl _
  ·have hfw:=dM_few hz
   have hci:=circuit_s (c:=c) (b:=b) (bg:=bg) (hp:=hp) (hj:=hj) (m:=dM c) (dM_sorted c) (by omega) (by show (wholeM c).joins.length<=_;omega)
   simp[hz]
   refine hci.mono ?_
   rintro r H' (⟨h,rfl,rfl⟩|⟨h,g1,g2,rfl,rfl⟩)
   ·simp[hz,h]
    exact⟨bg,hp,hj,subP.refl _⟩
   ·simp[hz,h]
    exact⟨bg,hp,hj,subP.c (subP.c (subP.refl _) _) _⟩
 ·rintro r H' (⟨h,rfl,h2⟩|⟨h,b,bg,hp,hj,rfl,h2⟩)
  ·exact⟨[],h2,.inl ⟨h,rfl,rfl⟩⟩
  ·exact⟨_,h2,.inr ⟨h,b,bg,hp,hj,rfl,rfl⟩⟩
abbrev encPart (p:Made):List L:=[.int .i64 p.kind,.str p.name,.int .i64 p.delay]
abbrev aCirc (x:List Made×List (PortP×PortP)):A:=.record [.sl (x.1.map encPart),.sl (x.2.map encPipe)]
def pipesM (m:Mk):List (PortP×PortP):=sortB earlierP (m.joins.map fun j=>pipeN (portL m.parts j.1) (portL m.parts j.2))
def circuitQ (c:Control):(List Made×List (PortP×PortP))×Int:=if checkC c≠0 then (([],[]),checkC c) else if manyM (dM c)=true then (([],[]),5) else (((dM c).parts,pipesM (dM c)),0)
theorem Circuit_fn (c:Control) (hc:OkC c):CallFn Tryz.prog 10 [aC c] (.tuple [aCirc (circuitQ c).1,aI (circuitQ c).2]):=by
 have hd:=drawnF_s c hc
 unfold circuitQ
 refine callFz_of Tryz.func10 rfl Tryz.ntmps10 (rs:=[.cell 2 35,.tmp 3]) rfl (by kernel_rfl) (by simp) (by kernel_rfl) ?_
 simp
 intro b2
 refine (hd.frame).mono ?_
 rintro r _ ⟨H',(⟨hz,rfl,rfl⟩|⟨hz,b,bg,hp,hj,rfl,rfl⟩),rfl⟩
 ·simp[hz]
 ·have hfw:=dM_few hz
  have hci:=circuit_s (c:=c) (b:=b) (bg:=bg) (hp:=hp) (hj:=hj) (m:=dM c) (dM_sorted c) (by omega) (by show (wholeM c).joins.length<=_;omega)
  simp[hz]
  refine (hci.frame).mono ?_
  rintro r _ ⟨H',(⟨h,rfl,rfl⟩|⟨h,g1,g2,rfl,rfl⟩),rfl⟩
  ·simp[hz,h]
  ·simp[hz,h,pipesM]
   exact⟨⟨by simp[allD,isD],by simp[allD,isD]⟩,by simp[rowsD],by simp[rowsD]⟩
def portQ37 (c:Control) (line:Int):PortP×Bool×Int:=
 if checkC c≠0 then ((0,[]),false,checkC c) else if manyM (dM c)=true then ((0,[]),false,5) else if line<0∨countC c<=line then ((0,[]),false,6)
 else if portM c (wholeM c).gates line=noPin then ((0,[]),false,0) else (portL (dM c).parts (portM c (wholeM c).gates line),true,0)
theorem Port_fn (c:Control) (line:Int) (hc:OkC c) (hln:inR .i64 line):CallFn Tryz.prog 17 [aC c,aI line] (.tuple [.record (encPort (portQ37 c line).1),aB (portQ37 c line).2.1,aI (portQ37 c line).2.2]):=by
 have hd:=givenM_s c hc
 unfold portQ37
 refine callFz_of Tryz.func17 rfl Tryz.ntmps17 (rs:=[.cell 4 50,.tmp 5,.tmp 6]) rfl (by kernel_rfl) (by simp) (by kernel_rfl) ?_
 simp
 intro b4
 refine (hd.frame).mono ?_
 rintro r _ ⟨H',(⟨hz,rfl,rfl⟩|⟨hz,b,bg,hp,hj,rfl,rfl⟩),rfl⟩
 ·simp[hz]
 ·have hR:=okR_of hz
  have hfw:=dM_few hz
  cases hm:manyM (dM c) with
  | true=>simp[hz,hm]
  | false=>
   have hf:=firstF_s hR.sm (b:=b) (bg:=bg) (hp:=hp) (hj:=hj) (m:=dM c)
   have hcn:countC c=firstC c+c.signals.length:=rfl
   have hln2:=hln
   simp at hln2
   have hact:=hR.act
   have hinp:=hR.inp
   have hsl:=hR.len
   have hfc:firstC c=2*c.actuators+c.inputs.length:=rfl
   simp[hz,hm]
   refine V.drawX (fun t=>if t=24 then some (.ro (aI (firstC c))) else none) (by kernel_rfl) (by kernel_rfl) (by simp) ?_
   simp
   refine⟨fun h0=>⟨h0,hf⟩,fun h0=>⟨h0,by omega,by omega⟩,fun h0=>?_,fun h0 h1=>?_⟩
   ·have h2:line<0∨countC c<=line:=by omega
    simp[hz,h2]
   ·have h2:¬(line<0∨countC c<=line):=by omega
    have hp1:=portF_s hR.sm ⟨hact.1,by omega⟩ (line:=line) ⟨h0,by omega⟩ (b:=b) (bg:=bg) (hp':=hp) (hj:=hj) (m:=dM c)
    have hfd:=findF_s (c:=c) (b:=b) (bg:=bg) (hp:=hp) (hj:=hj) (m:=dM c) (portM c (wholeM c).gates line) (dM_sorted c) (by omega)
    refine (hp1.frame).mono ?_
    rintro _ _ ⟨_,⟨rfl,rfl⟩,rfl⟩
    simp[h2]
    intro b9
    by_cases hno:portM c (wholeM c).gates line=noPin
    ·simp[hz,hno,leqs_pin]
    ·simp[hno,leqs_pin]
     refine⟨fun a1 a2=>absurd (by
      generalize portM c (wholeM c).gates line=p at a1 a2
      obtain⟨p1,p2⟩:=p
      simp only at a1 a2
      rw[a1,a2]) hno,fun _=>?_⟩
     refine (hfd.frame.c1).mono ?_
     rintro _ _ ⟨_,⟨_,⟨rfl,rfl⟩,rfl⟩,rfl⟩
     simp[hz,h2,hno,portL]
def ofSig (ps:List Made) (d:Int) (n:Nat):List Int:=((List.range n).filter fun k=>(ps[k]?).any fun p=>decide (p.signal=d)).map fun k:Nat=>(k:Int)
theorem ofSig_succ {ps:List Made}{d:Int}{n:Nat}{p:Made}(h:ps[n]?=some p):ofSig ps d (n+1)=ofSig ps d n++(if p.signal=d then [(n:Int)] else []):=by
 unfold ofSig
 rw[List.range_succ,List.filter_append,List.map_append]
 congr 1
 simp only[List.filter_cons,List.filter_nil,h,Option.any_some]
 by_cases e:p.signal=d<;>simp[e]
theorem ofSig_len (ps:List Made) (d:Int) (n:Nat):(ofSig ps d n).length<=n:=by
 unfold ofSig
 rw[List.length_map]
 have:=List.length_filter_le (fun k=>(ps[k]?).any fun p=>decide (p.signal=d)) (List.range n)
 rwa [List.length_range]at this
def partsQ37 (c:Control) (line:Int):List Int×Int:=
 if checkC c≠0 then ([],checkC c) else if manyM (dM c)=true then ([],5) else if line<firstC c∨countC c<=line then ([],6)
 else (ofSig (dM c).parts (line-firstC c) (dM c).parts.length,0)
theorem wrap_sub37 {F line:Int}(hF:0<=F∧F<=1000) (hl : -9223372036854775808<=line∧line<9223372036854775808):IntKind.i64.wrap (line-F)=line-F∨(line<F∧1000000<IntKind.i64.wrap (line-F)):=by
 by_cases h : -9223372036854775808<=line-F
 ·left
  exact (inR_i64 _).2 ⟨h,by omega⟩
 ·right
  refine⟨by omega,?_⟩
  simp only[IntKind.wrap,IntKind.signed,IntKind.bits]
  simp
  omega
theorem Parts_fn (c:Control) (line:Int) (hc:OkC c) (hln:inR .i64 line):CallFn Tryz.prog 24 [aC c,aI line] (.tuple [aIs (partsQ37 c line).1,aI (partsQ37 c line).2]):=by
 have hd:=givenM_s c hc
 unfold partsQ37
 refine callFz_cut 3 Tryz.func24 rfl Tryz.ntmps24 (rs:=[.tmp 4,.tmp 5]) rfl (by kernel_rfl) (by simp) (by kernel_rfl) ?_
 simp
 refine hd.mono ?_
 rintro r H' (⟨hz,rfl,rfl⟩|⟨hz,b,bg,hp,hj,rfl,rfl⟩)
 ·simp[hz]
 ·have hR:=okR_of hz
  have hfw:=dM_few hz
  cases hm:manyM (dM c) with
  | true=>simp[hz,hm]
  | false=>
   have hf:=firstF_s hR.sm (b:=b) (bg:=bg) (hp:=hp) (hj:=hj) (m:=dM c)
   have hcn:countC c=firstC c+c.signals.length:=rfl
   have hact:=hR.act
   have hinp:=hR.inp
   have hsl:=hR.len
   have hfc:firstC c=2*c.actuators+c.inputs.length:=rfl
   have hln2:=hln
   simp at hln2
   simp[hz,hm]
   obtain⟨F,hF⟩:∃F,firstC c=F:=⟨_,rfl⟩
   have hF1:0<=F∧F<=1000:=by omega
   rw[hF]at hf hcn ⊢
   refine V.seq (V.regF (fun t=>if t=22 then some (.ro (aI F)) else if t=23 then some .clip else none) [] ?_)
   simp
   refine⟨hf,?_⟩
   obtain⟨d,hd⟩:∃d,IntKind.i64.wrap (line-F)=d:=⟨_,rfl⟩
   have hdd:d=line-F∨(line<F∧1000000<d):=by
    rw[<- hd]
    exact wrap_sub37 hF1 (by omega)
   rw[hd]
   by_cases hout:line<F∨countC c<=line
   ·have hd2:d<0∨(c.signals.length:Int)<=d:=by omega
    simp[hz,hout]
    omega
   ·have hdl:d=line-F:=by omega
    subst hdl
    have n1:¬(line-F<0):=by omega
    have n2:¬((c.signals.length:Int)<=line-F):=by omega
    simp[hz,hout,n1,n2]
    intro _ _
    refine V.forI (σ:=Value) (dM c).parts.length [4,5,8,36,37] (by simp;exact rfl) (fun i g=>[(9,.own 50 g),(38,aI i)]) (fun i g=>[(50,.seq g 3 1 ((ofSig (dM c).parts (line-F) i).map rI))]) (fun _ _=>True) (.slice none 0 0) trivial (by simp[ofSig]) ⟨by simp;exact rfl,by simp[ofSig]⟩ ?_ ?_
    ·rintro i g hi -
     obtain⟨p,hp1⟩:∃p,(dM c).parts[i]=p:=⟨_,rfl⟩
     have hpo:(dM c).parts[i]?=some p:=by rw[List.getElem?_eq_getElem hi,hp1]
     rw[ofSig_succ hpo]
     have hsl2:=ofSig_len (dM c).parts (line-F) i
     generalize ofSig (dM c).parts (line-F) i=out at *
     obtain⟨ak,an,ad,asg,aa,av,al⟩:=p
     have hfl:=hfw.1
     simp only at hp1 hpo hi hfl
     by_cases he:asg=line-F
     ·cases aa
      all_goals
       simp[hi,hp1,hpo,argA,he]
       omega
     ·cases aa
      all_goals
       simp[hi,hp1,hpo,argA,he]
       omega
    ·rintro g -
     simp[hz,hout]
def PartG (a:Int) (p:Made):Prop:=(∀x,p.arg=some x->OkE x)∧p.valve<a
def PartsG (a:Int) (ps:List Made):Prop:=∀p∈ps,PartG a p
theorem PartsG.nil (a:Int):PartsG a []:=fun _ h=>nomatch h
theorem PartsG.app {a:Int}{l m:List Made}(h:PartsG a l) (h2:PartsG a m):PartsG a (l++m):=fun q hq=>(List.mem_append.1 hq).elim (h q) (h2 q)
theorem PartsG.one {a:Int}{p:Made}(h:PartG a p):PartsG a [p]:=fun q hq=>by rw[List.mem_singleton.1 hq];exact h
theorem twin_g {a:Int}(ha:0<=a) {sg kind:Int}{letter:UInt8}:∀(ps:List Pin) {d:Dl},PartsG a d.parts->PartsG a (ps.foldl (twinD sg kind letter) d).parts
 | [],_,h=>h
 | p::ps,d,h=>twin_g ha ps (h.app (.one ⟨fun x hx=>by simp at hx,by show (-1:Int)<a;omega⟩))
mutual
theorem expr_g {a:Int}(ha:0<=a) (fl:Bool) (pf:Int->Pin) (sg:Int):∀(x:Expr) (k:Nat),OkE x->PartsG a (exprD fl pf sg x k).parts
 | ⟨op,ix,args⟩,k,ho=>by
  have hoa:∀y∈args,OkE y:=by
   cases ho with
   | mk _ _ _ _ h=>exact h
  have h:=args_g ha fl pf sg args k hoa
  rw[exprD_eq]
  dsimp only
  by_cases h0:op=0
  ·rw[if_pos h0]
   exact .nil a
  ·rw[if_neg h0]
   by_cases h1:op=1
   ·rw[if_pos h1]
    exact .nil a
   ·rw[if_neg h1]
    generalize argsD fl pf sg args k=r at *
    obtain⟨r1,r2,r3,r4⟩:=r
    dsimp only at h ⊢
    by_cases hop:op=2
    ·rw[if_pos hop]
     unfold notsD
     cases e:args.head? with
     | none=>exact h
     | some y=>
      refine h.app (.one ⟨fun x hx=>?_,by show (-1:Int)<a;omega⟩)
      have:y=x:=Option.some.inj hx
      subst this
      exact hoa y (List.mem_of_mem_head? e)
    ·rw[if_neg hop]
     unfold foldD
     dsimp only
     cases r4 with
     | nil=>exact h
     | cons p ps=>exact twin_g ha ps h
theorem args_g {a:Int}(ha:0<=a) (fl:Bool) (pf:Int->Pin) (sg:Int):∀(xs:List Expr) (k:Nat),(∀x∈xs,OkE x)->PartsG a (argsD fl pf sg xs k).parts
 | [],k,_=>.nil a
 | x::xs,k,h=>by
  rw[argsD]
  exact (expr_g ha fl pf sg x k (h x (by simp))).app (args_g ha fl pf sg xs _ fun y hy=>h y (by simp[hy]))
end
theorem add_g {a:Int}(ha:0<=a) {m:Mk}(h:PartsG a m.parts) (k:Int) (n:List UInt8) (d l:Int):PartsG a (m.add k n d l).parts:=h.app (.one ⟨fun x hx=>by simp at hx,by show (-1:Int)<a;omega⟩)
theorem to_g {a:Int}(ha:0<=a) {c:Control}{m:Mk}(h:PartsG a m.parts) {x:Expr}(hx:OkE x) (p:Pin):PartsG a (m.to c x p).parts:=h.app (expr_g ha false _ _ x _ hx)
theorem valve_g {a:Int}{m:Mk}(h:PartsG a m.parts) (hl:m.parts≠[]) {v:Int}(hv:v<a):PartsG a (m.valve v).parts:=by
 intro q hq
 have hlt:m.parts.length-1<m.parts.length:=by
  have:=List.length_pos_iff.2 hl
  omega
 unfold Mk.valve at hq
 rw[List.getElem?_eq_getElem hlt]at hq
 rcases List.mem_or_eq_of_mem_set hq with hq | rfl
 ·exact h q hq
 ·exact⟨fun x hx=>(h _ (List.getElem_mem hlt)).1 x hx,hv⟩
theorem act_g {n:Int}{m:Mk}(h:PartsG n m.parts) (a:Nat) (ha:(a:Int)<n):PartsG n (actM m a).parts:=by
 have h0:0<=n:=by omega
 exact valve_g (add_g h0 (add_g h0 (add_g h0 (add_g h0 h _ _ _ _) _ _ _ _) _ _ _ _) _ _ _ _) (by simp[Mk.add]) ha
theorem machine_g {c:Control}(h0:0<=c.actuators):PartsG c.actuators (machineM c).parts:=by
 have h1:∀n:Nat,(n:Int)<=c.actuators->PartsG c.actuators ((List.range n).foldl actM ((⟨[],[],0,-1,[]⟩:Mk).add 0 [83] 0 (-1))).parts:=by
  intro n
  induction n with
  | zero=>exact fun _=>add_g h0 (.nil _) _ _ _ _
  | succ n ih=>
   intro hn
   rw[List.range_succ,List.foldl_append]
   exact act_g (ih (by omega)) n (by omega)
 have h2:∀(n:Nat) {m:Mk},PartsG c.actuators m.parts->PartsG c.actuators ((List.range n).foldl (inM c) m).parts:=by
  intro n
  induction n with
  | zero=>exact fun h=>h
  | succ n ih=>
   intro m h
   rw[List.range_succ,List.foldl_append]
   exact add_g h0 (ih h) _ _ _ _
 exact h2 _ (h1 _ (by omega))
theorem whole_g {c:Control}(hc:OkC c) (h0:0<=c.actuators):PartsG c.actuators (wholeM c).parts:=by
 have hx:∀(i:Nat) (x:Signal),c.signals[i]?=some x->OkE x.on∧OkE x.off:=fun i x hx=>⟨(hc.sigs x (List.mem_of_getElem? hx)).on,(hc.sigs x (List.mem_of_getElem? hx)).off⟩
 have h1:∀(n:Nat) {m:Mk},PartsG c.actuators m.parts->PartsG c.actuators ((List.range n).foldl (gateM c) m).parts:=by
  intro n
  induction n with
  | zero=>exact fun h=>h
  | succ n ih=>
   intro m h
   rw[List.range_succ,List.foldl_append]
   have h2:=ih h
   generalize (List.range n).foldl (gateM c) m=m' at h2
   show PartsG _ (gateM c m' n).parts
   unfold gateM
   split
   ·refine h2.app (expr_g h0 false _ _ _ _ ?_)
    cases e:c.signals[n]? with
    | none=>exact .mk _ (by simp) (by simp) (by simp) (by simp)
    | some x=>exact (hx n x e).1
   ·exact h2
 have h2:∀(n:Nat) {m:Mk},PartsG c.actuators m.parts->PartsG c.actuators ((List.range n).foldl (sigM c) m).parts:=by
  intro n
  induction n with
  | zero=>exact fun h=>h
  | succ n ih=>
   intro m h
   rw[List.range_succ,List.foldl_append]
   have h2:=ih h
   generalize (List.range n).foldl (sigM c) m=m' at h2
   show PartsG _ (sigM c m' n).parts
   unfold sigM
   cases e:c.signals[n]? with
   | none=>exact h2
   | some x=>
    obtain⟨x1,x2⟩:=hx n x e
    dsimp only
    split
    ·exact to_g h0 (m:=(((m'.sig n).add 2 (ownT c n) 0 (firstC c+n)).feed (ownT c n)).to c x.on ⟨ownT c n,[49,52]⟩) (to_g h0 (m:=((m'.sig n).add 2 (ownT c n) 0 (firstC c+n)).feed (ownT c n)) (add_g h0 (m:=m'.sig n) h2 _ _ _ _) x1 ⟨ownT c n,[49,52]⟩) x2 ⟨ownT c n,[49,50]⟩
    ·split
     ·exact to_g h0 (m:=((m'.sig n).add 12 (ownT c n) x.delay (firstC c+n)).feed (ownT c n)) (add_g h0 (m:=m'.sig n) h2 _ _ _ _) x1 ⟨ownT c n,[49,50]⟩
     ·exact h2
 have h3:∀(n:Nat) {m:Mk},PartsG c.actuators m.parts->PartsG c.actuators ((List.range n).foldl (pilM c) m).parts:=by
  intro n
  induction n with
  | zero=>exact fun h=>h
  | succ n ih=>
   intro m h
   rw[List.range_succ,List.foldl_append]
   exact ih h
 exact h3 _ (h2 _ (h1 _ (machine_g h0)))
def onM (c:Control) (u:State) (p:Made):Bool:=match p.arg with
 | some x=>(evalP c u x).1
 | none=>if 0<=p.valve then u.valves.getD p.valve.toNat false else if 0<=p.line then (valueP c u p.line).1 else false
def placeI (b:Bool):Int:=if b=true then 1 else 0
def posQ37 (c:Control) (s:State):List Int×Int:=
 if checkC c≠0 then ([],checkC c) else if manyM (dM c)=true then ([],5) else if rightC c s≠0 then ([],rightC c s)
 else ((dM c).parts.map fun p=>placeI (onM c (gatesP c s) p),0)
theorem dM_g {c:Control}(h:checkC c=0) (hc:OkC c):PartsG c.actuators (dM c).parts:=fun q hq=>whole_g hc (okR_of h).act.1 q ((dM_perm h).mem_iff.1 hq)
theorem RePositions_fn (c:Control) (s:State) (hc:OkC c) (hs:SmS s):CallFn Tryz.prog 11 [aC c,aSt s] (.tuple [aIs (posQ37 c s).1,aI (posQ37 c s).2]):=by
 have hd:=givenM_s c hc
 have hg:=Gates_fn c s hc hs
 unfold posQ37
 refine CallS.agg (az:=[aC c]) (bz:=[]) ?_
 refine callFz_of Tryz.func11 rfl Tryz.ntmps11 (rs:=[.tmp 4,.tmp 5]) rfl (by kernel_rfl) (by simp) (by kernel_rfl) ?_
 simp
 intro b3
 refine (hd.frame).mono ?_
 rintro r _ ⟨H',(⟨hz,rfl,rfl⟩|⟨hz,b,bg,hp,hj,rfl,rfl⟩),rfl⟩
 ·simp[hz]
 ·have hR:=okR_of hz
  have hfw:=dM_few hz
  have hpg:=dM_g hz hc
  cases hm:manyM (dM c) with
  | true=>simp[hz,hm]
  | false=>
   by_cases hr:rightC c s=0
   ·rw[show gatesR c s=(gatesP c s,0) by rw[gatesR,if_neg (by simp[hr])]]at hg
    have hru:=gates_right hr
    have hsu:=sm_of (fine_of hz) (right_zero hru).2.1
    have hvl:((gatesP c s).valves.length:Int)=c.actuators:=by
     exact (right_zero hru).2.1.2.1
    simp[hz,hm]
    refine (hg.s ?_)
    generalize gatesP c s=u at *
    simp[hz,hr]
    refine V.forI (σ:=Value) (dM c).parts.length [2,3,4,5,33,34] (by simp;exact rfl) (fun i g=>[(8,.own 50 g),(35,aI i)]) (fun i g=>[(50,.seq g 3 1 ((((dM c).parts.take i).map fun p=>placeI (onM c u p)).map rI))]) (fun _ _=>True) (.slice none 0 0) trivial (by simp) ⟨by simp;exact rfl,by simp⟩ ?_ ?_
    ·rintro i g hi -
     obtain⟨p,hp1⟩:∃p,(dM c).parts[i]=p:=⟨_,rfl⟩
     have hpo:(dM c).parts[i]?=some p:=by rw[List.getElem?_eq_getElem hi,hp1]
     have hpp:=hpg p (List.mem_of_getElem? hpo)
     have hst:(((dM c).parts.take (i+1)).map fun p=>placeI (onM c u p)).map rI=(((dM c).parts.take i).map fun p=>placeI (onM c u p)).map rI++[rI (placeI (onM c u p))]:=by rw[List.take_add_one,hpo];simp
     rw[hst]
     have hfl:=hfw.1
     have htl:(((dM c).parts.take i).map fun p=>placeI (onM c u p)).length<=60000:=by rw[List.length_map,List.length_take];omega
     generalize ((dM c).parts.take i).map (fun p=>placeI (onM c u p))=out at *
     obtain⟨ak,an,ad,asg,aa,av,al⟩:=p
     simp only at hp1 hpo hi hfl
     cases aa with
     | some x=>
      have hev:=EvalC_fn c u x hc hsu (hpp.1 x rfl)
      have ho:onM c u ⟨ak,an,ad,asg,some x,av,al⟩=(evalP c u x).1:=rfl
      rw[ho]
      generalize evalP c u x=ev at *
      obtain⟨e1,e2⟩:=ev
      simp[hi,hp1,hpo,argA]
      intro b10
      refine⟨by kernel_rfl,V.drawX (fun t=>if t=50 then some (.fn (.tuple [aB e1,aI e2])) else none) (by kernel_rfl) (by kernel_rfl) (by simp) ?_⟩
      simp[encE_eq x]
      refine⟨hev,fun h=>⟨by omega,by omega,by rw[h];rfl⟩,fun h=>⟨by omega,by omega,by rw[h];rfl⟩⟩
     | none=>
      have hval:=Value_fn c u al hc hsu
      by_cases h0:0<=av
      ·have ho:onM c u ⟨ak,an,ad,asg,none,av,al⟩=u.valves.getD av.toNat false:=by unfold onM;simp only;rw[if_pos h0]
       rw[ho]
       have hb:av.toNat<u.valves.length:=by have:=hpp.2;simp only at this;omega
       obtain⟨v,hv⟩:∃v,u.valves[av.toNat]=v:=⟨_,rfl⟩
       have hvo:u.valves[av.toNat]?=some v:=by rw[List.getElem?_eq_getElem hb,hv]
       rw[List.getD_eq_getElem?_getD,hvo,Option.getD_some]
       simp[hi,hp1,hpo,argA,h0,hv,hvo]
       exact⟨by kernel_rfl,by omega,fun h=>⟨by omega,by omega,by rw[h];rfl⟩,fun h=>⟨by omega,by omega,by rw[h];rfl⟩⟩
      ·have ho:onM c u ⟨ak,an,ad,asg,none,av,al⟩=(if 0<=al then (valueP c u al).1 else false):=by unfold onM;simp only;rw[if_neg h0]
       rw[ho]
       by_cases h1:0<=al
       ·rw[if_pos h1]
        generalize valueP c u al=ev at *
        obtain⟨e1,e2⟩:=ev
        simp[hi,hp1,hpo,argA,h0,h1]
        intro b10
        refine⟨by kernel_rfl,hval.s ?_⟩
        simp
        exact⟨fun h=>⟨by omega,by omega,by rw[h];rfl⟩,fun h=>⟨by omega,by omega,by rw[h];rfl⟩⟩
       ·rw[if_neg h1]
        simp[hi,hp1,hpo,argA,h0,h1]
        exact⟨by kernel_rfl,by omega,by omega,rfl⟩
    ·rintro g -
     simp[hz,hr,allD,rowsD,isD]
   ·rw[show gatesR c s=(noSt,rightC c s) by rw[gatesR,if_pos hr]]at hg
    simp[hz,hm]
    refine (hg.s ?_)
    simp[hz,hr]
section
section
variable {c:Control}(h:checkC c=0)
include h
theorem gears_perm:(wholeM c).parts.Perm (wholeR c).gears:=by
 have:=(whole_rel (inC_of h)).parts
 rwa [List.append_nil]at this
end
end
end Go.Proofs.YtafamcbdaeppoaaGreatDoor
