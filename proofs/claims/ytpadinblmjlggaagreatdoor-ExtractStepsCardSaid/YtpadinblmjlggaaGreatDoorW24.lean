/- Texts joined by a program: Ku,Kv,Kw,Wa,Wb,Wc. -/
import Derived.Test.YtpadinblmjlggaaGreatDoorW23
import Derived.Test.YtpadinblmjlggaaGreatDoorW12
import Derived.Test.YtpadinblmjlggaaGreatDoorW16
import Derived.Test.YtpadinblmjlggaaGreatDoorW17
import Derived.Test.YtpadinblmjlggaaGreatDoorW19
import Derived.Test.YtpadinblmjlggaaGreatDoorW20
import Derived.Test.YtpadinblmjlggaaGreatDoorW21
set_option linter.unusedSimpArgs false
set_option linter.unusedVariables false
set_option maxHeartbeats 8000000
set_option maxRecDepth 10000
namespace Go.Proofs.YtpadinblmjlggaaGreatDoor
def arS (xs:List PortZ) (x:PipeZ):List PortZ:=
 if x.2∈(if x.1∈xs∧x.2∉xs then xs++[x.2] else xs)∧x.1∉(if x.1∈xs∧x.2∉xs then xs++[x.2] else xs) then (if x.1∈xs∧x.2∉xs then xs++[x.2] else xs)++[x.1] else (if x.1∈xs∧x.2∉xs then xs++[x.2] else xs)
def arP (l:List PipeZ) (xs:List PortZ):List PortZ:=l.foldl arS xs
theorem arS_eq (xs:List PortZ) (x:PipeZ):arS xs x=if x.1∈xs∧x.2∉xs then xs++[x.2] else if x.2∈xs∧x.1∉xs then xs++[x.1] else xs:=by
 unfold arS
 by_cases h1:x.1∈xs
 ·by_cases h2:x.2∈xs
  ·simp[h1,h2]
  ·simp[h1,h2]
 ·by_cases h2:x.2∈xs
  ·simp[h1,h2]
  ·simp[h1,h2]
theorem arS_sub (xs:List PortZ) (x:PipeZ):∀q∈xs,q∈arS xs x:=by
 intro q hq
 rw[arS_eq]
 (repeat' split)<;>simp[hq]
theorem arS_len (xs:List PortZ) (x:PipeZ):(arS xs x=xs∧(x.1∈xs↔x.2∈xs))∨((arS xs x).length=xs.length+1∧∃y,(y=x.1∨y=x.2)∧y∉xs∧y∈arS xs x):=by
 rw[arS_eq]
 by_cases h1:x.1∈xs
 ·by_cases h2:x.2∈xs
  ·simp[h1,h2]
  ·refine .inr ?_
   rw[if_pos ⟨h1,h2⟩]
   exact⟨by simp,x.2,.inr rfl,h2,by simp⟩
 ·by_cases h2:x.2∈xs
  ·refine .inr ?_
   rw[if_neg (fun h=>h1 h.1),if_pos ⟨h2,h1⟩]
   exact⟨by simp,x.1,.inl rfl,h1,by simp⟩
  ·simp[h1,h2]
theorem arP_sub:∀(l:List PipeZ) (xs:List PortZ),∀q∈xs,q∈arP l xs
 | [],_,_,h=>h
 | x::l,xs,q,h=>arP_sub l _ q (arS_sub xs x q h)
theorem arP_len:∀(l:List PipeZ) (xs:List PortZ),(arP l xs=xs∧∀x∈l,x.1∈xs↔x.2∈xs)∨(xs.length<(arP l xs).length∧∃y,(∃x∈l,y=x.1∨y=x.2)∧y∉xs∧y∈arP l xs)
 | [],xs=>.inl ⟨rfl,by simp⟩
 | x::l,xs=>by
  show (arP l (arS xs x)=xs∧_)∨(xs.length<(arP l (arS xs x)).length∧∃y,(∃z∈x::l,y=z.1∨y=z.2)∧y∉xs∧y∈arP l (arS xs x))
  rcases arS_len xs x with⟨h1,h2⟩|⟨h1,y,h0,h2,h3⟩
  ·rw[h1]
   rcases arP_len l xs with⟨h3,h4⟩|h3
   ·refine .inl ⟨h3,fun z hz=>?_⟩
    rcases List.mem_cons.1 hz with rfl | hz
    ·exact h2
    ·exact h4 z hz
   ·obtain⟨k1,y,⟨z,k2,k3⟩,k4⟩:=h3
    exact .inr ⟨k1,y,⟨z,by simp[k2],k3⟩,k4⟩
  ·refine .inr ?_
   rcases arP_len l (arS xs x) with⟨h4,_⟩|⟨h4,_⟩
   ·rw[h4]
    exact⟨by omega,y,⟨x,by simp,h0⟩,h2,h3⟩
   ·exact⟨by omega,y,⟨x,by simp,h0⟩,h2,arP_sub l _ y h3⟩
theorem arP_snoc {l:List PipeZ}{i:Nat}{x:PipeZ}(h:l[i]?=some x) (xs:List PortZ):arP (l.take (i+1)) xs=arS (arP (l.take i) xs) x:=by
 unfold arP
 exact foldl_take h
theorem arS_of {xs:List PortZ}{x:PipeZ}{C:PortZ->Prop}(h:∀q∈xs,C q) (hx:C x.1↔C x.2):∀q∈arS xs x,C q:=by
 intro q hq
 rw[arS_eq]at hq
 split at hq
 ·rename_i h1
  rcases List.mem_append.1 hq with hq | hq
  ·exact h q hq
  ·simp only[List.mem_singleton]at hq
   subst hq
   exact hx.1 (h _ h1.1)
 ·split at hq
  ·rename_i h1
   rcases List.mem_append.1 hq with hq | hq
   ·exact h q hq
   ·simp only[List.mem_singleton]at hq
    subst hq
    exact hx.2 (h _ h1.1)
  ·exact h q hq
theorem arP_of {C:PortZ->Prop}:∀ {l:List PipeZ}{xs:List PortZ},(∀q∈xs,C q)->(∀x∈l,C x.1↔C x.2)->∀q∈arP l xs,C q
 | [],_,h,_=>h
 | x::l,xs,h,hx=>arP_of (l:=l) (arS_of h (hx x (by simp))) (fun y hy=>hx y (by simp[hy]))
def outC (all xs:List PortZ):Nat:=(all.filter fun q=>!(xs.any (q==·))).length
theorem any_mem (xs:List PortZ) (q:PortZ):xs.any (q==·)=true↔q∈xs:=by
 rw[List.any_eq_true]
 constructor
 ·rintro⟨y,hy,e⟩
  rw[beq_iff_eq.1 e]
  exact hy
 ·intro h
  exact⟨q,h,by simp⟩
theorem outC_lt {all xs ys:List PortZ}(h:∀q∈xs,q∈ys) {y:PortZ}(h1:y∈all) (h2:y∉xs) (h3:y∈ys):outC all ys<outC all xs:=by
 unfold outC
 refine filter_lt (fun q hq=>?_) h1 ?_ ?_
 ·simp only[Bool.not_eq_true',<- Bool.not_eq_true,any_mem]at hq ⊢
  exact fun h4=>hq (h q h4)
 ·simp only[Bool.not_eq_false',any_mem]
  exact h3
 ·simp only[Bool.not_eq_true',<- Bool.not_eq_true,any_mem]
  exact h2
theorem arP_bound {all:List PortZ}:∀(l:List PipeZ) (xs:List PortZ),(∀x∈l,x.1∈all∧x.2∈all)->(arP l xs).length+outC all (arP l xs)<=xs.length+outC all xs
 | [],_,_=>Nat.le_refl _
 | x::l,xs,h=>by
  have ih:=arP_bound l (arS xs x) fun y hy=>h y (by simp[hy])
  have h2:(arS xs x).length+outC all (arS xs x)<=xs.length+outC all xs:=by
   rcases arS_len xs x with⟨h1,_⟩|⟨h1,y,h0,h2,h3⟩
   ·rw[h1]
    omega
   ·have hy:y∈all:=by
     rcases h0 with rfl | rfl
     ·exact (h x (by simp)).1
     ·exact (h x (by simp)).2
    have:=outC_lt (all:=all) (arS_sub xs x) hy h2 h3
    omega
  exact Nat.le_trans ih h2
theorem any_dec (xs:List PortZ) (q:PortZ):xs.any (q==·)=decide (q∈xs):=by
 rw[Bool.eq_iff_iff,any_mem]
 simp
theorem HasP_fn (xs:List PortZ) (p:PortZ) (hl:Sh xs):CallFn Tryz.prog 228 [.dat (.sl (xs.map encPo)),.record (encPo p)] (aB (xs.any (p==·))):=by
 obtain⟨p1,p2⟩:=p
 refine callFz_of Tryz.func228 rfl Tryz.ntmps228 (rs:=[.tmp 4]) rfl (by kernel_rfl) (by simp) (by kernel_rfl) ?_
 simp
 refine V.forI (σ:=Unit) xs.length [0,3] (by simp;exact rfl) (fun i _=>[(4,aB false),(5,aI i)]) (fun _ _=>[]) (fun i _=>NoF ((p1,p2)==·) (xs.take i)) () (by simp) (by simp) ⟨by simp;exact rfl,by simp⟩ ?_ ?_
 ·rintro i-hi hI
  obtain⟨x,hx⟩:∃x,xs[i]=x:=⟨_,rfl⟩
  have hxo:xs[i]?=some x:=by rw[List.getElem?_eq_getElem hi,hx]
  have hs:=findIdx_step (p:=((p1,p2)==·)) hI hxo
  obtain⟨x1,x2⟩:=x
  simp[hi,hx,hxo]
  refine V.drawX (fun _=>none) (by kernel_rfl) (by kernel_rfl) (by simp) ?_
  simp[hi,hx,hxo]
  by_cases e:x1=p1∧x2=p2
  ·obtain⟨rfl,rfl⟩:=e
   have:xs.any ((x1,x2)==·)=true:=List.any_eq_true.2 ⟨(x1,x2),List.mem_of_getElem? hxo,by simp⟩
   simp
   exact List.mem_of_getElem? hxo
  ·have e2:((p1,p2)==(x1,x2))=false:=by
    simp only[beq_eq_false_iff_ne,ne_eq,Prod.mk.injEq]
    exact fun h=>e ⟨h.1.symm,h.2.symm⟩
   exact⟨fun a b=>absurd ⟨a,b⟩ e,fun _=>⟨by omega,hs.1 e2⟩⟩
 ·rintro-hI
  have:xs.any ((p1,p2)==·)=false:=by
   rw[List.any_eq_false]
   intro y hy
   rw[List.take_length]at hI
   simpa using hI y hy
  simp[this]
theorem Which_fn (ns:List (List PortZ)) (p:PortZ) (hl:Sh ns) (hm:∀l∈ns,Sh l):CallFn Tryz.prog 160 [aNets ns,.record (encPo p)] (aI (idxI (ns.findIdx? fun l=>l.any (p==·)))):=by
 have hh:=fun l hx=>HasP_fn l p (hm l hx)
 obtain⟨p1,p2⟩:=p
 refine callFz_of Tryz.func160 rfl Tryz.ntmps160 (rs:=[.tmp 4]) rfl (by kernel_rfl) (by simp) (by kernel_rfl) ?_
 simp
 refine V.forI (σ:=Unit) ns.length [0,3] (by simp;exact rfl) (fun i _=>[(4,aI 0),(5,aI i)]) (fun _ _=>[]) (fun i _=>NoF (fun l:List PortZ=>l.any ((p1,p2)==·)) (ns.take i)) () (by simp) (by simp) ⟨by simp;exact rfl,by simp⟩ ?_ ?_
 ·rintro i-hi hI
  obtain⟨x,hx⟩:∃x,ns[i]=x:=⟨_,rfl⟩
  have hxo:ns[i]?=some x:=by rw[List.getElem?_eq_getElem hi,hx]
  have hs:=findIdx_step (p:=fun l:List PortZ=>l.any ((p1,p2)==·)) hI hxo
  have hc:=hh x (List.mem_of_getElem? hxo)
  generalize x.any ((p1,p2)==·)=z at *
  simp[hi,hx,hxo]
  refine V.drawX (fun t=>if t=17 then some (.fn (aB z)) else none) (by kernel_rfl) (by kernel_rfl) (by simp) ?_
  simp[hi,hx,hxo]
  refine⟨hc,?_⟩
  cases z
  ·simp
   exact⟨by omega,hs.1 rfl⟩
  ·simp
   rw[hs.2 rfl]
   simp[idxI]
 ·rintro-hI
  rw[findIdx_none hI]
  simp[idxI]
theorem AllR_fn (c:Cir) (hk:∀p∈c.parts,0<=p.kind∧p.kind<14) (h64:c.parts.length<=64):CallFn Tryz.prog 154 [aCi c] (.dat (.sl ((allP c.parts).map encPo))):=by
 obtain⟨ps,l⟩:=c
 simp only at hk h64 ⊢
 unfold allP
 have hal:=allN_len ps
 refine callFz_of Tryz.func154 rfl Tryz.ntmps154 (rs:=[.tmp 2]) rfl (by kernel_rfl) (by simp) (by kernel_rfl) ?_
 simp
 refine V.forI (σ:=Value) ps.length [1,2] (by simp;exact rfl) (fun i g=>[(3,.own 50 g),(4,aI i)]) (fun i g=>[(50,.seq g 73 2 ((allN ps i).map rPo))]) (fun _ _=>True) (.slice none 0 0) trivial (by simp) ⟨by simp;exact rfl,by simp[allN]⟩ ?_ ?_
 ·rintro i g hi -
  obtain⟨p,hp⟩:∃p,ps[i]=p:=⟨_,rfl⟩
  have hpo:ps[i]?=some p:=by rw[List.getElem?_eq_getElem hi,hp]
  have hkp:=hk p (List.mem_of_getElem? hpo)
  obtain⟨pk,pn,pd⟩:=p
  simp only at hkp
  obtain⟨k,rfl⟩:∃k:Nat,pk=k:=⟨pk.toNat,by omega⟩
  have hr:=RightK_fn k
  rw[if_pos hkp]at hr
  have hpf:=AllK_fn k (by omega)
  have hlen:=portsK_len k
  have hle:=hal i
  rw[allN_succ,show portsOf ps i=(portsK k).map fun t=>((i:Int),t) by simp[portsOf,hpo]]
  generalize portsK k=F at *
  generalize allN ps i=W at *
  simp[hi,hp,hpo]
  refine hr.s ?_
  simp[hi,hp,hpo]
  refine hpf.s ?_
  simp
  refine V.forI (σ:=Value) F.length [1,2,4,5] (by simp;exact rfl) (fun j g=>[(3,.own 50 g),(6,aI j)]) (fun j g=>[(50,.seq g 73 2 ((W++(F.take j).map fun t=>((i:Int),t)).map rPo))]) (fun _ _=>True) g trivial (by simp) ⟨by simp;exact rfl,by simp⟩ ?_ ?_
  ·rintro j g2 hj -
   obtain⟨x,hx⟩:∃x,F[j]=x:=⟨_,rfl⟩
   have hxo:F[j]?=some x:=by rw[List.getElem?_eq_getElem hj,hx]
   rw[List.take_add_one,hxo]
   simp[hj,hx,hxo]
   omega
  ·rintro g2 -
   simp
   omega
 ·rintro g -
  simp
def aroundZ (c:Cir) (p:PortZ):List PortZ:=(allP c.parts).filter fun q=>rootF c.pipes q==rootF c.pipes p
theorem ar_round {ps:List Prt}{l:List PipeZ}{Q:PostQ}{g:Value}{i:Nat}{x:PipeZ}{zs:List PortZ}{mo:Bool}
  (hhas:∀(xs:List PortZ) (q:PortZ),xs.length<=1000000->CallFn Tryz.prog 228 [.dat (.sl (xs.map encPo)),.record (encPo q)] (aB (xs.any (q==·))))
  (hxo:l[i]?=some x) (hi:i<l.length) (hi2:l.length<=1000000) (hz:zs.length<=1000)
  (hQ:∀g' E' H',(∀z∈[(5,.own 13 g'),(6,aB (mo||decide (zs.length<(arS zs x).length))),(7,aI (i+1:Nat))],wk (E' z.1) z.2)->(∀z∈[(2,A.rptr (encCi ⟨ps,l⟩)),(4,.nils),(14,aB true)],E' z.1=z.2)->subN [(13,.seq g' 73 2 ((arS zs x).map rPo))] H'->Q .normal E' H') :
  vcC ⟨Tryz.prog,none,81⟩ (loopC Tryz.f155 1) (hdE [(2,.rptr (encCi ⟨ps,l⟩)),(4,.nils),(14,aB true)] [(5,.own 13 g),(6,aB mo),(7,aI i)]) [(13,.seq g 73 2 (zs.map rPo))] Q:=by
 obtain⟨hil,hx⟩:=List.getElem?_eq_some_iff.1 hxo
 have q1:=hhas zs x.1 (by omega)
 have q2:=hhas zs x.2 (by omega)
 have q3:=hhas (zs++[x.2]) x.2 (by simp;omega)
 have q4:=hhas (zs++[x.2]) x.1 (by simp;omega)
 rw[arS_eq]at hQ
 obtain⟨⟨x1,x2⟩,x3,x4⟩:=x
 simp only at q1 q2 q3 q4 hQ
 rw[any_dec]at q1 q2 q3 q4
 have lv1:∀(H:Heap) (g:Value) (e sz:Nat) (zs:List PortZ) (q:PortZ),hget 13 H=some (.seq g e sz (zs.map rPo))->(frzs H [.own 13 g,.record (encPo q)]).1∧(frzs H [.own 13 g,.record (encPo q)]).2=[.dat (.sl (zs.map encPo)),.record (encPo q)]:=by
  intro H g e sz zs q h
  simp[h]
 have lv2:∀(H:Heap) (g:Value) (e sz:Nat) (zs:List PortZ) (y q:PortZ),hget 13 H=some (.seq g e sz (zs.map rPo++[[.dat (.int .i64 y.1),.dat (.str y.2)]]))->(frzs H [.own 13 g,.record (encPo q)]).1∧(frzs H [.own 13 g,.record (encPo q)]).2=[.dat (.sl ((zs++[y]).map encPo)),.record (encPo q)]:=by
  intro H g e sz zs y q h
  have:=lv1 H g e sz (zs++[y]) q (by simpa using h)
  exact this
 refine vc_part rfl ?_
 by_cases b1:(x1,x2)∈zs
 ·by_cases b2:(x3,x4)∈zs
  ·simp[b1,b2]at q1 q2
   simp only[b1,b2,not_true,and_false,if_false]at hQ
   simp[hi,hx,hxo]
   intro b8
   refine q1.lend (lv1 _ _ _ _ zs (x1,x2) rfl) (by simp) ?_
   simp
   refine GCall.ways (fun _=>⟨trivial,q2.lend (lv1 _ _ _ _ zs (x3,x4) rfl) (by simp) ?_⟩) (fun h=>absurd trivial h)
   simp
   refine q2.lend (lv1 _ _ _ _ zs (x3,x4) rfl) (by simp) ?_
   simp
   refine GCall.ways (fun _=>⟨trivial,q1.lend (lv1 _ _ _ _ zs (x1,x2) rfl) (by simp) ?_⟩) (fun h=>absurd trivial h)
   simp
   exact⟨by omega,hQ g _ _ (by simp) (by simp) (by simp)⟩
  ·simp only[b1,b2,decide_true,decide_false,List.mem_append,List.mem_singleton,or_true,true_or]at q1 q2 q3 q4
   simp only[b1,b2,not_false_eq_true,and_self,if_true]at hQ
   simp[hi,hx,hxo]
   intro b8
   refine q1.lend (lv1 _ _ _ _ zs (x1,x2) rfl) (by simp) ?_
   simp
   refine GCall.ways (fun _=>⟨trivial,q2.lend (lv1 _ _ _ _ zs (x3,x4) rfl) (by simp) ?_⟩) (fun h=>absurd trivial h)
   simp
   intro u
   refine⟨by omega,?_⟩
   refine q3.lend (lv2 _ _ _ _ zs (x3,x4) (x3,x4) rfl) (by simp) ?_
   simp
   refine GCall.ways (fun _=>⟨trivial,q4.lend (lv2 _ _ _ _ zs (x3,x4) (x1,x2) rfl) (by simp) ?_⟩) (fun h=>absurd trivial h)
   simp
   exact⟨by omega,hQ u _ _ (by simp) (by simp) (by simp)⟩
 ·by_cases b2:(x3,x4)∈zs
  ·simp[b1,b2]at q1 q2
   simp only[b1,b2,false_and,if_false,not_false_eq_true,and_self,if_true]at hQ
   simp[hi,hx,hxo]
   intro b8
   refine q1.lend (lv1 _ _ _ _ zs (x1,x2) rfl) (by simp) ?_
   simp
   refine GCall.ways (fun h=>absurd h (by simp)) (fun _=>⟨aB false,?_⟩)
   simp
   refine q2.lend (lv1 _ _ _ _ zs (x3,x4) rfl) (by simp) ?_
   simp
   refine GCall.ways (fun _=>⟨trivial,q1.lend (lv1 _ _ _ _ zs (x1,x2) rfl) (by simp) ?_⟩) (fun h=>absurd trivial h)
   simp
   intro u
   exact⟨by omega,by omega,hQ u _ _ (by simp) (by simp) (by simp)⟩
  ·simp[b1,b2]at q1 q2
   simp only[b1,b2,false_and,if_false]at hQ
   simp[hi,hx,hxo]
   intro b8
   refine q1.lend (lv1 _ _ _ _ zs (x1,x2) rfl) (by simp) ?_
   simp
   refine GCall.ways (fun h=>absurd h (by simp)) (fun _=>⟨aB false,?_⟩)
   simp
   refine q2.lend (lv1 _ _ _ _ zs (x3,x4) rfl) (by simp) ?_
   simp
   refine GCall.ways (fun h=>absurd h (by simp)) (fun _=>⟨aB false,?_⟩)
   simp
   exact⟨by omega,hQ g _ _ (by simp) (by simp) (by simp)⟩
theorem Around_fn (c:Cir) (hc:CirR c) (p:PortZ) (hp:p∈allP c.parts):CallFn Tryz.prog 155 [aCi c,.record (encPo p)] (.dat (.sl ((aroundZ c p).map encPo))):=by
 have hkinds:∀p∈c.parts,0<=p.kind∧p.kind<14:=fun p hp=>partE_kindZ (hc.part p hp)
 have hallf:=AllR_fn c hkinds hc.few
 obtain⟨ps,l⟩:=c
 have hfew:=hc.few
 have hmany:=hc.many
 have hroot:=rootF_ok l
 have hinall:∀x∈l,x.1∈allP ps∧x.2∈allP ps:=fun x hx=>⟨mem_allP.2 ⟨(hc.inp x hx).1,(hc.has x hx).1⟩,mem_allP.2 ⟨(hc.inp x hx).2,(hc.has x hx).2⟩⟩
 have hall448:(allP ps).length<=448:=by
  have:=allN_len ps ps.length
  simp only at hfew
  unfold allP
  omega
 simp only at hfew hmany hallf hp
 unfold aroundZ
 simp only
 have hhas:=fun xs q (h:List.length xs<=1000000)=>HasP_fn xs q (by unfold Sh;omega)
 obtain⟨p1,p2⟩:=p
 refine callFz_cut 1 Tryz.func155 rfl Tryz.ntmps155 (rs:=[.tmp 4]) rfl (by kernel_rfl) (by simp) (by kernel_rfl) ?_
 simp
 refine V.seqV (V.regF (fun t=>if t=13 then some .bld else none) [] ?_)
 simp
 intro g0
 refine V.of_vc ?_
 simp
 obtain⟨f,hf⟩:∃f,rootF l=f:=⟨_,rfl⟩
 rw[hf]at hroot ⊢
 refine V.for' [2,4] (fun s:List PortZ×Bool×Value=>[(5,.own 13 s.2.2),(6,aB s.2.1)]) (fun s=>[(13,.seq s.2.2 73 2 (s.1.map rPo))])
  (fun s=>(p1,p2)∈s.1∧(∀q∈s.1,q∈allP ps∧f q=f (p1,p2))∧s.1.length+outC (allP ps) s.1<=449∧(s.2.1=false->∀x∈l,x.1∈s.1↔x.2∈s.1))
  (fun s=>2*outC (allP ps) s.1+(if s.2.1=true then 1 else 0)) ([(p1,p2)],true,g0) ⟨⟨by simp,fun q hq=>?_,?_,by simp⟩,by simp,by simp;exact subP.refl _⟩ ?_
 ·simp only[List.mem_singleton]at hq
  subst hq
  exact⟨hp,rfl⟩
 ·have:outC (allP ps) [(p1,p2)]<=(allP ps).length:=List.length_filter_le _ _
  simp
  omega
 ·rintro⟨xs,more,g⟩ ⟨h1,h2,h3,h4⟩
  simp only at h1 h2 h3 h4
  cases more
  ·simp
   refine hallf.s ?_
   simp
   have hx449:xs.length<=1000:=by omega
   have hcls:∀q,q∈allP ps->(q∈xs↔f q=f (p1,p2)):=by
    intro q hq
    constructor
    ·intro h
     exact (h2 q h).2
    ·intro h
     have hcl:=hroot.closed (fun q=>q∈xs) (h4 rfl)
     exact (hcl q).2 (by rw[h];exact (hcl (p1,p2)).1 h1)
   generalize hA:allP ps=all at *
   refine V.forI (σ:=Value) all.length [4,5,10] (by simp;exact rfl) (fun i g2=>[(9,.own 50 g2),(11,aI i)]) (fun i g2=>[(50,.seq g2 73 2 (((all.take i).filter fun q=>f q==f (p1,p2)).map rPo)),(13,.seq g 73 2 (xs.map rPo))]) (fun _ _=>True) (.slice none 0 0) trivial (by simp) ⟨by simp;exact rfl,by simp⟩ ?_ ?_
   ·rintro i g2 hi -
    obtain⟨x,hx⟩:∃x,all[i]=x:=⟨_,rfl⟩
    have hxo:all[i]?=some x:=by rw[List.getElem?_eq_getElem hi,hx]
    have hxc:=hcls x (List.mem_of_getElem? hxo)
    have hh:=hhas xs x (by omega)
    rw[any_dec]at hh
    have hle:((all.take i).filter fun q=>f q==f (p1,p2)).length<=448:=by
     refine Nat.le_trans (List.length_filter_le _ _) ?_
     rw[List.length_take]
     omega
    rw[take_snoc hxo,List.filter_append]
    generalize (all.take i).filter (fun q=>f q==f (p1,p2))=W at *
    obtain⟨x1,x2⟩:=x
    by_cases hm:(x1,x2)∈xs
    ·have he:=hxc.1 hm
     simp only[hm,decide_true]at hh
     simp[hi,hx,hxo,he]
     refine hh.lend ?_ (by simp) ?_
     ·simp
     simp[hi,hx,hxo]
     exact⟨by omega,by omega,by simp[he]⟩
    ·have he:¬f (x1,x2)=f (p1,p2):=fun h=>hm (hxc.2 h)
     simp only[hm,decide_false]at hh
     simp[hi,hx,hxo,he]
     refine hh.lend ?_ (by simp) ?_
     ·simp
     simp
     exact⟨by omega,he⟩
   ·rintro g2 -
    simp
  ·simp
   refine V.forI (σ:=Value) l.length [2,4,14] (by simp;exact rfl) (fun i g=>[(5,.own 13 g),(6,aB (decide (xs.length<(arP (l.take i) xs).length))),(7,aI i)]) (fun i g=>[(13,.seq g 73 2 ((arP (l.take i) xs).map rPo))]) (fun _ _=>True) g trivial (by simp[arP]) ⟨by simp;exact rfl,by simp[arP]⟩ ?_ ?_
   ·rintro i g2 hi -
    obtain⟨x,hx⟩:∃x,l[i]=x:=⟨_,rfl⟩
    have hxo:l[i]?=some x:=by rw[List.getElem?_eq_getElem hi,hx]
    have hbd:=arP_bound (all:=allP ps) (l.take i) xs fun y hy=>hinall y (List.mem_of_mem_take hy)
    have hge:xs.length<=(arP (l.take i) xs).length:=by
     rcases arP_len (l.take i) xs with⟨h,_⟩|⟨h,_⟩
     ·rw[h]
      omega
     ·omega
    have hge2:(arP (l.take i) xs).length<=(arS (arP (l.take i) xs) x).length:=by
     rcases arS_len (arP (l.take i) xs) x with⟨h,_⟩|⟨h,_⟩
     ·rw[h]
      omega
     ·omega
    rw[arP_snoc hxo]
    refine vc_of_part rfl (ar_round hhas hxo hi (by omega) (by omega) fun g' E' H' q1 q2 q3=>⟨g',trivial,?_,q2,q3⟩)
    rw[show decide (xs.length<(arS (arP (l.take i) xs) x).length)=(decide (xs.length<(arP (l.take i) xs).length)||decide ((arP (l.take i) xs).length<(arS (arP (l.take i) xs) x).length)) by
     rw[Bool.eq_iff_iff];simp only[Bool.or_eq_true,decide_eq_true_eq];omega]
    exact q1
   ·rintro g2 -
    simp
    have hbd:=arP_bound (all:=allP ps) l xs hinall
    have hin2:∀q∈arP l xs,q∈allP ps∧f q=f (p1,p2):=arP_of h2 fun x hx=>⟨fun ⟨_,b⟩=>⟨(hinall x hx).2,by rw[<- hroot.pipe x hx];exact b⟩,fun ⟨_,b⟩=>⟨(hinall x hx).1,by rw[hroot.pipe x hx];exact b⟩⟩
    have hs1:=arP_sub l xs _ h1
    rcases arP_len l xs with⟨h5,h6⟩|⟨h5,y,⟨z,h6,h7⟩,h8,h9⟩
    ·refine⟨xs,.inl ⟨⟨h1,fun a b hab=>h2 _ hab,h3,fun a b a2 b2 hab=>h6 _ hab⟩,by omega,g2,⟨rfl,by rw[h5];omega⟩,?_⟩⟩
     rw[h5]
     exact subP.refl _
    ·have hy:y∈allP ps:=by
      rcases h7 with rfl | rfl
      ·exact (hinall z h6).1
      ·exact (hinall z h6).2
     exact⟨arP l xs,.inr ⟨⟨hs1,fun a b hab=>hin2 _ hab,by omega⟩,outC_lt (arP_sub l xs) hy h8 h9,g2,⟨rfl,h5⟩,subP.refl _⟩⟩
theorem head_around {c:Cir}{p:PortZ}(hc:CirR c) (hp:p∈allP c.parts):∃r rest,aroundZ c p=r::rest∧(r=p↔rootF c.pipes p=p):=by
 have hro:=rootF_ok c.pipes
 have hm:rootF c.pipes p∈aroundZ c p:=List.mem_filter.2 ⟨(root_all hc).1 hp,by simp[hro.idem]⟩
 have hpm:p∈aroundZ c p:=List.mem_filter.2 ⟨hp,by simp⟩
 have hs:(aroundZ c p).Pairwise fun a b=>beforeZ a b=true:=(allN_sorted c.parts _).sublist List.filter_sublist
 cases h:aroundZ c p with
 | nil=>rw[h]at hm;cases hm
 | cons r rest=>
  refine⟨r,rest,rfl,?_⟩
  have hr:rootF c.pipes r=rootF c.pipes p:=by
   have:r∈aroundZ c p:=by rw[h];simp
   simpa using (List.mem_filter.1 this).2
  have hle:=hro.le r
  rw[hr]at hle
  rw[h]at hm hs
  have hrr:rootF c.pipes p=r:=by
   rcases List.mem_cons.1 hm with e | hm
   ·exact e
   ·have:=(List.pairwise_cons.1 hs).1 _ hm
    rw[this]at hle
    cases hle
  rw[hrr]
theorem Joined_fn (c:Cir) (hc:CirR c):CallFn Tryz.prog 95 [aCi c] (aNets (netsZ c)):=by
 have hkinds:∀p∈c.parts,0<=p.kind∧p.kind<14:=fun p hp=>partE_kindZ (hc.part p hp)
 have hallf:=AllR_fn c hkinds hc.few
 have haf:=fun p hp=>Around_fn c hc p hp
 have hhd:=fun p hp=>@head_around c p hc hp
 have hfew:=hc.few
 have hall448:(allP c.parts).length<=448:=by
  have:=allN_len c.parts c.parts.length
  unfold allP
  omega
 have hz:netsZ c=((allP c.parts).filter fun r=>rootF c.pipes r==r).map (aroundZ c):=by
  unfold netsZ netsF
  apply List.map_congr_left
  intro r hr
  have:=(List.mem_filter.1 hr).2
  simp only[beq_iff_eq]at this
  unfold aroundZ
  rw[this]
 rw[hz]
 obtain⟨ps,l⟩:=c
 simp only at hallf haf hhd hall448 ⊢
 generalize allP ps=all at *
 refine callFz_of Tryz.func95 rfl Tryz.ntmps95 (rs:=[.tmp 2]) rfl (by kernel_rfl) (by simp) (by kernel_rfl) ?_
 simp
 refine hallf.s ?_
 simp
 refine V.forI (σ:=Value) all.length [1,2,4] (by simp;exact rfl) (fun i g=>[(3,.own 50 g),(5,aI i)]) (fun i g=>[(50,.seq g 68 1 ((((all.take i).filter fun r=>rootF l r==r).map (aroundZ ⟨ps,l⟩)).map fun l=>[.dat (.sl (l.map encPo))]))]) (fun _ _=>True) (.slice none 0 0) trivial (by simp) ⟨by simp;exact rfl,by simp⟩ ?_ ?_
 ·rintro i g hi -
  obtain⟨x,hx⟩:∃x,all[i]=x:=⟨_,rfl⟩
  have hxo:all[i]?=some x:=by rw[List.getElem?_eq_getElem hi,hx]
  have ha:=haf x (List.mem_of_getElem? hxo)
  obtain⟨r,rest,h1,h2⟩:=hhd x (List.mem_of_getElem? hxo)
  have hle:(((all.take i).filter fun r=>rootF l r==r).map (aroundZ ⟨ps,l⟩)).length<=448:=by
   rw[List.length_map]
   refine Nat.le_trans (List.length_filter_le _ _) ?_
   rw[List.length_take]
   omega
  rw[take_snoc hxo,List.filter_append,List.map_append]
  generalize ((all.take i).filter fun r=>rootF l r==r).map (aroundZ ⟨ps,l⟩)=W at *
  obtain⟨x1,x2⟩:=x
  obtain⟨r1,r2⟩:=r
  rw[h1]at ha
  simp[hi,hx,hxo]
  refine V.drawX (fun t=>if t=20 then some (.fn (.dat (.sl (((r1,r2)::rest).map encPo)))) else none) (by kernel_rfl) (by kernel_rfl) (by simp) ?_
  simp[hi,hx,hxo]
  refine⟨ha,?_⟩
  refine V.drawX (fun _=>none) (by kernel_rfl) (by kernel_rfl) (by simp) ?_
  simp[hi,hx,hxo]
  by_cases hr:rootF l (x1,x2)=(x1,x2)
  ·have e:=h2.2 hr
   simp only[Prod.mk.injEq]at e
   obtain⟨rfl,rfl⟩:=e
   simp[hr,h1]
   omega
  ·have e:¬(r1=x1∧r2=x2):=fun h=>hr (h2.1 (by rw[h.1,h.2]))
   simp[hr]
   exact⟨fun a b=>e ⟨a,b⟩,fun _=>by omega⟩
 ·rintro g -
  rw[List.take_length]
  generalize (all.filter fun r=>rootF l r==r).map (aroundZ ⟨ps,l⟩)=W
  simp
theorem at_fn (xs:List Nat) (v:Nat) (hx:Sh xs):CallFn Tryz.prog 72 [aNs xs,aI v] (aI (idxI (xs.findIdx? (v==·)))):=by
 refine callFz_of Tryz.func72 rfl Tryz.ntmps72 (rs:=[.tmp 4]) rfl (by kernel_rfl) (by simp) (by kernel_rfl) ?_
 simp
 refine V.forI (σ:=Unit) xs.length [0,1] (by simp;exact rfl) (fun i _=>[(4,aI 0),(5,aI i)]) (fun _ _=>[]) (fun i _=>NoF (v==·) (xs.take i)) () (by simp) (by simp) ⟨by simp;exact rfl,by simp⟩ ?_ ?_
 ·rintro i-hi hI
  obtain⟨x,hxe⟩:∃x,xs[i]=x:=⟨_,rfl⟩
  have hxo:xs[i]?=some x:=by rw[List.getElem?_eq_getElem hi,hxe]
  have hs:=findIdx_step (p:=(v==·)) hI hxo
  simp[hi,hxe,hxo]
  refine⟨fun e=>?_,fun e=>⟨⟨by omega,by omega⟩,hs.1 ?_⟩⟩
  ·rw[hs.2 (by simp;omega)]
   simp[idxI]
  ·simp
   omega
 ·rintro-hI
  rw[findIdx_none hI]
  simp[idxI]
theorem drives_fn (d:List Drv) (v:Nat) (hx:Sh d):CallFn Tryz.prog 156 [.dat (.sl (d.map encDr)),aI v] (aB (drivenZ d v).isSome):=by
 unfold drivenZ
 generalize hD:(d.findIdx? fun q=>q.2==v).isSome=D
 refine callFz_of Tryz.func156 rfl Tryz.ntmps156 (rs:=[.tmp 4]) rfl (by kernel_rfl) (by simp) (by kernel_rfl) ?_
 simp
 refine V.forI (σ:=Unit) d.length [0,1] (by simp;exact rfl) (fun i _=>[(4,aB false),(5,aI i)]) (fun _ _=>[]) (fun i _=>NoF (fun q:Drv=>q.2==v) (d.take i)) () (by simp) (by simp) ⟨by simp;exact rfl,by simp⟩ ?_ ?_
 ·rintro i-hi hI
  obtain⟨x,hxe⟩:∃x,d[i]=x:=⟨_,rfl⟩
  have hxo:d[i]?=some x:=by rw[List.getElem?_eq_getElem hi,hxe]
  have hs:=findIdx_step (p:=fun q:Drv=>q.2==v) hI hxo
  simp[hi,hxe,hxo]
  refine⟨fun e=>?_,fun e=>⟨⟨by omega,by omega⟩,hs.1 ?_⟩⟩
  ·rw[<- hD,hs.2 (by simp;omega)]
   rfl
  ·simp
   omega
 ·rintro-hI
  have:=findIdx_none hI
  rw[<- hD,this]
  simp
theorem variableR_fn (n:Int):CallFn Tryz.prog 161 [aI n] (aE (varE n)):=by
 refine callFz_of Tryz.func161 rfl Tryz.ntmps161 (rs:=[.cell 2 98]) rfl (by kernel_rfl) (by simp) (by kernel_rfl) ?_
 simp[varE,encE_eq]
theorem turned_fn (x:Expr):CallFn Tryz.prog 159 [aE x] (aE (notE x)):=by
 obtain⟨o,n,l⟩:=x
 refine callFz_of Tryz.func159 rfl Tryz.ntmps159 (rs:=[.cell 2 98]) rfl (by kernel_rfl) (by simp) (by kernel_rfl) ?_
 simp[notE,encE_eq]
theorem joinedR_fn (op:Int) (l:List Expr) (hl:l.length<=4294967296):CallFn Tryz.prog 230 [aI op,.dat (.sl (l.map encE))] (aE (sevE op l)):=by
 refine callFz_of Tryz.func230 rfl Tryz.ntmps230 (rs:=[.cell 4 98]) rfl (by kernel_rfl) (by simp) (by kernel_rfl) ?_
 cases l with
 | nil=>simp[sevE,nulE,encE_eq]
 | cons x l=>
  cases l with
  | nil=>
   obtain⟨o,n,l⟩:=x
   simp[sevE,encE_eq]
  | cons y l=>
   simp[sevE,encE_eq]
   exact⟨by omega,fun _ h=>by omega⟩
theorem netW_idx {ns:List (List PortZ)}{p:PortZ}(h:netW ns p<ns.length):ns.findIdx? (fun l=>l.any (p==·))=some (netW ns p):=by
 rw[List.findIdx?_eq_some_iff_findIdx_eq]
 exact⟨h,rfl⟩
structure NsOK (ns:List (List PortZ)) (all:List PortZ):Prop where
 few:ns.length<=448
 net:∀l∈ns,l.length<=448∧l≠[]∧∀p∈l,p∈all
 of:∀p∈all,netW ns p<ns.length
theorem nsOK {c:Cir}(hr:CirR c):NsOK (netsZ c) (allP c.parts):=
 ⟨netsZ_few hr,netsZ_net hr,fun p hp=>by
  obtain⟨l,h1,_⟩:=netW_some hr hp
  exact (List.getElem?_eq_some_iff.1 h1).1⟩
theorem WhichN_fn {ns:List (List PortZ)}{all:List PortZ}(h:NsOK ns all) {p:PortZ}(hp:p∈all):CallFn Tryz.prog 160 [aNets ns,.record (encPo p)] (aI (netW ns p)):=by
 have:=Which_fn ns p (by have:=h.few;unfold Sh;omega) (fun l hl=>by have:=(h.net l hl).1;unfold Sh;omega)
 rw[netW_idx (h.of p hp)]at this
 exact this
theorem pairR_fn {ns:List (List PortZ)}{all:List PortZ}(h:NsOK ns all) (a b:Nat) (t:List UInt8) (hp:((a:Int),t)∈all):CallFn Tryz.prog 276 [aNets ns,aI a,aI b,aT t] (aB (pairZ ns a b t)):=by
 have hw:=WhichN_fn h hp
 have hlt:=h.of _ hp
 unfold pairZ
 generalize netW ns ((a:Int),t)=w at *
 obtain⟨l,hl⟩:∃l,ns[w]=l:=⟨_,rfl⟩
 have hlo:ns[w]?=some l:=by rw[List.getElem?_eq_getElem hlt,hl]
 have hln:=h.net l (List.mem_of_getElem? hlo)
 have hh:=HasP_fn l ((b:Int),t) (by unfold Sh;omega)
 rw[List.getD_eq_getElem?_getD,hlo,Option.getD_some]
 refine callFz_of Tryz.func276 rfl Tryz.ntmps276 (rs:=[.tmp 8]) rfl (by kernel_rfl) (by simp) (by kernel_rfl) ?_
 simp
 refine hw.s ?_
 simp[hlt,hl,hlo]
 by_cases e:l.length=2
 ·simp only[e,decide_true,Bool.true_and]
  refine GCall.fn (aB (l.any (((b:Int),t)==·))) (fun h=>⟨h,hh⟩) ?_
  simp
 ·simp only[e,decide_false,Bool.false_and]
  refine GCall.never (by omega) (aB false) ?_
  simp
theorem valveR_fn {c:Cir}(hr:CirR c) (hk:∀p∈c.parts,0<=p.kind∧p.kind<14) {i:Nat}(hi:kindOf c.parts i=1):CallFn Tryz.prog 224 [aCi c,aNets (netsZ c),aI i] (aI (idxI (valveZ c.parts (netsZ c) i))):=by
 have hN:=nsOK hr
 have hil:=kindOf_lt (ps:=c.parts) (i:=i) (by omega)
 have hp2:=fun v=>pairR_fn hN i v [50] (port_of hil (by rw[hi];decide))
 have hp4:=fun v=>pairR_fn hN i v [52] (port_of hil (by rw[hi];decide))
 have hf:=hr.few
 obtain⟨W,hV⟩:∃W,valveZ c.parts (netsZ c) i=W:=⟨_,rfl⟩
 have hst:∀n,n<c.parts.length->NoF (drvB c.parts (netsZ c) i) (List.range n)->(drvB c.parts (netsZ c) i n=false->NoF (drvB c.parts (netsZ c) i) (List.range (n+1)))∧(drvB c.parts (netsZ c) i n=true->W=some n):=fun n hn hI=>by
  have h1:(List.range c.parts.length)[n]?=some n:=by rw[List.getElem?_range hn]
  have e:(List.range c.parts.length).take n=List.range n:=by rw[List.take_range,Nat.min_eq_left (by omega)]
  have e2:(List.range c.parts.length).take (n+1)=List.range (n+1):=by rw[List.take_range,Nat.min_eq_left (by omega)]
  have:=findIdx_step (p:=drvB c.parts (netsZ c) i) (by rw[e];exact hI) h1
  rw[e2]at this
  exact⟨this.1,fun hb=>by rw[<- hV];exact this.2 hb⟩
 have hno:NoF (drvB c.parts (netsZ c) i) (List.range c.parts.length)->W=none:=fun h=>by
  rw[<- hV]
  exact findIdx_none (by rw[List.take_length];exact h)
 rw[hV]
 generalize netsZ c=ns at *
 refine callFz_of Tryz.func224 rfl Tryz.ntmps224 (rs:=[.tmp 6]) rfl (by kernel_rfl) (by simp) (by kernel_rfl) ?_
 simp
 refine V.forI (σ:=Unit) c.parts.length [1,2,3,6] (by simp;exact rfl) (fun n _=>[(7,aI n)]) (fun _ _=>[]) (fun n _=>NoF (drvB c.parts ns i) (List.range n)) () (by simp) (by simp) ⟨by simp;exact rfl,by simp⟩ ?_ ?_
 ·rintro n ⟨⟩ hn hI
  obtain⟨x,hx⟩:∃x,c.parts[n]=x:=⟨_,rfl⟩
  have hxo:c.parts[n]?=some x:=by rw[List.getElem?_eq_getElem hn,hx]
  have hkx:=hk x (List.mem_of_getElem? hxo)
  have hkn:=kindOf_at hxo
  obtain⟨s1,s2⟩:=hst n hn hI
  have hb:drvB c.parts ns i n=((kindOf c.parts n==2||kindOf c.parts n==3)&&(pairZ ns i n [50]&&pairZ ns i n [52])):=rfl
  rw[hb]at s1 s2
  have h2:=hp2 n
  have h4:=hp4 n
  generalize pairZ ns i n [50]=P2 at *
  generalize pairZ ns i n [52]=P4 at *
  simp[hn,hx,hxo]
  by_cases hkk:x.kind=2∨x.kind=3
  ·have hk1:(kindOf c.parts n==2||kindOf c.parts n==3)=true:=by
    rw[hkn]
    simp only[Bool.or_eq_true,beq_iff_eq]
    omega
   rw[hk1,Bool.true_and]at s1 s2
   refine GCall.fn (aB P2) (fun h=>⟨h,h2⟩) ?_
   cases P2
   ·simp[hkk]
    refine GCall.never (by simp) (aB false) ?_
    simp[hkk]
    exact⟨⟨by omega,by omega⟩,s1 rfl⟩
   ·simp[hkk]
    refine GCall.fn (aB P4) (fun h=>⟨h,h4⟩) ?_
    cases P4
    ·simp[hkk]
     exact⟨⟨by omega,by omega⟩,s1 rfl⟩
    ·simp[hkk]
     exact⟨by rw[s2 rfl];rfl,fun a b=>absurd hkk (by simp[a,b])⟩
  ·have hk1:(kindOf c.parts n==2||kindOf c.parts n==3)=false:=by
    rw[hkn,Bool.or_eq_false_iff]
    simp only[beq_eq_false_iff_ne,ne_eq]
    omega
   rw[hk1,Bool.false_and]at s1 s2
   refine GCall.never hkk (aB false) ?_
   simp[hkk]
   refine GCall.never (by simp) (aB false) ?_
   simp[hkk]
   exact⟨⟨by omega,by omega⟩,s1 rfl⟩
 ·rintro⟨⟩ hI
  rw[hno hI]
  simp[idxI]
theorem kind_of {c:Cir}(hr:CirR c) {i:Nat}{x:Prt}(hx:c.parts[i]?=some x):x.kind=(kindOf c.parts i:Nat)∧kindOf c.parts i<14:=by
 have:=part_kind (hr.part x (List.mem_of_getElem? hx))
 rw[kindOf_at hx]
 omega
theorem idxI_3 (o:Option Nat):(idxI o==3)=(o==some 3):=by
 cases o with
 | none=>rfl
 | some k=>
  rw[Bool.eq_iff_iff]
  simp only[idxI,beq_iff_eq,Option.some.injEq]
  omega
theorem CountsR_fn {c:Cir}(hr:CirR c) {l:List PortZ}(hl:l.length<=448) (hne:l≠[]) (hp:∀p∈l,p∈allP c.parts):CallFn Tryz.prog 71 [aCi c,.dat (.sl (l.map encPo))] (aB (countsZ c.parts l)):=by
 cases l with
 | nil=>exact absurd rfl hne
 | cons q l=>
  obtain⟨j,x,hj,hx,hq1,_⟩:=mem_allN.1 (hp q (by simp))
  obtain⟨q1,q2⟩:=q
  simp only at hq1
  subst hq1
  obtain⟨hk,hk14⟩:=kind_of hr hx
  have hpl:=Plays_fn (kindOf c.parts j) hk14 q2
  have hz:countsZ c.parts (((j:Int),q2)::l)=(decide (1<l.length+1)||roleK (kindOf c.parts j) q2==some 3):=by
   unfold countsZ
   rw[List.length_cons]
   simp only[Int.toNat_natCast]
  rw[hz]
  obtain⟨x1,x2,x3⟩:=x
  simp only at hk
  subst hk
  obtain⟨hjl,hxe⟩:=List.getElem?_eq_some_iff.1 hx
  simp at hl
  generalize kindOf c.parts j=k at *
  refine callFz_of Tryz.func71 rfl Tryz.ntmps71 (rs:=[.tmp 4]) rfl (by kernel_rfl) (by simp) (by kernel_rfl) ?_
  simp
  refine V.drawX (fun t=>if t=22 then some (.fn (aI (idxI (roleK k q2)))) else none) (by kernel_rfl) (by kernel_rfl) (by simp) ?_
  simp[hjl,hx,hxe]
  refine⟨fun h=>⟨h,hpl⟩,?_⟩
  rw[idxI_3]
  congr 1
  rw[Bool.eq_iff_iff]
  simp only[decide_eq_true_eq]
  omega
theorem Buttons_o {c:Cir}(hr:CirR c):CallFn Tryz.prog 96 [aCi c] (aNs (buttN c.parts c.parts.length)):=by
 have hf:=hr.few
 refine callFz_of Tryz.func96 rfl Tryz.ntmps96 (rs:=[.tmp 2]) rfl (by kernel_rfl) (by simp) (by kernel_rfl) ?_
 simp
 refine V.forI (σ:=Value) c.parts.length [1,2] (by simp;exact rfl) (fun i g=>[(3,.own 50 g),(4,aI i)]) (fun i g=>[(50,.seq g 3 1 ((buttN c.parts i).map rN))]) (fun _ _=>True) (.slice none 0 0) trivial (by simp) ⟨by simp;exact rfl,by simp[buttN]⟩ ?_ ?_
 ·rintro i g hi -
  obtain⟨x,hx⟩:∃x,c.parts[i]=x:=⟨_,rfl⟩
  have hxo:c.parts[i]?=some x:=by rw[List.getElem?_eq_getElem hi,hx]
  obtain⟨hk,hk14⟩:=kind_of hr hxo
  have hbl:=buttN_len c.parts i
  rw[buttN_succ]
  simp[hi,hx,hxo]
  refine⟨fun h7=>⟨by omega,⟨by omega,by omega⟩,?_⟩,fun h7=>⟨⟨by omega,by omega⟩,by omega⟩⟩
  rw[if_pos (by omega)]
  rfl
 ·rintro g -
  simp
theorem Valves_fn {c:Cir}(hr:CirR c) {d:List Drv}(hd:d.length<=1000):CallFn Tryz.prog 97 [aCi c,.dat (.sl (d.map encDr))] (aNs (valvN c.parts d c.parts.length)):=by
 have hf:=hr.few
 have hdf:=fun i:Nat=>drives_fn d i (by unfold Sh;omega)
 refine callFz_of Tryz.func97 rfl Tryz.ntmps97 (rs:=[.tmp 4]) rfl (by kernel_rfl) (by simp) (by kernel_rfl) ?_
 simp
 refine V.forI (σ:=Value) c.parts.length [1,2,4] (by simp;exact rfl) (fun i g=>[(5,.own 50 g),(6,aI i)]) (fun i g=>[(50,.seq g 3 1 ((valvN c.parts d i).map rN))]) (fun _ _=>True) (.slice none 0 0) trivial (by simp) ⟨by simp;exact rfl,by simp[valvN]⟩ ?_ ?_
 ·rintro i g hi -
  obtain⟨x,hx⟩:∃x,c.parts[i]=x:=⟨_,rfl⟩
  have hxo:c.parts[i]?=some x:=by rw[List.getElem?_eq_getElem hi,hx]
  obtain⟨hk,hk14⟩:=kind_of hr hxo
  have hpi:=Piloted_fn (kindOf c.parts i) hk14
  have hvl:=valvN_len c.parts d i
  have hdi:=hdf i
  rw[valvN_succ]
  rw[<- hk]at hpi
  simp[hi,hx,hxo]
  refine hpi.s ?_
  simp
  by_cases hpl:plusK (kindOf c.parts i)=[]
  ·refine GCall.never (by simp[hpl]) (aB false) ?_
   simp[hpl]
   omega
  ·refine GCall.fn (aB (drivenZ d i).isSome) (fun h=>⟨h,hdi⟩) ?_
   cases hz:drivenZ d i with
   | none=>
    simp[hpl]
    omega
   | some k=>
    simp[hpl]
    omega
 ·rintro g -
  simp
def allQ (c:Cir):List Drv×Int:=if drvE c.parts (netsZ c)=0 then (drvN c.parts (netsZ c) c.parts.length,0) else ([],drvE c.parts (netsZ c))
theorem AllD_fn {c:Cir}(hr:CirR c):CallFn Tryz.prog 152 [aCi c] (.tuple [.dat (.sl ((allQ c).1.map encDr)),aI (allQ c).2]):=by
 have hf:=hr.few
 have hj:=Joined_fn c hr
 have hv:=fun i hi=>valveR_fn hr (fun p hp=>part_kind (hr.part p hp)) (i:=i) hi
 have hbad:=fun i=>drvE_bad (ps:=c.parts) (ns:=netsZ c) (i:=i)
 have hend:=drvE_end (ps:=c.parts) (ns:=netsZ c)
 have hsc:=drvN_succ c.parts (netsZ c)
 have hdl:=drvN_len c.parts (netsZ c)
 have h0:drvN c.parts (netsZ c) 0=[]:=rfl
 generalize hR:allQ c=R
 unfold allQ at hR
 generalize drvN c.parts (netsZ c)=DN at *
 generalize drvE c.parts (netsZ c)=DE at *
 generalize valveZ c.parts (netsZ c)=VZ at *
 generalize netsZ c=ns at *
 refine callFz_of Tryz.func152 rfl Tryz.ntmps152 (rs:=[.tmp 2,.tmp 3]) rfl (by kernel_rfl) (by simp) (by kernel_rfl) ?_
 simp
 refine hj.s ?_
 simp
 refine V.forI (σ:=Value) c.parts.length [1,2,3,4] (by simp;exact rfl) (fun i g=>[(5,.own 50 g),(6,aB (decide (DN i≠[]))),(7,aI i)]) (fun i g=>[(50,.seq g 164 2 ((DN i).map rDr))]) (fun i _=>∀j,j<i->kindOf c.parts j=1->(VZ j).isSome=true) (.slice none 0 0) (by simp) (by simp[h0]) ⟨by simp;exact rfl,by simp[h0]⟩ ?_ ?_
 ·rintro i g hi hI
  obtain⟨x,hx⟩:∃x,c.parts[i]=x:=⟨_,rfl⟩
  have hxo:c.parts[i]?=some x:=by rw[List.getElem?_eq_getElem hi,hx]
  obtain⟨hk,hk14⟩:=kind_of hr hxo
  have hdi:=hdl i
  rw[hsc]
  by_cases h1:kindOf c.parts i=1
  ·have hx1:x.kind=1:=by omega
   have hvi:=hv i h1
   simp[hi,hx,hxo,hx1]
   refine hvi.s ?_
   cases hz:VZ i with
   | none=>
    simp[idxI]
    rw[<- hR,hbad i hi h1 hz]
    simp
   | some k=>
    simp[idxI]
    refine⟨fun h=>by omega,fun u=>⟨by omega,⟨by omega,by omega⟩,fun j hj hk1=>?_,u,⟨rfl,.inr h1⟩,rfl,?_⟩⟩
    ·by_cases e:j=i
     ·rw[e,hz];rfl
     ·exact hI j (by omega) hk1
    ·rw[if_pos h1]
     rfl
  ·have hx1:¬x.kind=1:=by omega
   rw[if_neg h1]
   simp[hi,hx,hxo,hx1]
   refine⟨⟨by omega,by omega⟩,fun j hj hk1=>?_⟩
   by_cases e:j=i
   ·rw[e]at hk1;exact absurd hk1 h1
   ·exact hI j (by omega) hk1
 ·rintro g hI
  have he:=hend hI
  rw[<- hR,he]
  simp
  by_cases hd0:DN c.parts.length=[]
  ·simp[hd0]
  ·simp[hd0,allD_Dr,rowsD_Dr]
theorem allE_eq (c:Cir) (h:cirE c=0):drivesQ c=allQ c:=by
 unfold drivesQ allQ pairE
 simp[h]
theorem DrivesR_fn (c:Cir) (hc:OkCir c):CallFn Tryz.prog 93 [aCi c] (.tuple [.dat (.sl ((drivesQ c).1.map encDr)),aI (drivesQ c).2]):=by
 have hch:=CirCheckR_fn c hc.names hc.parts hc.pipes
 by_cases h0:cirE c=0
 ·have ha:=AllD_fn (cirR_of h0)
  rw[h0]at hch
  rw[allE_eq c h0]
  generalize allQ c=R at *
  refine callFz_of Tryz.func93 rfl Tryz.ntmps93 (rs:=[.tmp 2,.tmp 3]) rfl (by kernel_rfl) (by simp) (by kernel_rfl) ?_
  simp
  refine hch.s ?_
  simp
  refine ha.s ?_
  simp
 ·have:drivesQ c=([],cirE c):=by
   unfold drivesQ pairE
   simp[h0]
  rw[this]
  refine callFz_of Tryz.func93 rfl Tryz.ntmps93 (rs:=[.tmp 2,.tmp 3]) rfl (by kernel_rfl) (by simp) (by kernel_rfl) ?_
  simp
  refine hch.s ?_
  simp[h0]
theorem gives_fn {c:Cir}(hr:CirR c) {d:List Drv}(hd:d.length<=1000) {j:Nat}{t:List UInt8}(hj:j<c.parts.length):CallFn Tryz.prog 225 [aCi c,.dat (.sl (d.map encDr)),.record (encPo ((j:Int),t))] (.dat (.sl ((giftsZ c.parts d ((j:Int),t)).map encGf))):=by
 obtain⟨x,hx⟩:∃x,c.parts[j]=x:=⟨_,rfl⟩
 have hxo:c.parts[j]?=some x:=by rw[List.getElem?_eq_getElem hj,hx]
 obtain⟨hk,hk14⟩:=kind_of hr hxo
 have hmy:=Many_fn (kindOf c.parts j) hk14
 have hdv:=drives_fn d j (by unfold Sh;omega)
 have hpa:=fun n hn=>Passed_fn (kindOf c.parts j) hk14 n hn
 have hm2:=manyK_le (kindOf c.parts j)
 unfold giftsZ givenZ
 simp only[Int.toNat_natCast]
 generalize kindOf c.parts j=k at *
 generalize drivenZ d j=D at *
 obtain⟨x1,x2,x3⟩:=x
 simp only at hk
 subst hk
 refine callFz_of Tryz.func225 rfl Tryz.ntmps225 (rs:=[.tmp 6]) rfl (by kernel_rfl) (by simp) (by kernel_rfl) ?_
 simp[hj,hx,hxo]
 refine V.forI (σ:=Value) (if D.isSome=true then 0 else manyK k) [1,5,6,8] (by simp;exact rfl) (fun i g=>[(7,.own 50 g),(9,aI i)]) (fun i g=>[(50,.seq g 295 5 (((List.range i).flatMap fun pos=>((passK k pos).filter fun y=>y.to==t).map fun y=>(⟨j,pos,y⟩:Gift)).map rGf))]) (fun _ _=>True) (.slice none 0 0) trivial (by simp) ⟨by simp;exact rfl,by simp⟩ ?_ ?_
 ·rintro i g hi -
  cases D with
  | some q=>simp at hi
  | none=>
   simp at hi
   have hp2:=hpa i (by omega)
   simp[hj,hx,hxo]
   refine hmy.s ?_
   simp
   refine GCall.fn (aB false) (fun h=>⟨h,hdv⟩) ?_
   simp[hi]
   refine hp2.s ?_
   simp
   have hW:=gvN_len k j t i
   have hF:=passK_len k i
   rw[List.range_succ,List.flatMap_append]
   generalize ((List.range i).flatMap fun pos=>((passK k pos).filter fun y=>y.to==t).map fun y=>(⟨j,pos,y⟩:Gift))=W at hW ⊢
   generalize hFe:passK k i=F at hp2 hF ⊢
   refine V.forI (σ:=Value) F.length [1,5,6,8,9,10] (by simp;exact rfl) (fun n g=>[(7,.own 50 g),(11,aI n)]) (fun n g=>[(50,.seq g 295 5 ((W++((F.take n).filter fun y=>y.to==t).map fun y=>(⟨j,i,y⟩:Gift)).map rGf))]) (fun _ _=>True) g trivial (by simp) ⟨by simp;exact rfl,by simp⟩ ?_ ?_
   ·rintro n g2 hn -
    obtain⟨y,hy⟩:∃y,F[n]=y:=⟨_,rfl⟩
    have hyo:F[n]?=some y:=by rw[List.getElem?_eq_getElem hn,hy]
    rw[List.take_add_one,hyo]
    have hle:=List.length_filter_le (fun y:PassP=>y.to==t) (F.take n)
    rw[List.length_take]at hle
    simp[hn,hy,hyo]
    refine V.drawX (fun _=>none) (by kernel_rfl) (by kernel_rfl) (by simp) ?_
    simp[hn,hy,hyo]
    refine⟨fun e=>?_,fun e=>⟨⟨by omega,by omega⟩,e⟩⟩
    refine V.drawX (fun _=>none) (by kernel_rfl) (by kernel_rfl) (by simp) ?_
    simp[hn,hy,hyo]
    exact⟨by omega,⟨by omega,by omega⟩,by simp[e]⟩
   ·rintro g2 -
    simp
    exact⟨⟨by omega,by omega⟩,by rw[hFe]⟩
 ·rintro g -
  simp
  refine hmy.s ?_
  simp
  cases D with
  | some q=>
   have hpos:0<manyK k:=by unfold manyK;split<;>omega
   simp
   refine GCall.fn (aB true) (fun h=>⟨h,hdv⟩) ?_
   simp[hpos]
  | none=>
   simp
   refine GCall.never (by simp) (aB false) ?_
   simp[allD_Gf,rowsD_Gf]
theorem idxI_neg (o:Option Nat):(idxI o<0)=(o=none):=by
 cases o with
 | none=>simp[idxI]
 | some k=>simp[idxI]
theorem mem_take_succ {α:Type}{l:List α}{i:Nat}{x y:α}(h:l[i]?=some x) (hy:y∈l.take (i+1)):y∈l.take i∨y=x:=by
 rw[List.take_add_one,h]at hy
 simpa using hy
theorem readyR_fn {c:Cir}(hr:CirR c) {d:List Drv}(hd:d.length<=1000) {order:List Nat}(ho:order.length<=1000) {i:Nat}(hi:i<(netsZ c).length) :
  CallFn Tryz.prog 153 [aCi c,.dat (.sl (d.map encDr)),aNets (netsZ c),aNs order,aI i] (aB (readyZ c.parts d (netsZ c) order i)):=by
 have hN:=nsOK hr
 have hgv:=fun j t hj=>gives_fn hr hd (j:=j) (t:=t) hj
 have hwh:=fun p hp=>WhichN_fn hN (p:=p) hp
 have hcn:=fun l hl=>CountsR_fn hr (hN.net l hl).1 (hN.net l hl).2.1 (hN.net l hl).2.2
 have hat:=fun v=>at_fn order v (by unfold Sh;omega)
 obtain⟨l,hl⟩:∃l,(netsZ c)[i]=l:=⟨_,rfl⟩
 have hlo:(netsZ c)[i]?=some l:=by rw[List.getElem?_eq_getElem hi,hl]
 have hln:=hN.net l (List.mem_of_getElem? hlo)
 generalize hR:readyZ c.parts d (netsZ c) order i=R
 have hRl:R=l.all fun x=>(giftsZ c.parts d x).all fun g=>g.pass.src.all fun t=>!takesZ c.parts (netsZ c) order g t:=by
  rw[<- hR]
  unfold readyZ
  rw[List.getD_eq_getElem?_getD,hlo]
  rfl
 have hbad:∀x∈l,∀g∈giftsZ c.parts d x,∀t∈g.pass.src,takesZ c.parts (netsZ c) order g t=true->R=false:=fun x hx g hg t ht h=>by
  rw[hRl,Bool.eq_false_iff]
  intro hall
  have:=List.all_eq_true.1 (List.all_eq_true.1 (List.all_eq_true.1 hall x hx) g hg) t ht
  rw[h]at this
  cases this
 have hpar:=fun p (hp:p∈l)=>mem_allN.1 (hln.2.2 p hp)
 refine callFz_of Tryz.func153 rfl Tryz.ntmps153 (rs:=[.tmp 10]) rfl (by kernel_rfl) (by simp) (by kernel_rfl) ?_
 simp[hi,hl,hlo]
 refine V.forI (σ:=Unit) l.length [1,2,3,4,5,10] (by simp;exact rfl) (fun n _=>[(11,aI n)]) (fun _ _=>[]) (fun n _=>∀x∈l.take n,(giftsZ c.parts d x).all (fun g=>g.pass.src.all fun t=>!takesZ c.parts (netsZ c) order g t)=true) () (by simp) (by simp) ⟨by simp;exact rfl,by simp⟩ ?_ ?_
 ·rintro n ⟨⟩ hn hI
  obtain⟨x,hx⟩:∃x,l[n]=x:=⟨_,rfl⟩
  have hxo:l[n]?=some x:=by rw[List.getElem?_eq_getElem hn,hx]
  have hxm:=List.mem_of_getElem? hxo
  obtain⟨j,q,hj,hq,hx1,hx2⟩:=hpar x hxm
  obtain⟨x1,x2⟩:=x
  simp only at hx1
  subst hx1
  have hg:=hgv j x2 hj
  have hbx:=hbad _ hxm
  have hgm:∀g∈giftsZ c.parts d ((j:Int),x2),g.pass.src.length<=2∧∀t∈g.pass.src,((g.part:Int),t)∈allP c.parts:=fun g hg=>by
   have hm:=given_mem (gifts_mem hg)
   simp only[Int.toNat_natCast]at hm
   obtain⟨hk,hk14⟩:=kind_of hr hq
   refine⟨passK_srcl _ _ _ hm.2.2,fun t ht=>?_⟩
   rw[hm.1]
   exact port_of hj (passK_src hk14 (by have:=manyK_le (kindOf c.parts j);omega) hm.2.2 ht)
  have hgl:(giftsZ c.parts d ((j:Int),x2)).length<=2:=by
   unfold giftsZ
   split
   ·simp
   ·exact Nat.le_trans (gvN_len _ _ _ _) (manyK_le _)
  generalize hGS:giftsZ c.parts d ((j:Int),x2)=GS at *
  simp[hi,hl,hlo,hn,hx,hxo]
  refine V.drawX (fun t=>if t=34 then some (.fn (.dat (.sl (GS.map encGf)))) else none) (by kernel_rfl) (by kernel_rfl) (by simp) ?_
  simp[hi,hl,hlo,hn,hx,hxo]
  refine⟨hg,?_⟩
  refine V.forI (σ:=Unit) GS.length [1,2,3,4,5,10,11,12] (by simp;exact rfl) (fun m _=>[(13,aI m)]) (fun _ _=>[]) (fun m _=>∀G∈GS.take m,(G.pass.src.all fun t=>!takesZ c.parts (netsZ c) order G t)=true) () (by simp) (by simp) ⟨by simp;exact rfl,by simp⟩ ?_ ?_
  ·rintro m ⟨⟩ hm hJ
   obtain⟨G,hG⟩:∃G,GS[m]=G:=⟨_,rfl⟩
   have hGo:GS[m]?=some G:=by rw[List.getElem?_eq_getElem hm,hG]
   have hGm:=List.mem_of_getElem? hGo
   obtain⟨hsl,hsp⟩:=hgm G hGm
   have hbg:=hbx G hGm
   simp[hm,hG,hGo]
   refine V.forI (σ:=Unit) G.pass.src.length [1,2,3,4,5,10,11,12,13] (by simp;exact rfl) (fun k _=>[(14,aI k)]) (fun _ _=>[]) (fun k _=>∀t∈G.pass.src.take k,(!takesZ c.parts (netsZ c) order G t)=true) () (by simp) (by simp) ⟨by simp;exact rfl,by simp⟩ ?_ ?_
   ·rintro k ⟨⟩ hk hK
    obtain⟨t,ht⟩:∃t,G.pass.src[k]=t:=⟨_,rfl⟩
    have hto:G.pass.src[k]?=some t:=by rw[List.getElem?_eq_getElem hk,ht]
    have htm:=List.mem_of_getElem? hto
    have hpp:=hsp t htm
    have hw:=hwh _ hpp
    have hwl:=hN.of _ hpp
    have hbt:=hbg t htm
    have htk:takesZ c.parts (netsZ c) order G t=(countsZ c.parts ((netsZ c).getD (netW (netsZ c) ((G.part:Int),t)) []) && !(order.any (netW (netsZ c) ((G.part:Int),t)==·))):=rfl
    generalize netW (netsZ c) ((G.part:Int),t)=w at *
    obtain⟨lw,hlw⟩:∃lw,(netsZ c)[w]=lw:=⟨_,rfl⟩
    have hlwo:(netsZ c)[w]?=some lw:=by rw[List.getElem?_eq_getElem hwl,hlw]
    have hcw:=hcn lw (List.mem_of_getElem? hlwo)
    have haw:=hat w
    rw[List.getD_eq_getElem?_getD,hlwo,Option.getD_some]at htk
    generalize hCB:countsZ c.parts lw=CB at *
    simp[hm,hG,hGo,hk,ht,hto]
    refine V.drawX (fun t=>if t=68 then some (.fn (aI w)) else none) (by kernel_rfl) (by kernel_rfl) (by simp) ?_
    simp[hm,hG,hGo,hk,ht,hto]
    refine⟨hw,?_⟩
    refine V.drawX (fun t=>if t=74 then some (.fn (aB CB)) else if t=78 then some (.fn (aI (idxI (order.findIdx? (w==·))))) else none) (by kernel_rfl) (by kernel_rfl) (by simp) ?_
    cases CB
    ·simp[hwl,hlw,hlwo]
     refine⟨hcw,⟨by omega,by omega⟩,fun u hu=>?_⟩
     rcases mem_take_succ hto hu with h | h
     ·simpa using hK u h
     ·rw[h,htk];rfl
    ·simp[hwl,hlw,hlwo]
     refine⟨hcw,haw,fun hneg=>?_,fun hpos=>⟨⟨by omega,by omega⟩,fun u hu=>?_⟩⟩
     ·rw[idxI_neg]at hneg
      refine hbt ?_
      rw[htk,<- List.findIdx?_isSome,hneg]
      rfl
     ·rcases mem_take_succ hto hu with h | h
      ·simpa using hK u h
      ·rw[h,htk,<- List.findIdx?_isSome]
       cases hf:order.findIdx? (w==·) with
       | none=>rw[hf]at hpos;simp[idxI]at hpos
       | some z=>rfl
   ·rintro⟨⟩ hK
    rw[List.take_length]at hK
    simp[hm,hG,hGo]
    refine⟨⟨by omega,by omega⟩,fun g hg2 t ht=>?_⟩
    rcases mem_take_succ hGo hg2 with h | h
    ·have:=List.all_eq_true.1 (hJ g h) t ht
     simpa using this
    ·subst h
     simpa using hK t ht
  ·rintro⟨⟩ hJ
   rw[List.take_length]at hJ
   simp
   refine⟨⟨by omega,by omega⟩,fun a b hab g hg2 t ht=>?_⟩
   rcases mem_take_succ hxo hab with h | h
   ·have:=List.all_eq_true.1 (List.all_eq_true.1 (hI _ h) g hg2) t ht
    simpa using this
   ·rw[h,hGS]at hg2
    have:=List.all_eq_true.1 (hJ g hg2) t ht
    simpa using this
 ·rintro⟨⟩ hI
  have:R=true:=by
   rw[hRl,List.all_eq_true]
   rw[List.take_length]at hI
   exact hI
  rw[this]
  simp[hi,hl,hlo]
end Go.Proofs.YtpadinblmjlggaaGreatDoor
