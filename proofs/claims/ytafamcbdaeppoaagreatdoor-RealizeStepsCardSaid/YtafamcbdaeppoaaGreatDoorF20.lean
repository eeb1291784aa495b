/- Texts joined by a program: Hi,So,Sx,Sxa,Sl,Iea,Fxj,Fxk. -/
import Derived.Shelf.Sort.Plain
import Derived.Shelf.Slices.CompactI
import Derived.Shelf.Slices.In.SortNone
import Derived.Shelf.SlSortCmp.WholeK
import Derived.Shelf.SlSortCmp.NoneTotal
import Derived.Test.YtafamcbdaeppoaaGreatDoorProg
import Derived.KernelRfl
import Derived.Test.YtafamcbdaeppoaaGreatDoorF19
import Derived.Test.YtafamcbdaeppoaaGreatDoorF18
import Derived.Test.YtafamcbdaeppoaaGreatDoorF14
import Derived.Test.YtafamcbdaeppoaaGreatDoorF16
import Derived.Test.YtafamcbdaeppoaaGreatDoorF17
import Derived.Test.YtafamcbdaeppoaaGreatDoorF11
import Derived.Test.YtafamcbdaeppoaaGreatDoorF15
set_option linter.unusedSimpArgs false
set_option linter.unusedVariables false
set_option maxHeartbeats 8000000
set_option maxRecDepth 100000
namespace Go.Proofs.YtafamcbdaeppoaaGreatDoor
structure OkR (c:Control):Prop where
 sm:Sm c
 act:0<=c.actuators∧c.actuators<=6
 inp:c.inputs.length<=16
 len:c.signals.length<=64
 sig:∀(i:Nat) (x:Signal),c.signals[i]?=some x->(x.kind=0∨x.kind=1∨x.kind=2)∧(RightE (countC c) x.on∧sizeN x.on<=256)∧(x.kind=1->RightE (countC c) x.off∧sizeN x.off<=256)
 pil:PilC c
theorem okR_of {c:Control}(h:checkC c=0):OkR c:=by
 have hf:=fine_of h
 obtain⟨h1,h2,h3,h4,h5⟩:=chk_parts h
 refine⟨hf.sm,⟨by omega,by omega⟩,h2.1,h2.2,fun i x hx=>?_,pil_of h⟩
 have hr:=sig_right hf hx
 have hs:=sig_parts (hf.sigs i x hx)
 refine⟨by omega,⟨hr.1,size_check hs.2.2.1⟩,fun hk=>⟨hr.2,size_check (hs.2.2.2.2.1 hk).1⟩⟩
def FewN (m:Mk) (n:Nat):Prop:=FewM m n∧m.number<=n
theorem few_app {c:Control}{m:Mk}{n:Nat}(h:FewN m n) {x:Expr}(hx:sizeN x<=256):FewN (m.app (m.expr c x)) (n+256):=by
 obtain⟨⟨h1,h2⟩,h3⟩:=h
 obtain⟨a1,a2,a3⟩:=expr_small false (portM c m.gates) m.signal x m.number
 have e:m.expr c x=exprD false (portM c m.gates) m.signal x m.number:=rfl
 rw[<- e]at a1 a2 a3
 refine⟨⟨?_,?_⟩,?_⟩
 ·simp only[Mk.app,List.length_append];omega
 ·simp only[Mk.app,List.length_append];omega
 ·simp only[Mk.app];omega
theorem few_to {c:Control}{m:Mk}{n:Nat}(h:FewN m n) {x:Expr}(hx:sizeN x<=256) (p:Pin):FewN (m.to c x p) (n+257):=by
 have:=few_app (c:=c) h hx
 exact⟨this.1.join _ _,by have:=this.2;show (m.app _).number<=_;omega⟩
theorem FewN.sig {m:Mk}{n:Nat}(h:FewN m n) (i:Nat):FewN (m.sig i) n:=⟨h.1,h.2⟩
theorem FewN.mono {m:Mk}{n k:Nat}(h:FewN m n) (hk:n<=k):FewN m k:=⟨h.1.mono hk,Nat.le_trans h.2 hk⟩
theorem put_gate (k:Int) (p:Pin):∀g:List (Int×Pin),mput (g.map eGate) (.int .i64 k) (encPin p)=(putG g k p).map eGate
 | []=>rfl
 | q::r=>by
  simp only[List.map_cons,mput,putG,leq,put_gate k p r,beq_self_eq_true,Bool.true_and,beq_iff_eq]
  by_cases h:q.1=k
  ·rw[if_pos h,if_pos h,List.map_cons]
   simp[eGate,h]
  ·rw[if_neg h,if_neg h,List.map_cons]
theorem first37b {c:Control}(hc:Sm c) {b b4 b5 bg:Nat}{hp hj:Value}{m:Mk}:CallS Tryz.prog 61 [.ptr 70 b 0] [(70,.box b (mkrC c b b4 b5 bg hp hj m))] fun r H'=>r=aI (firstC c)∧H'=[(70,.box b (mkrC c b b4 b5 bg hp hj m))]:=by
 obtain⟨h1,h2,h3⟩:=hc
 refine callS_of Tryz.func61 rfl Tryz.ntmps61 (rs:=[.tmp 2]) rfl (by kernel_rfl) (by simp) (by kernel_rfl) ?_
 simp
 refine V.drawX (fun _=>none) (by kernel_rfl) (by kernel_rfl) (by simp) ?_
 simp
 unfold firstC
 omega
theorem own37b {c:Control}(hc:Sm c) {i:Nat}(hi:i<c.signals.length) {b b4 b5 bg:Nat}{hp hj:Value}{m:Mk}:CallS Tryz.prog 134 [.ptr 70 b 0,aI i] [(70,.box b (mkrC c b b4 b5 bg hp hj m))] fun r H'=>r=.dat (.str (ownT c i))∧H'=[(70,.box b (mkrC c b b4 b5 bg hp hj m))]:=by
 obtain⟨h1,h2,h3⟩:=hc
 have hit:=Itoa_fn i (by omega)
 obtain⟨x,hx⟩:∃x,c.signals[i]=x:=⟨_,rfl⟩
 have hxo:c.signals[i]?=some x:=by rw[List.getElem?_eq_getElem hi,hx]
 have hk:kindAt c i=x.kind:=by simp[kindAt,hxo]
 have hnl:=numT_len i
 refine callS_of Tryz.func134 rfl Tryz.ntmps134 (rs:=[.tmp 4]) rfl (by kernel_rfl) (by simp) (by kernel_rfl) ?_
 simp[hi,hx]
 refine⟨fun e=>hit.s ?_,fun e=>hit.s ?_⟩
 ·simp[ownT,hk,e]
  omega
 ·simp[ownT,hk,e]
  omega
abbrev gkv (c:Control) (b:Nat):List (Nat×A):=[(0,.ptr 70 b 0),(11,.dat (.sl (c.signals.map encS))),(12,aI c.signals.length)]
theorem gate_row {c:Control}{b b4 b5 bg:Nat}{hp hj:Value}{m:Mk}{i:Nat}{n:Nat}{Q:PostQ}(hc:OkR c) (hi:i<c.signals.length) (hf:FewN m n) (hn:n<=200000) :
  vcC ⟨Tryz.prog,none,161⟩ (loopC Tryz.f108 0) (hdE (gkv c b) [(13,aI i)]) (hcat (mkrH c b b4 b5 bg hp hj m) [])
   (LoopQ Q fun E' H'=>∃g:Value×Value,True∧(∀p∈[(13,aI (i+1:Nat))],wk (E' p.1) p.2)∧(∀p∈gkv c b,E' p.1=p.2) ∧
    subN (hcat (mkrH c b b4 b5 bg g.1 g.2 (gateM c m i)) []) H'):=by
 obtain⟨x,hx⟩:∃x,c.signals[i]=x:=⟨_,rfl⟩
 have hxo:c.signals[i]?=some x:=by rw[List.getElem?_eq_getElem hi,hx]
 have hk:kindAt c i=x.kind:=by simp[kindAt,hxo]
 have hrl:=rl_map (f:=encS) (n:=10) (fun _=>rfl) c.signals
 obtain⟨a1,a2,a3⟩:=hc.sm
 have hac:=hc.act
 have hg:gateM c m i=if x.kind=0 then { (m.sig i).app ((m.sig i).expr c x.on) with gates:=putG m.gates (firstC c+i) ((m.sig i).expr c x.on).pin } else m.sig i:=by
  unfold gateM
  rw[hk,hxo]
  rfl
 have hon:=(hc.sig i x hxo).2.1
 have hff:=hf.1
 have hex:=expr37_s hc.sm ⟨by omega,by omega⟩ (b:=b) (b4:=b4) (b5:=b5) (bg:=bg) _ x.on (Nat.lt_succ_self _) hon.1 hp hj (m.sig i) (by show m.parts.length+_<=_;have:=hff.1;omega) (by show m.joins.length+_<=_;have:=hff.2;omega) (by show m.number+_<=_;have:=hf.2;omega)
 have hfs:=first37_s hc.sm (b:=b) (b4:=b4) (b5:=b5) (bg:=bg) (hp:=hp) (hj:=hj) (m:=m.sig i)
 rw[hg]
 refine vc_part rfl ?_
 simp[hi,hx,hxo,hrl]
 intro b3
 refine⟨fun h0=>?_,fun h0=>?_⟩
 ·rw[if_pos h0]
  refine V.drawC 11 [0,1,2,3,6,7] (fun t=>if t=30 then some (.ro (aI (firstC c))) else none) rfl rfl (by kernel_rfl) (by kernel_rfl) ?_
  have hfb:=first37b hc.sm (b:=b) (b4:=b4) (b5:=b5) (bg:=bg) (hp:=hp) (hj:=hj) (m:=m.sig i)
  have hfc:firstC c=2*c.actuators+c.inputs.length:=rfl
  have hinp:=hc.inp
  simp
  refine⟨hfb,by omega,?_⟩
  refine (hex.on1 rfl).mono ?_
  rintro _ _ ⟨_,⟨hp1,hj1,rfl,rfl⟩,rfl⟩
  simp
  exact⟨by omega,by omega,hp1,hj1,⟨rfl,rfl⟩,rfl,rfl,put_gate _ _ _⟩
 ·rw[if_neg h0]
  simp[Mk.sig]
  omega
abbrev skv (c:Control) (b:Nat):List (Nat×A):=[(0,.ptr 70 b 0),(42,.dat (.sl (c.signals.map encS))),(43,aI c.signals.length)]
theorem sig_row {c:Control}{b b4 b5 bg:Nat}{hp hj:Value}{m:Mk}{i:Nat}{n:Nat}{Q:PostQ}(hc:OkR c) (hi:i<c.signals.length) (hf:FewN m n) (hn:n<=200000) :
  vcC ⟨Tryz.prog,none,161⟩ (loopC Tryz.f108 1) (hdE (skv c b) [(44,aI i)]) (hcat (mkrH c b b4 b5 bg hp hj m) [])
   (LoopQ Q fun E' H'=>∃g:Value×Value,True∧(∀p∈[(44,aI (i+1:Nat))],wk (E' p.1) p.2)∧(∀p∈skv c b,E' p.1=p.2) ∧
    subN (hcat (mkrH c b b4 b5 bg g.1 g.2 (sigM c m i)) []) H'):=by
 obtain⟨x,hx⟩:∃x,c.signals[i]=x:=⟨_,rfl⟩
 have hxo:c.signals[i]?=some x:=by rw[List.getElem?_eq_getElem hi,hx]
 have hrl:=rl_map (f:=encS) (n:=10) (fun _=>rfl) c.signals
 obtain⟨a1,a2,a3⟩:=hc.sm
 have hac:=hc.act
 have hfc:firstC c=2*c.actuators+c.inputs.length:=rfl
 have hinp:=hc.inp
 obtain⟨hkk,hon,hoff⟩:=hc.sig i x hxo
 have hft:=fun (hp hj:Value) (m:Mk)=>first37_s hc.sm (b:=b) (b4:=b4) (b5:=b5) (bg:=bg) (hp:=hp) (hj:=hj) (m:=m)
 have how:=fun (hp hj:Value) (m:Mk)=>own37_s hc.sm hi (b:=b) (b4:=b4) (b5:=b5) (bg:=bg) (hp:=hp) (hj:=hj) (m:=m)
 have hsg:sigM c m i=if x.kind=1 then (((((m.sig i).add 2 (ownT c i) 0 (firstC c+i)).feed (ownT c i)).to c x.on ⟨ownT c i,[49,52]⟩).to c x.off ⟨ownT c i,[49,50]⟩)
  else if x.kind=2 then (((m.sig i).add 12 (ownT c i) x.delay (firstC c+i)).feed (ownT c i)).to c x.on ⟨ownT c i,[49,50]⟩ else m.sig i:=by
  unfold sigM
  rw[hxo]
 rw[hsg]
 refine vc_part rfl ?_
 simp[hi,hx,hxo,hrl]
 intro b5'
 have key:∀(kind delay:Int),FewN (((m.sig i).add kind (ownT c i) delay (firstC c+i)).feed (ownT c i)) (n+2):=fun kind delay=>⟨((hf.sig i).1.add _ _ _ _).feed _,by have:=hf.2;show m.number<=_;omega⟩
 have hadd:=fun (kind delay:Int)=>add37_s (c:=c) (b:=b) (b4:=b4) (b5:=b5) (bg:=bg) (hp:=hp) (hj:=hj) (m:=m.sig i) kind (ownT c i) delay (firstC c+i) (by have:=hf.1.1;show m.parts.length<=_;omega)
 have hfd:=fun (kind delay:Int) hp1=>feed37_s (c:=c) (b:=b) (b4:=b4) (b5:=b5) (bg:=bg) (hp:=hp1) (hj:=hj) (m:=(m.sig i).add kind (ownT c i) delay (firstC c+i)) (ownT c i) (by have:=hf.1.2;show m.joins.length<=_;omega)
 have hexp:∀(hp hj:Value) (m':Mk),FewN m' (n+260)->∀y:Expr,RightE (countC c) y->sizeN y<=256->CallS Tryz.prog 168 [.ptr 70 b 0,aE y] (mkrH c b b4 b5 bg hp hj m') fun r H'=>∃hp' hj',r=.record (encPin (m'.expr c y).pin)∧H'=mkrH c b b4 b5 bg hp' hj' (m'.app (m'.expr c y)):=by
  intro hp hj m' hf' y hy hs
  exact expr37_s hc.sm ⟨by omega,by omega⟩ _ y (Nat.lt_succ_self _) hy hp hj m' (by have:=hf'.1.1;omega) (by have:=hf'.1.2;omega) (by have:=hf'.2;omega)
 have hjn:∀(hp hj:Value) (m':Mk),FewN m' (n+516)->∀p q:Pin,CallS Tryz.prog 171 [.ptr 70 b 0,.record (encPin p),.record (encPin q)] (mkrH c b b4 b5 bg hp hj m') fun r H'=>r=.tuple []∧∃hj',H'=mkrH c b b4 b5 bg hp hj' (m'.join p q):=by
  intro hp hj m' hf' p q
  exact join37_s p q (by have:=hf'.1.2;omega)
 refine⟨fun h1=>?_,fun h1=>⟨fun h2=>?_,fun h2=>?_⟩⟩
 ·rw[if_pos h1]
  have hff:=hoff h1
  have k0:=key 2 0
  have k1:=few_to (c:=c) k0 hon.2 ⟨ownT c i,[49,52]⟩
  have k1a:=few_app (c:=c) k0 hon.2
  have k2a:=few_app (c:=c) k1 hff.2
  refine ((how hp hj (m.sig i)).on1 rfl).mono ?_
  rintro _ _ ⟨_,⟨rfl,rfl⟩,rfl⟩
  simp
  refine ((hft hp hj (m.sig i)).on1 rfl).mono ?_
  rintro _ _ ⟨_,⟨rfl,rfl⟩,rfl⟩
  simp
  refine⟨by omega,((hadd 2 0).on1 rfl).mono ?_⟩
  rintro _ _ ⟨_,⟨hp1,rfl,rfl⟩,rfl⟩
  simp
  refine ((how hp1 hj _).on1 rfl).mono ?_
  rintro _ _ ⟨_,⟨rfl,rfl⟩,rfl⟩
  simp
  refine ((hfd 2 0 hp1).on1 rfl).mono ?_
  rintro _ _ ⟨_,⟨rfl,hj1,rfl⟩,rfl⟩
  simp
  refine ((hexp hp1 hj1 _ (k0.mono (by omega)) x.on hon.1 hon.2).on1 rfl).mono ?_
  rintro _ _ ⟨_,⟨hp2,hj2,rfl,rfl⟩,rfl⟩
  simp
  refine ((how hp2 hj2 _).on1 rfl).mono ?_
  rintro _ _ ⟨_,⟨rfl,rfl⟩,rfl⟩
  simp
  refine ((hjn hp2 hj2 _ (k1a.mono (by omega)) _ ⟨ownT c i,[49,52]⟩).on1 rfl).mono ?_
  rintro _ _ ⟨_,⟨rfl,hj3,rfl⟩,rfl⟩
  simp
  refine ((hexp hp2 hj3 ((((m.sig i).add 2 (ownT c i) 0 (firstC c+i)).feed (ownT c i)).to c x.on ⟨ownT c i,[49,52]⟩) (k1.mono (by omega)) x.off hff.1 hff.2).on1 rfl).mono ?_
  rintro _ _ ⟨_,⟨hp4,hj4,rfl,rfl⟩,rfl⟩
  simp
  refine ((how hp4 hj4 _).on1 rfl).mono ?_
  rintro _ _ ⟨_,⟨rfl,rfl⟩,rfl⟩
  simp
  refine ((hjn hp4 hj4 _ (k2a.mono (by omega)) _ ⟨ownT c i,[49,50]⟩).on1 rfl).mono ?_
  rintro _ _ ⟨_,⟨rfl,hj5,rfl⟩,rfl⟩
  simp
  exact⟨by omega,hp4,hj5,by simp[Mk.to]⟩
 ·rw[if_neg h1,if_pos h2]
  have k0:=key 12 x.delay
  have k1a:=few_app (c:=c) k0 hon.2
  have hfb:=first37b hc.sm (b:=b) (b4:=b4) (b5:=b5) (bg:=bg) (hp:=hp) (hj:=hj) (m:=m.sig i)
  have hob:=own37b hc.sm hi (b:=b) (b4:=b4) (b5:=b5) (bg:=bg) (hp:=hp) (hj:=hj) (m:=m.sig i)
  refine V.drawEndK 10 rfl rfl (fun t=>if t=96 then some (.ro (.dat (.str (ownT c i)))) else if t=100 then some (.ro (aI (firstC c))) else none) (by kernel_rfl) (by kernel_rfl) (by simp) ?_
  simp
  refine⟨hob,hfb,by omega,((hadd 12 x.delay).on1 rfl).mono ?_⟩
  rintro _ _ ⟨_,⟨hp1,rfl,rfl⟩,rfl⟩
  simp
  refine ((how hp1 hj _).on1 rfl).mono ?_
  rintro _ _ ⟨_,⟨rfl,rfl⟩,rfl⟩
  simp
  refine ((hfd 12 x.delay hp1).on1 rfl).mono ?_
  rintro _ _ ⟨_,⟨rfl,hj1,rfl⟩,rfl⟩
  simp
  refine ((hexp hp1 hj1 _ (k0.mono (by omega)) x.on hon.1 hon.2).on1 rfl).mono ?_
  rintro _ _ ⟨_,⟨hp2,hj2,rfl,rfl⟩,rfl⟩
  simp
  refine ((how hp2 hj2 _).on1 rfl).mono ?_
  rintro _ _ ⟨_,⟨rfl,rfl⟩,rfl⟩
  simp
  refine ((hjn hp2 hj2 _ (k1a.mono (by omega)) _ ⟨ownT c i,[49,50]⟩).on1 rfl).mono ?_
  rintro _ _ ⟨_,⟨rfl,hj3,rfl⟩,rfl⟩
  simp
  exact⟨by omega,hp2,hj3,by simp[Mk.to]⟩
 ·rw[if_neg h1,if_neg h2]
  simp[Mk.sig]
  omega
theorem pil_row {c:Control}{b b4 b5 bg:Nat}{hp' hj:Value}{m:Mk}{a:Nat}{n:Nat}{Q:PostQ}(hc:OkR c) (ha:(a:Int)<c.actuators) (hf:FewM m n) (hn:n<=200000) :
  vcC ⟨Tryz.prog,none,161⟩ (loopC Tryz.f108 2) (hdE [(0,.ptr 70 b 0),(124,aI c.actuators)] [(125,aI a)]) (hcat (mkrH c b b4 b5 bg hp' hj m) [])
   (LoopQ Q fun E' H'=>∃g:Value×Value,True∧(∀p∈[(125,aI (a+1:Nat))],wk (E' p.1) p.2)∧(∀p∈[(0,A.ptr 70 b 0),(124,aI c.actuators)],E' p.1=p.2) ∧
    subN (hcat (mkrH c b b4 b5 bg g.1 g.2 (pilM c m a)) []) H'):=by
 have hac:=hc.act
 have hpil:=hc.pil
 have hpl:=hpil.1
 have hml:=hpil.2.1
 have hip:a<c.plus.length:=by omega
 have him:a<c.minus.length:=by omega
 obtain⟨p,hp1⟩:∃p,c.plus[a]'hip=p:=⟨_,rfl⟩
 obtain⟨q,hq1⟩:∃q,c.minus[a]'him=q:=⟨_,rfl⟩
 have hpo:c.plus[a]?=some p:=by rw[List.getElem?_eq_getElem hip,hp1]
 have hqo:c.minus[a]?=some q:=by rw[List.getElem?_eq_getElem him,hq1]
 have hpr:=hpil.2.2.1 p (List.mem_of_getElem? hpo)
 have hqr:=hpil.2.2.2 q (List.mem_of_getElem? hqo)
 have hla:(letterT a).length=1:=rfl
 have hport:=fun (hj:Value) (m:Mk) (l:Int) (hl:0<=l∧l<countC c)=>port37_s (b:=b) (b4:=b4) (b5:=b5) (bg:=bg) (hp':=hp') (hj:=hj) (m:=m) hc.sm ⟨by omega,by omega⟩ hl
 have hpm:pilM c m a=(m.join (portM c m.gates p) ⟨86::letterT a,[49,52]⟩).join (portM c m.gates q) ⟨86::letterT a,[49,50]⟩:=by
  unfold pilM
  rw[List.getD_eq_getElem?_getD,List.getD_eq_getElem?_getD,hpo,hqo]
  rfl
 have hf1:=hf.join (portM c m.gates p) ⟨86::letterT a,[49,52]⟩
 have hjn:=fun (hj:Value) (m':Mk) (hf':FewM m' (n+1)) (p q:Pin)=>join37_s (c:=c) (b:=b) (b4:=b4) (b5:=b5) (bg:=bg) (hp:=hp') (hj:=hj) (m:=m') p q (by have:=hf'.2;omega)
 rw[hpm]
 refine vc_part rfl ?_
 simp[ha,hip,hp1,him,hq1,hpo,hqo]
 refine ((hport hj m p hpr).on0 rfl).mono ?_
 rintro _ _ ⟨rfl,rfl⟩
 simp
 refine (letter_fn a (by omega)).s ?_
 simp[hla]
 refine ((hjn hj m (hf.mono (by omega)) _ ⟨86::letterT a,[49,52]⟩).on0 rfl).mono ?_
 rintro _ _ ⟨rfl,hj1,rfl⟩
 simp[him,hq1,hqo]
 have hg2:(m.join (portM c m.gates p) ⟨86::letterT a,[49,52]⟩).gates=m.gates:=rfl
 have hport2:=hport hj1 (m.join (portM c m.gates p) ⟨86::letterT a,[49,52]⟩) q hqr
 rw[hg2]at hport2
 refine (hport2.on0 rfl).mono ?_
 rintro _ _ ⟨rfl,rfl⟩
 simp
 refine (letter_fn a (by omega)).s ?_
 simp[hla]
 refine ((hjn hj1 _ hf1 _ ⟨86::letterT a,[49,50]⟩).on0 rfl).mono ?_
 rintro _ _ ⟨rfl,hj2,rfl⟩
 simp
 omega
theorem few_gate {c:Control}(hc:OkR c) {m:Mk}{n i:Nat}(h:FewN m n) (hi:i<c.signals.length):FewN (gateM c m i) (n+256):=by
 have hxo:c.signals[i]?=some c.signals[i]:=List.getElem?_eq_getElem hi
 have hk:kindAt c i=c.signals[i].kind:=by simp[kindAt,hxo]
 unfold gateM
 rw[hk,hxo]
 dsimp only[Option.map_some,Option.getD_some]
 split
 ·have:=few_app (c:=c) (h.sig i) (hc.sig i _ hxo).2.1.2
  exact⟨this.1,this.2⟩
 ·exact (h.sig i).mono (by omega)
theorem few_sig {c:Control}(hc:OkR c) {m:Mk}{n i:Nat}(h:FewN m n):FewN (sigM c m i) (n+520):=by
 unfold sigM
 cases hx:c.signals[i]? with
 | none=>exact h.mono (by omega)
 | some x=>
  obtain⟨h1,h2,h3⟩:=hc.sig i x hx
  have k0:∀kind delay:Int,FewN (((m.sig i).add kind (ownT c i) delay (firstC c+i)).feed (ownT c i)) (n+2):=fun kind delay=>⟨((h.sig i).1.add _ _ _ _).feed _,by have:=h.2;show m.number<=_;omega⟩
  dsimp only
  split
  ·rename_i hk
   exact (few_to (few_to (k0 2 0) h2.2 _) (h3 hk).2 _).mono (by omega)
  ·split
   ·exact (few_to (k0 12 x.delay) h2.2 _).mono (by omega)
   ·exact (h.sig i).mono (by omega)
theorem few_pil {c:Control}{m:Mk}{n:Nat}(h:FewM m n) (a:Nat):FewM (pilM c m a) (n+2):=(h.join _ _).join _ _
theorem few_gates {c:Control}(hc:OkR c) {m:Mk}{n:Nat}(h:FewN m n):∀i,i<=c.signals.length->FewN ((List.range i).foldl (gateM c) m) (n+256*i)
 | 0,_=>h
 | i+1,hi=>by
  rw[fold_succ]
  exact (few_gate hc (few_gates hc h i (by omega)) (by omega)).mono (by omega)
theorem few_sigs {c:Control}(hc:OkR c) {m:Mk}{n:Nat}(h:FewN m n):∀i,FewN ((List.range i).foldl (sigM c) m) (n+520*i)
 | 0=>h
 | i+1=>by
  rw[fold_succ]
  exact (few_sig hc (few_sigs hc h i)).mono (by omega)
theorem act_num (m:Mk) (a:Nat):(actM m a).number=m.number:=rfl
theorem in_num (c:Control) (m:Mk) (a:Nat):(inM c m a).number=m.number:=rfl
theorem fold_num {f:Mk->Nat->Mk}(h:∀m a,(f m a).number=m.number):∀(l:List Nat) (m:Mk),(l.foldl f m).number=m.number
 | [],_=>rfl
 | a::l,m=>by rw[List.foldl_cons,fold_num h l,h]
theorem few_start {c:Control}(hc:OkR c):FewN (machineM c) 200:=by
 have h1:=hc.act
 have h2:=hc.inp
 refine⟨(few_machine c).mono (by omega),?_⟩
 unfold machineM
 rw[fold_num (in_num c),fold_num act_num]
 simp[Mk.add]
theorem signals37_s {c:Control}(hc:OkR c) {b b4 b5 bg:Nat}{hp' hj:Value}:CallS Tryz.prog 108 [.ptr 70 b 0] (mkrH c b b4 b5 bg hp' hj (machineM c)) fun r H'=>r=.tuple []∧∃hp' hj',H'=mkrH c b b4 b5 bg hp' hj' (wholeM c):=by
 have f0:=few_start hc
 have f1:=few_gates hc f0
 have f2:=few_sigs hc (f1 c.signals.length (Nat.le_refl _))
 have hlen:=hc.len
 have hact:=hc.act
 obtain⟨m1,hm1⟩:∃m1,(List.range c.signals.length).foldl (gateM c) (machineM c)=m1:=⟨_,rfl⟩
 rw[hm1]at f2
 obtain⟨m2,hm2⟩:∃m2,(List.range c.signals.length).foldl (sigM c) m1=m2:=⟨_,rfl⟩
 have f3:=f2 c.signals.length
 rw[hm2]at f3
 have f4:∀i,FewM ((List.range i).foldl (pilM c) m2) (200+256*c.signals.length+520*c.signals.length+2*i):=few_fold (fun m n i h=>few_pil h i) f3.1
 have hw:wholeM c=(List.range c.actuators.toNat).foldl (pilM c) m2:=by rw[<- hm2,<- hm1];rfl
 have z0:(List.range 0).foldl (gateM c) (machineM c)=machineM c:=rfl
 have z1:(List.range 0).foldl (sigM c) m1=m1:=rfl
 have z2:(List.range 0).foldl (pilM c) m2=m2:=rfl
 have hrl:=rl_map (f:=encS) (n:=10) (fun _=>rfl) c.signals
 rw[hw]
 refine callS_of Tryz.func108 rfl Tryz.ntmps108 (rs:=[]) rfl (by kernel_rfl) (by simp) (by kernel_rfl) ?_
 simp
 refine V.forI (σ:=Value×Value) (kv:=gkv c b) c.signals.length [0,11,12] (by simp) (fun i _=>[(13,aI i)]) (fun i g=>mkrH c b b4 b5 bg g.1 g.2 ((List.range i).foldl (gateM c) (machineM c))) (fun _ _=>True) (hp',hj) trivial (by simp) ⟨by simp;exact rfl,by simp[z0]⟩ ?_ ?_
 ·rintro i ⟨hp2,hj2⟩ hi -
  rw[fold_succ]
  exact vc_of_part rfl (gate_row hc hi (f1 i (by omega)) (by omega))
 ·rintro⟨hp2,hj2⟩ -
  rw[hm1]
  simp
  refine V.forI (σ:=Value×Value) (kv:=skv c b) c.signals.length [0,42,43] (by simp) (fun i _=>[(44,aI i)]) (fun i g=>mkrH c b b4 b5 bg g.1 g.2 ((List.range i).foldl (sigM c) m1)) (fun _ _=>True) (hp2,hj2) trivial (by simp) ⟨by simp;exact rfl,by simp[z1]⟩ ?_ ?_
  ·rintro i ⟨hp3,hj3⟩ hi -
   rw[fold_succ]
   exact vc_of_part rfl (sig_row hc hi (f2 i) (by omega))
  ·rintro⟨hp3,hj3⟩ -
   rw[hm2]
   simp
   refine V.forI (σ:=Value×Value) (kv:=[(0,.ptr 70 b 0),(124,aI c.actuators)]) c.actuators.toNat [0,124] (by simp) (fun i _=>[(125,aI i)]) (fun i g=>mkrH c b b4 b5 bg g.1 g.2 ((List.range i).foldl (pilM c) m2)) (fun _ _=>True) (hp3,hj3) trivial (by simp) ⟨by simp;exact rfl,by simp[z2]⟩ ?_ ?_
   ·rintro i ⟨hp4,hj4⟩ hi -
    rw[fold_succ]
    exact vc_of_part rfl (pil_row hc (by omega) (f4 i) (by omega))
   ·rintro⟨hp4,hj4⟩ -
    have hmx:max c.actuators 0=c.actuators:=by omega
    simp[hmx]
section
open Go.Sort
variable {P:Program}{ρ:Go.Shelf.Ren}
end
section
open Go.Sort
variable {P:Program}{ρ:Go.Shelf.Ren}
noncomputable def restR (x:X):Heap:=by
 classical
 exact ((List.range x.w.heap.size).filter fun b=>decide (¬x.ok b)).map fun b=>(0,.raw b ((x.w.heap[b]?).getD (.deferred none)))
theorem restR_mem {x:X}{b:Nat}(h:b<x.w.heap.size) (hn:¬x.ok b):((0,.raw b ((x.w.heap[b]?).getD (.deferred none))):Nat×Ent)∈restR x:=by
 classical
 unfold restR
 refine List.mem_map.2 ⟨b,List.mem_filter.2 ⟨List.mem_range.2 h,by simpa using hn⟩,rfl⟩
theorem restR_inv {x:X}(hb:Bdx x):Inv x (restR x):=by
 classical
 have hm:∀p∈restR x,∃b,b<x.w.heap.size∧¬x.ok b∧p=(0,.raw b ((x.w.heap[b]?).getD (.deferred none))):=by
  intro p hp
  unfold restR at hp
  obtain⟨b,h1,rfl⟩:=List.mem_map.1 hp
  obtain⟨h2,h3⟩:=List.mem_filter.1 h1
  exact⟨b,List.mem_range.1 h2,by simpa using h3,rfl⟩
 refine⟨hb,?_,?_,?_⟩
 ·intro p hp
  obtain⟨b,h1,h2,rfl⟩:=hm p hp
  show x.w.heap[b]?=some _
  rw[Array.getElem?_eq_getElem h1]
  rfl
 ·intro p hp k hk
  obtain⟨b,h1,h2,rfl⟩:=hm p hp
  have:k=b:=hk
  subst this
  exact⟨h1,h2⟩
 ·unfold restR
  rw[List.pairwise_map]
  refine List.Pairwise.imp ?_ ((List.nodup_range (n:=x.w.heap.size)).sublist List.filter_sublist)
  intro a b hab k h1 h2
  have e1:k=a:=h1
  have e2:k=b:=h2
  exact hab (e1.symm.trans e2)
theorem CallFn.quiet {g:FuncId}{az:List A}{r:A}(h:CallFn P g az r) {x:X}(hb:Bdx x) {args:Array Value}(hd:Ds x az args.toList) :
  Calls P g args x.w fun e w'=>∃v q os,e=.returned v∧w'=grow (x.w.drewN q) os∧∃y:X,y.w=w'∧D y r v:=by
 have hi:Inv x ([]++restR x):=restR_inv hb
 refine (h.2 x args (restR x) hi hd).mono ?_
 rintro e _ ⟨y,v,r',H',rfl,rfl,hle,hiy,hv,rfl,rfl⟩
 refine⟨v,y.w.drawn-x.w.drawn,y.w.heap.extract x.w.heap.size y.w.heap.size,rfl,?_,y,rfl,hv⟩
 have hheap:y.w.heap=x.w.heap++y.w.heap.extract x.w.heap.size y.w.heap.size:=by
  apply Array.ext_getElem?
  intro k
  by_cases hk:k<x.w.heap.size
  ·rw[Array.getElem?_append_left hk]
   by_cases ho:x.ok k
   ·exact (hle.keep k ho).2
   ·have h1:y.w.heap[k]?=some ((x.w.heap[k]?).getD (.deferred none)):=hiy.sat _ (List.mem_append.2 (.inr (restR_mem hk ho)))
    rw[h1,Array.getElem?_eq_getElem hk]
    rfl
  ·rw[Array.getElem?_append_right (by omega),Array.getElem?_extract]
   have hs:=hle.size
   by_cases hk2:k<y.w.heap.size
   ·rw[if_pos (by omega)]
    congr 1
    omega
   ·rw[if_neg (by omega),Array.getElem?_eq_none (by omega)]
 have hdr:=hle.drawn
 have h1:=hle.os
 have h2:=hle.output
 have h3:=hle.tape
 cases hy:y.w with
 | mk heap tape drawn os output=>
  rw[hy]at hheap h1 h2 h3 hdr
  dsimp only at hheap h1 h2 h3 hdr
  unfold grow World.drewN
  dsimp only
  rw[<- hheap,h1,h2,h3]
  congr 1
  omega
theorem putRowId_block {w:World}{g n:Nat}{cur:Array Value}{e:TypeId}(h5:w.heap[g]?=some (.cells cur e (0,0))) (F:Array Value) (os:Array Obj) :
  (grow (putRow id (Sort.ahead w n) g 0 F) os).heap[g]?=some (.cells (putCells id 0 F cur) e (0,0))∧∀k,k<w.heap.size->k≠g->(grow (putRow id (Sort.ahead w n) g 0 F) os).heap[k]?=w.heap[k]?:=by
 have hlt:=(Array.getElem?_eq_some_iff.1 h5).1
 have hsz:(putRow id (Sort.ahead w n) g 0 F).heap.size=w.heap.size:=by simp[putRow,mapBlock,Sort.ahead]
 have hgr:∀k,k<w.heap.size->(grow (putRow id (Sort.ahead w n) g 0 F) os).heap[k]?=(putRow id (Sort.ahead w n) g 0 F).heap[k]?:=by
  intro k hk
  simp only[grow]
  rw[Array.getElem?_append_left (by rw[hsz];exact hk)]
 constructor
 ·rw[hgr g hlt]
  simp[putRow,mapBlock,Sort.ahead,Array.getElem?_modify,h5,onCells]
 ·intro k hk hne
  rw[hgr k hk]
  simp[putRow,mapBlock,Sort.ahead,Array.getElem?_modify,Ne.symm hne]
theorem putId_take (F cur:Array Value) (hF:F.size<=cur.size):(putCells id 0 F cur).toList.take F.size=F.toList:=by
 apply List.ext_getElem?
 intro k
 rw[List.getElem?_take]
 split
 ·rename_i hk
  have h1:k<cur.size:=by omega
  simp[putCells,h1,hk]
 ·rename_i hk
  rw[List.getElem?_eq_none (by simpa using hk)]
theorem flatK_list {α:Type} [Inhabited α] (enc:α->List Value) (k:Nat) (hk:∀a,(enc a).length=k) (d:Array α):(flatK enc k d).toList=(d.toList.map enc).flatten:=by
 rcases Nat.eq_zero_or_pos k with h0 | hpos
 ·subst h0
  have e1:(d.toList.map enc).flatten=[]:=by
   rw[List.flatten_eq_nil_iff]
   intro l hl
   obtain⟨a,_,rfl⟩:=List.mem_map.1 hl
   exact List.eq_nil_of_length_eq_zero (hk a)
  rw[e1]
  apply List.eq_nil_of_length_eq_zero
  simp[flatK]
 apply List.ext_getElem?
 intro t
 have hlen:(d.toList.map enc).flatten.length=d.size*k:=by
  have:∀l:List α,(l.map enc).flatten.length=l.length*k:=by
   intro l
   induction l with
   | nil=>simp
   | cons a l ih=>simp only[List.map_cons,List.flatten_cons,List.length_append,hk,ih,List.length_cons,Nat.add_mul];omega
  rw[this,Array.length_toList]
 by_cases ht:t<d.size*k
 ·have hq:t / k<d.size:=(Nat.div_lt_iff_lt_mul hpos).2 ht
  have hr:t % k<k:=Nat.mod_lt _ hpos
  have e1:(flatK enc k d).toList[t]?=some ((enc d[t / k]!)[t % k]!):=by
   rw[List.getElem?_eq_getElem (by simpa using ht)]
   simp[flatK]
  have e2:∀(l:List α) (t:Nat),t<l.length*k->((l.map enc).flatten)[t]?=(l[t / k]?).bind fun a=>(enc a)[t % k]?:=by
   intro l
   induction l with
   | nil=>intro t h;simp at h
   | cons a l ih=>
    intro t h
    simp only[List.map_cons,List.flatten_cons]
    by_cases h1:t<k
    ·rw[List.getElem?_append_left (by rw[hk];exact h1),Nat.div_eq_of_lt h1,Nat.mod_eq_of_lt h1]
     rfl
    ·rw[List.getElem?_append_right (by rw[hk];omega),hk]
     have h2:t-k<l.length*k:=by
      simp only[List.length_cons,Nat.add_mul,Nat.one_mul]at h
      omega
     rw[ih (t-k) h2]
     have h3:t / k=(t-k) / k+1:=by
      rw[Nat.div_eq_sub_div hpos (by omega)]
     have h4:t % k=(t-k) % k:=(Nat.mod_eq_sub_mod (by omega))
     rw[h3,h4]
     rfl
  rw[e1,e2 d.toList t (by rw[Array.length_toList];exact ht)]
  have e3:d.toList[t / k]?=some d[t / k]:=by simp[hq]
  rw[e3]
  simp only[Option.bind_some]
  have hl:t % k<(enc d[t / k]).length:=by rw[hk];exact hr
  rw[List.getElem?_eq_getElem hl]
  simp[hq,hl]
 ·rw[List.getElem?_eq_none (by simp;omega),List.getElem?_eq_none (by rw[hlen];omega)]
structure OrdOK {β:Type}(good:β->Prop) (cmp:β->β->Int):Prop where
 irrefl:∀x,good x->¬cmp x x<0
 trans:∀x y z,good x->good y->good z->cmp x y<0->cmp y z<0->cmp x z<0
 ntrans:∀x y z,good x->good y->good z->¬cmp x y<0->¬cmp y z<0->¬cmp x z<0
theorem Ds_two {x:X}{t:Nat}{h:Value}{g:FuncId}{args:Array Value}(hd:Ds x [.own t h,.fn g [] []] args.toList):args=#[h,.func (.func g) #[] #[]]:=by
 have hl:=hd.length
 obtain⟨a,b,rfl⟩:∃a b,args=#[a,b]:=by
  rcases args with⟨l⟩
  match l,hl with
  | [a,b],_=>exact⟨a,b,rfl⟩
 simp only[Ds,D]at hd
 obtain⟨⟨rfl,_⟩,⟨fs,cs,rfl,h1,h2⟩,_⟩:=hd
 have e1:fs=#[]:=by
  have:=h1.length
  exact Array.eq_empty_of_size_eq_zero (by simpa using this)
 have e2:cs=#[]:=by
  have:=h2.length
  exact Array.eq_empty_of_size_eq_zero (by simpa using this)
 rw[e1,e2]
end
section
open Go.Sort
variable {P:Program}{ρ:Go.Shelf.Ren}
theorem chunk_ds {x:X}{β:Type}{encA:β->List A}{k:Nat}(hkl:∀b,(encA b).length=k):∀ {rows:List β}{vs:List Value},Ds x (rows.map encA).flatten vs->∀ {j:Nat}{b:β},rows[j]?=some b->Ds x (encA b) ((vs.drop (j*k)).take k)
 | [],_,_,j,b,h=>by simp at h
 | r::rows,vs,h,0,b,hj=>by
  simp only[List.getElem?_cons_zero,Option.some.injEq]at hj
  subst hj
  simp only[List.map_cons,List.flatten_cons]at h
  have h1:=(Ds_app h).1
  rw[hkl]at h1
  simpa using h1
 | r::rows,vs,h,j+1,b,hj=>by
  simp only[List.getElem?_cons_succ]at hj
  simp only[List.map_cons,List.flatten_cons]at h
  have h1:=(Ds_app h).2
  rw[hkl]at h1
  have h2:=chunk_ds hkl h1 hj
  rw[List.drop_drop]at h2
  rwa [show (j+1)*k=k+j*k by rw[Nat.add_mul,Nat.one_mul,Nat.add_comm]]
theorem ds_chunks {x:X}{β:Type}{encA:β->List A}:∀ {l:List (β×List Value)},(∀p∈l,Ds x (encA p.1) p.2)->Ds x ((l.map (·.1)).map encA).flatten (l.map (·.2)).flatten
 | [],_=>by simp[Ds]
 | p::l,h=>by
  simp only[List.map_cons,List.flatten_cons]
  exact (h p (by simp)).append (ds_chunks fun q hq=>h q (by simp[hq]))
theorem sortA_s (Ly:SlLaysF0.n6 P ρ) (k:Nat) (aE:∀w,(isAgg (ρ.t 24)).run P w=.ok true w) (zE:∀w,(Go.sizeOf (ρ.t 24)).run P w=.ok k w) (hc:Callable P (ρ.f 6)) {g:FuncId}(hg:Callable P g) {β:Type}(encA:β->List A) (hkl:∀b,(encA b).length=k) (hone:∀b,(encA b).all one1=true)
  (good:β->Prop) (cmp:β->β->Int) (hcmp:∀a b,good a->good b->CallFn P g [.agg (encA a),.agg (encA b)] (.dat (.int .i64 (cmp a b)))) (hO:OrdOK good cmp) (rows:List β) (hgood:∀b∈rows,good b) (hz:rows.length<4611686018427387904) {t e:Nat}{h:Value} :
  CallS P (ρ.f 6) [.own t h,.fn g [] []] [(t,.seq h e k (rows.map encA))] fun r H'=>r=.tuple []∧∃rows':List β,rows'.Perm rows∧rows'.Pairwise (fun a b=>¬cmp b a<0)∧H'=[(t,.seq h e k (rows'.map encA))]:=by
 classical
 refine⟨hc,fun x args H0 hi hd=>?_⟩
 obtain rfl:=Ds_two hd
 have hs:=hi.sat (t,.seq h e k (rows.map encA)) (by simp)
 obtain⟨xs,⟨hx1,hx2⟩,hrl,hxs⟩:=hs
 rw[List.length_map]at hx1 hx2
 by_cases h00:rows=[]
 ·subst h00
  obtain⟨p,cap,rfl⟩:∃p cap,h=.slice p 0 cap:=by
   rcases hx2 with⟨rfl,_⟩|⟨g',cap,cur,rfl,_⟩
   ·exact⟨_,_,rfl⟩
   ·exact⟨_,_,rfl⟩
  refine (AnyF.slices_SortFunc_none Ly p cap _ x.w).mono ?_
  rintro _ _ ⟨rfl,rfl⟩
  exact⟨x,_,.tuple [],_,rfl,rfl,.refl x,hi,unit_D x,rfl,[],List.Perm.refl _,List.Pairwise.nil,rfl⟩
 ·have hpos:0<rows.length:=List.length_pos_iff.2 h00
  obtain⟨b0,hb0⟩:∃b0,rows[0]?=some b0:=⟨_,List.getElem?_eq_getElem hpos⟩
  obtain⟨blk,cap,cur,rfl,h5,h6,h7,h8,h9⟩:∃blk cap cur,h=.slice (some ⟨blk,0,none⟩) rows.length cap∧x.w.heap[blk]?=some (.cells cur e (0,0))∧rows.length<=cap∧cap<=maxLen∧cur.size=cap*k∧cur.toList.take (rows.length*k)=xs:=by
   rcases hx2 with⟨_,h0⟩|⟨g',cap,cur,rfl,_,a1,a2,a3,a4,a5⟩
   ·omega
   ·exact⟨g',cap,cur,rfl,a1,a2,a3,a4,a5⟩
  have hchunk:=fun {j:Nat}{b:β}(hj:rows[j]?=some b)=>chunk_ds (x:=x) hkl hxs hj
  let α:={ p:β×List Value // good p.1∧Ds x (encA p.1) p.2 }
  let a0:α:=⟨(b0,(xs.drop (0*k)).take k),hgood b0 (List.mem_of_getElem? hb0),hchunk hb0⟩
  letI:Inhabited α:=⟨a0⟩
  let enc:α->List Value:=fun a=>a.1.2
  have hk:∀a:α,(enc a).length=k:=fun a=>by rw[show enc a=a.1.2 from rfl,a.2.2.length,hkl]
  have h1:∀a:α,∀v∈enc a,v.oneCell'=true:=fun a=>ones_ok (x:=x) (az:=encA a.1.1) (hone _) a.2.2
  let dl:List α:=(List.range rows.length).attach.map fun j=>⟨(rows[j.1]'(List.mem_range.1 j.2),(xs.drop (j.1*k)).take k),hgood _ (List.getElem_mem _),hchunk (List.getElem?_eq_getElem (List.mem_range.1 j.2))⟩
  have hdl:dl.length=rows.length:=by simp[dl]
  have hd1:dl.map (·.1.1)=rows:=by
   apply List.ext_getElem
   ·simp[hdl]
   ·intro j a1 a2
    simp[dl]
  have hd2:(dl.map enc).flatten=xs:=by
   have e1:dl.map enc=(List.range rows.length).map fun j=>(xs.drop (j*k)).take k:=by
    apply List.ext_getElem
    ·simp[hdl]
    ·intro j a1 a2
     simp[dl,enc]
   rw[e1]
   have:∀n,n*k<=xs.length->((List.range n).map fun j=>(xs.drop (j*k)).take k).flatten=xs.take (n*k):=by
    intro n
    induction n with
    | zero=>intro _;simp
    | succ n ih=>
     intro hn
     rw[List.range_succ,List.map_append,List.flatten_append,ih (by rw[Nat.add_mul]at hn;omega)]
     simp only[List.map_cons,List.map_nil,List.flatten_cons,List.flatten_nil,List.append_nil]
     rw[Nat.add_mul,Nat.one_mul,List.take_add]
   rw[this _ (by omega),List.take_of_length_le (by omega)]
  let d:Array α:=dl.toArray
  have hds:d.size=rows.length:=by simp[d,hdl]
  have hflat:(flatK enc k d).toList=xs:=by rw[flatK_list enc k hk];exact hd2
  have hblk:blk<x.w.heap.size:=(Array.getElem?_eq_some_iff.1 h5).1
  have hnok:¬x.ok blk:=(hi.own (t,.seq (.slice (some ⟨blk,0,none⟩) rows.length cap) e k (rows.map encA)) (by simp) blk (by simp[Ent.own,Value.ownBlock])).2
  have hH:HoldsK enc k x.w blk 0 d:=by
   intro j hj
   have hj':j<xs.length:=by
    rw[<- hflat,Array.length_toList]
    exact hj
   have e1:(flatK enc k d)[j]! = xs[j]:=by
    have:(flatK enc k d).toList[j]?=some xs[j]:=by rw[hflat];exact List.getElem?_eq_getElem hj'
    rw[Array.getElem?_toList]at this
    obtain⟨q1,q2⟩:=Array.getElem?_eq_some_iff.1 this
    rw[getElem!_pos _ j q1]
    exact q2
   rw[e1]
   have hc:cur[j]?=some xs[j]:=by
    have:(cur.toList.take (rows.length*k))[j]?=some xs[j]:=by rw[h9];exact List.getElem?_eq_getElem hj'
    rw[List.getElem?_take]at this
    split at this
    ·simpa using this
    ·cases this
   refine⟨?_,by simp[World.frozen?,h5]⟩
   simp[World.cell?,h5,hc]
  let cf:α->α->Int:=fun a b=>cmp a.1.1 b.1.1
  have hSWO:SWO (ltOf cf):=by
   refine⟨fun a=>?_,fun a b c h1 h2=>?_,fun a b c h1 h2=>?_⟩
   ·unfold ltOf
    simpa using hO.irrefl _ a.2.1
   ·exact decide_eq_true (hO.trans _ _ _ a.2.1 b.2.1 c.2.1 (of_decide_eq_true h1) (of_decide_eq_true h2))
   ·exact decide_eq_false (hO.ntrans _ _ _ a.2.1 b.2.1 c.2.1 (of_decide_eq_false h1) (of_decide_eq_false h2))
  have hworld:∀(m:Nat) (os:Array Obj) (dk:Array α),∃y:X,y.w=sortWorldK enc k x.w blk 0 m dk os∧x.le y∧y.ok=x.ok:=by
   intro m os dk
   obtain⟨b1,b2⟩:=putRowId_block (n:=m) h5 (flatK enc k dk) os
   refine⟨⟨sortWorldK enc k x.w blk 0 m dk os,x.ok⟩,rfl,⟨fun b hb=>⟨hb,b2 b (hi.bd b hb) fun ee=>hnok (ee▸hb)⟩,rfl,rfl,rfl,?_,?_⟩,rfl⟩
   ·show x.w.heap.size<=(grow (putRow id (Sort.ahead x.w m) blk 0 (flatK enc k dk)) os).heap.size
    simp[grow,putRow,mapBlock,Sort.ahead]
   ·show x.w.drawn<=(grow (putRow id (Sort.ahead x.w m) blk 0 (flatK enc k dk)) os).drawn
    simp[grow,putRow,mapBlock,Sort.ahead]
  have hlays:CmpLays P g #[] enc k cf blk 0 d.size x.w:=by
   intro m os dk _ a b
   obtain⟨y,hyw,hyle,hyok⟩:=hworld m os dk
   have hbd:Bdx y:=⟨fun b hb=>Nat.lt_of_lt_of_le (hi.bd b (by rw[<- hyok];exact hb)) hyle.size,hi.bd.tab.mono hyle⟩
   have hq:=(hcmp a.1.1 b.1.1 a.2.1 b.2.1).quiet hbd (args:=#[.agg (enc a).toArray,.agg (enc b).toArray]) (by
    refine⟨?_,?_,trivial⟩
    ·simp only[D]
     exact⟨_,rfl,by simpa using a.2.2.mono hyle⟩
    ·simp only[D]
     exact⟨_,rfl,by simpa using b.2.2.mono hyle⟩)
   rw[hyw]at hq
   refine hq.mono ?_
   rintro e' w' ⟨v,q,os',rfl,rfl,z,_,hv⟩
   simp only[D,RdL]at hv
   subst hv
   exact⟨rfl,q,os',rfl⟩
  have heg:∀args w,(callFunc g args).run P w=.ok (.enter g args) w:=Calls.run hg
  have hres:=AnyQ.slices_SortFunc Ly k aE zE enc hk h1 cf hSWO g #[] blk 0 cap d x.w heg hlays hH hblk (by rw[hds];exact hz)
  rw[hds]at hres
  refine hres.mono ?_
  rintro _ _ ⟨rfl,d',n,os,⟨hp1,hp2,hp3⟩,hsrt,rfl⟩
  have hd's:d'.size=rows.length:=by rw[hp1,hds]
  have hperm:d'.toList.Perm d.toList:=by
   have e1:d'.extract 0 rows.length=d':=by rw[<- hd's];exact Array.extract_size
   have e2:d.extract 0 rows.length=d:=by rw[<- hds];exact Array.extract_size
   rwa [e1,e2]at hp3
  obtain⟨y,hyw,hyle,hyok⟩:=hworld n os d'
  obtain⟨b1,b2⟩:=putRowId_block (n:=n) h5 (flatK enc k d') os
  have hlen':(d'.toList.map (·.1.1)).length=rows.length:=by simp[hd's]
  have hsz':(flatK enc k d').size=rows.length*k:=by rw[size_flatK,hd's]
  have hfin:x.le y∧Inv y ((t,.seq (.slice (some ⟨blk,0,none⟩) rows.length cap) e k ((d'.toList.map (·.1.1)).map encA))::H0):=by
   have hi':Inv x ((t,.seq (.slice (some ⟨blk,0,none⟩) rows.length cap) e k (rows.map encA))::H0):=by simpa using hi
   refine hi'.ofOwn (y:=y) (g':=t) (h':=.slice (some ⟨blk,0,none⟩) rows.length cap) hyok ?_ ?_ hyle.drawn ?_
   ·refine⟨(d'.toList.map enc).flatten,⟨?_,.inr ⟨blk,cap,_,by rw[List.length_map,hlen'],Nat.zero_le _,by rw[hyw];exact b1,by rw[List.length_map,hlen'];exact h6,h7,by simp[putCells,h8],?_⟩⟩,?_,?_⟩
    ·rw[<- flatK_list enc k hk,Array.length_toList,hsz',List.length_map,hlen']
    ·rw[List.length_map,hlen',<- hsz',putId_take _ _ (by rw[hsz',h8];exact Nat.mul_le_mul_right _ h6),flatK_list enc k hk]
    ·intro r hr
     obtain⟨b,_,rfl⟩:=List.mem_map.1 hr
     rw[hkl]
    ·have:=ds_chunks (x:=x) (encA:=encA) (l:=d'.toList.map (·.1)) (fun p hp=>by
      obtain⟨a,_,rfl⟩:=List.mem_map.1 hp
      exact a.2.2)
     simp only[List.map_map]at this ⊢
     exact this.mono hyle
   ·refine⟨by rw[hyw];rfl,by rw[hyw];rfl,by rw[hyw];rfl,hyle.size,?_⟩
    intro b hb hne
    rw[hyw]
    exact b2 b hb fun ee=>hne (by simp[Value.ownBlock,ee])
   ·intro b hb
    simp only[Value.ownBlock,Option.some.injEq]at hb
    subst hb
    exact⟨.inl rfl,Nat.lt_of_lt_of_le hblk hyle.size⟩
  refine⟨y,_,.tuple [],[(t,.seq (.slice (some ⟨blk,0,none⟩) rows.length cap) e k ((d'.toList.map (·.1.1)).map encA))],rfl,hyw,hfin.1,by simpa using hfin.2,unit_D y,rfl,d'.toList.map (·.1.1),?_,?_,rfl⟩
  ·have:=hperm.map (fun a:α=>a.1.1)
   rwa [show d.toList.map (fun a:α=>a.1.1)=rows by simpa [d]using hd1]at this
  ·rw[List.pairwise_iff_getElem]
   intro i j hi1 hj1 hij
   have hi2:i<d'.size:=by simpa using hi1
   have hj2:j<d'.size:=by simpa using hj1
   have:=hsrt i j (Nat.zero_le _) hij (by omega)
   unfold ltOf at this
   simp only[decide_eq_false_iff_not]at this
   simpa [cf,hi2,hj2]using this
end
def sfrealizemadeRen:Go.Shelf.Ren:=⟨fun | 6=>109 | 14=>174 | 15=>152 | 20=>246 | 21=>247 | 22=>248 | 23=>249 | 24=>250 | 25=>251 | 26=>252 | 27=>253 | 28=>223 | 29=>224 | 46=>328 | 47=>298 | 48=>299 | 49=>329 | 50=>330 | 57=>369 | n=>n,fun | 0=>0 | 3=>3 | 4=>4 | 5=>5 | 9=>9 | 22=>103 | 24=>112 | 25=>179 | 39=>220 | 45=>287 | 46=>288 | 50=>142 | 53=>295 | 55=>297 | 66=>367 | 70=>371 | 76=>414 | 77=>415 | n=>n,fun n=>n⟩
theorem sfrealizemadeLays:Go.Proofs.SlLaysF0.n6 Tryz.prog sfrealizemadeRen:={ 
 mixed:=by kernel_rfl,
 f6:=⟨ "slices.SortFunc[[]pneumatic/realize.made,pneumatic/realize.made]",by kernel_rfl,by kernel_rfl⟩,
 f14:=⟨ "slices.pdqsortCmpFunc[pneumatic/realize.made]",by kernel_rfl,by kernel_rfl⟩,
 f15:=by kernel_rfl,
 f20:=⟨ "slices.insertionSortCmpFunc[pneumatic/realize.made]",by kernel_rfl,by kernel_rfl⟩,
 f21:=⟨ "slices.heapSortCmpFunc[pneumatic/realize.made]",by kernel_rfl,by kernel_rfl⟩,
 f22:=⟨ "slices.breakPatternsCmpFunc[pneumatic/realize.made]",by kernel_rfl,by kernel_rfl⟩,
 f23:=⟨ "slices.choosePivotCmpFunc[pneumatic/realize.made]",by kernel_rfl,by kernel_rfl⟩,
 f24:=⟨ "slices.reverseRangeCmpFunc[pneumatic/realize.made]",by kernel_rfl,by kernel_rfl⟩,
 f25:=⟨ "slices.partialInsertionSortCmpFunc[pneumatic/realize.made]",by kernel_rfl,by kernel_rfl⟩,
 f26:=⟨ "slices.partitionEqualCmpFunc[pneumatic/realize.made]",by kernel_rfl,by kernel_rfl⟩,
 f27:=⟨ "slices.partitionCmpFunc[pneumatic/realize.made]",by kernel_rfl,by kernel_rfl⟩,
 f28:=by kernel_rfl,
 f29:=by kernel_rfl,
 f46:=⟨ "slices.siftDownCmpFunc[pneumatic/realize.made]",by kernel_rfl,by kernel_rfl⟩,
 f47:=by kernel_rfl,
 f48:=by kernel_rfl,
 f49:=⟨ "slices.medianAdjacentCmpFunc[pneumatic/realize.made]",by kernel_rfl,by kernel_rfl⟩,
 f50:=⟨ "slices.medianCmpFunc[pneumatic/realize.made]",by kernel_rfl,by kernel_rfl⟩,
 f57:=⟨ "slices.order2CmpFunc[pneumatic/realize.made]",by kernel_rfl,by kernel_rfl⟩,
 t0:=Tryz.underlying0,
 a0:=Tryz.isAgg0,
 z0:=Tryz.sizeOf0,
 v0:=Tryz.zeroValue0,
 t3:=Tryz.underlying3,
 a3:=Tryz.isAgg3,
 z3:=Tryz.sizeOf3,
 v3:=Tryz.zeroValue3,
 t4:=Tryz.underlying4,
 a4:=Tryz.isAgg4,
 z4:=Tryz.sizeOf4,
 v4:=Tryz.zeroValue4,
 t5:=Tryz.underlying5,
 a5:=Tryz.isAgg5,
 z5:=Tryz.sizeOf5,
 v5:=Tryz.zeroValue5,
 t9:=Tryz.underlying9,
 a9:=Tryz.isAgg9,
 z9:=Tryz.sizeOf9,
 v9:=Tryz.zeroValue9,
 t22:=Tryz.underlying103,
 a22:=Tryz.isAgg103,
 z22:=Tryz.sizeOf103,
 v22:=Tryz.zeroValue103,
 t25:=Tryz.underlying179,
 a25:=Tryz.isAgg179,
 z25:=Tryz.sizeOf179,
 v25:=Tryz.zeroValue179,
 t39:=Tryz.underlying220,
 a39:=Tryz.isAgg220,
 z39:=Tryz.sizeOf220,
 v39:=Tryz.zeroValue220,
 t45:=Tryz.underlying287,
 a45:=Tryz.isAgg287,
 z45:=Tryz.sizeOf287,
 v45:=Tryz.zeroValue287,
 t46:=Tryz.underlying288,
 a46:=Tryz.isAgg288,
 z46:=Tryz.sizeOf288,
 v46:=Tryz.zeroValue288,
 t50:=Tryz.underlying142,
 a50:=Tryz.isAgg142,
 z50:=Tryz.sizeOf142,
 v50:=Tryz.zeroValue142,
 t53:=Tryz.underlying295,
 a53:=Tryz.isAgg295,
 z53:=Tryz.sizeOf295,
 v53:=Tryz.zeroValue295,
 t55:=Tryz.underlying297,
 a55:=Tryz.isAgg297,
 z55:=Tryz.sizeOf297,
 v55:=Tryz.zeroValue297,
 t66:=Tryz.underlying367,
 a66:=Tryz.isAgg367,
 z66:=Tryz.sizeOf367,
 v66:=Tryz.zeroValue367,
 t70:=Tryz.underlying371,
 a70:=Tryz.isAgg371,
 z70:=Tryz.sizeOf371,
 v70:=Tryz.zeroValue371,
 t76:=Tryz.underlying414,
 a76:=Tryz.isAgg414,
 z76:=Tryz.sizeOf414,
 v76:=Tryz.zeroValue414,
 t77:=Tryz.underlying415,
 a77:=Tryz.isAgg415,
 z77:=Tryz.sizeOf415,
 v77:=Tryz.zeroValue415 }
theorem Compare_fnT (a b:List UInt8):CallFn Tryz.prog 111 [.dat (.str a),.dat (.str b)] (aI (Go.Lib.compareBytes a b)):=by
 refine⟨⟨_,Tryz.func111,by kernel_rfl,by kernel_rfl⟩,fun x args H0 hi hd=>?_⟩
 obtain⟨u,v,e,hu,hv⟩:=Ds.two hd
 simp only[D,RdL]at hu hv
 subst hu hv
 have ha:args=#[.string ⟨a.toArray⟩,.string ⟨b.toArray⟩]:=by
  rcases args with⟨l⟩
  simp only at e
  rw[e]
 subst ha
 refine (Any.strings_Compare scLays ⟨a.toArray⟩ ⟨b.toArray⟩ x.w).mono ?_
 rintro _ _ ⟨rfl,rfl⟩
 refine⟨x,_,_,[],rfl,rfl,.refl x,by simpa using hi,?_,rfl,rfl⟩
 simp only[D,RdL]
theorem cmpOr_fn (a b:Int):CallFn Tryz.prog 115 [aIs [a,b]] (aI (if a≠0 then a else b)):=by
 refine callFz_of Tryz.func115 rfl Tryz.ntmps115 (rs:=[.tmp 2]) rfl (by kernel_rfl) (by simp) (by kernel_rfl) ?_
 simp
 refine V.forI (σ:=Unit) 2 [3,6,7] (by simp;exact rfl) (fun i _=>[(2,aI 0),(8,aI i)]) (fun _ _=>[]) (fun i _=>(1<=i->a=0)∧(2<=i->b=0)) () (by simp) (by simp) ⟨by simp;exact rfl,by simp⟩ ?_ ?_
 ·rintro i-hi ⟨h1,h2⟩
  have hc:i=0∨i=1:=by omega
  rcases hc with rfl | rfl
  ·simp
   by_cases h:a=0<;>simp[h]
  ·have:=h1 (by omega)
   simp
   by_cases h:b=0<;>simp[h,this]
 ·rintro-⟨h1,h2⟩
  have:=h1 (by omega)
  have:=h2 (by omega)
  simp[*]
theorem nanI_fn (n:Int):CallFn Tryz.prog 237 [aI n] (aB false):=by
 refine callFz_of Tryz.func237 rfl Tryz.ntmps237 (rs:=[.tmp 2]) rfl (by kernel_rfl) (by simp) (by kernel_rfl) ?_
 simp
def cmpI (a b:Int):Int:=if a<b then -1 else if b<a then 1 else 0
theorem cmpI_fn (a b:Int):CallFn Tryz.prog 166 [aI a,aI b] (aI (cmpI a b)):=by
 have n1:=nanI_fn a
 have n2:=nanI_fn b
 refine callFz_of Tryz.func166 rfl Tryz.ntmps166 (rs:=[.tmp 4]) rfl (by kernel_rfl) (by simp) (by kernel_rfl) ?_
 simp
 refine n1.s ?_
 simp
 refine n2.s ?_
 simp
 unfold cmpI
 by_cases h:a<b
 ·simp[h]
  omega
 ·by_cases h2:b<a<;>simp[h,h2]
section
variable {P:Program}
def Sees (a b:A):Prop:=∀x v,D x a v->D x b v
def swA (sw:Nat->Option A) (o:Oper) (a:A):A:=(sw (o.dst.getD 0)).getD a
def swP (sw:Nat->Option A) (o:Oper) (a:A):Prop:=match sw (o.dst.getD 0) with
 | some b=>Sees a b
 | none=>True
def vcS (P:Program) (ρ:Nat->Option CR) (T:List Nat) (sw:Nat->Option A) (ops:List Oper):List Oper->Env->Heap->(Env->Heap->Prop)->Prop
 | [],E,H,K=>K E H
 | o::rest,E,H,K=>∀u b,match T.contains (o.dst.getD 0)&&o.guard.isNone with
  | true=>match heapF P u b (o.dst.getD 0) E (fun t=>hget t H) o.op with
   | some (p,a,ch)=>p∧swP sw o a∧vcS P ρ T sw ops rest (put E o.dst (swA sw o a)) (happ ch H) K
   | none=>False
  | false=>match fStep P ρ u b ops o E (fun t=>hget t H) with
   | some (p,a,ch)=>p∧swP sw o a∧vcS P ρ T sw ops rest (put E o.dst (swA sw o a)) (happ ch H) K
   | none=>False
theorem V.seqV {C:Cfg}{a b:Code}{E:Env}{H:Heap}{Q:PostQ}(h:V C a E H fun e E' H'=>match e with
  | .normal=>V C b E' H' Q
  | .exit i=>Q (.exit i) E' H'
  | .ret=>Q .ret E' H'
  | _=>False):V C (.seq a b) E H Q:=by
 intro hf
 simp only[fitsC,Bool.and_eq_true]at hf
 refine W.seq ((h hf.1).mono ?_)
 intro e E' H' hq
 cases e with
 | normal=>exact hq hf.2
 | exit i=>exact hq
 | ret=>exact hq
 | goto l=>exact hq
 | panic c=>exact hq
 | outgrown=>exact hq
attribute [simp] vcS swA swP
end
section
variable {P:Program}
theorem V.of_vc {C:Cfg}{c:Code}{E:Env}{H:Heap}{Q:PostQ}(h:vcC C c E H Q):V C c E H Q:=fun hf=>vcC_ok c E H Q hf h
theorem V.of_vcN {C:Cfg}(k:Nat) {c:Code}{E:Env}{H:Heap}{Q:PostQ}(h:vcN C k c E H Q):V C c E H Q:=fun hf=>vcN_ok k c E H Q hf h
theorem V.condV {C:Cfg}{c:Operand}{a b:Code}{E:Env}{H:Heap}{Q:PostQ}(h:match st (ev E c) with
  | (p,.dat (.bool t))=>p∧(t=true->V C a E H Q)∧(t=false->V C b E H Q)
  | _=>False):V C (.cond c a b) E H Q:=by
 intro hf
 simp only[fitsC,Bool.and_eq_true]at hf
 cases hs:st (ev E c) with
 | mk p v=>
  rw[hs]at h
  cases v with
  | dat l=>
   cases l with
   | bool t=>exact W.cond' hs h.1 (fun ht=>h.2.1 ht (by simp_all)) (fun ht=>h.2.2 ht (by simp_all))
   | _=>exact h.elim
  | _=>exact h.elim
theorem V.cutV {C:Cfg}{c:Code}{E:Env}{H Hs:Heap}{Q:PostQ}(kv:List (Nat×A)) (hE:∀p∈kv,wk (E p.1) p.2) (hH:subN Hs H) (h:V C c (hdE kv []) Hs Q):V C c E H Q:=by
 intro hf x act H0 ms hi he
 refine h hf x act H0 ms (subN_inv hH hi) ⟨he.defers,he.size,?_⟩
 exact sets_wk he.slot [] _ (by simp) (sets_wk he.slot kv _ hE fun t=>by simp[anyE,D])
def BodyQ (id:Nat) (Q:PostQ) (nx:Env->Heap->Prop):PostQ:=fun e E H=>match e with
 | .normal=>nx E H
 | .exit k=>if k=id then nx E H else Q (.exit k) E H
 | .ret=>Q .ret E H
 | _=>False
@[simp] theorem BodyQ_n (id:Nat) (Q:PostQ) (nx:Env->Heap->Prop) (E:Env) (H:Heap):BodyQ id Q nx .normal E H=nx E H:=rfl
@[simp] theorem BodyQ_r (id:Nat) (Q:PostQ) (nx:Env->Heap->Prop) (E:Env) (H:Heap):BodyQ id Q nx .ret E H=Q .ret E H:=rfl
end
end Go.Proofs.YtafamcbdaeppoaaGreatDoor
