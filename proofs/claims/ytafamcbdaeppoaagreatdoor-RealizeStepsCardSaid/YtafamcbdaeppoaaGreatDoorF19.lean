/- Texts joined by a program: Hg,Hja,Hh. -/
import Derived.Test.YtafamcbdaeppoaaGreatDoorF18
import Derived.Test.YtafamcbdaeppoaaGreatDoorF12
import Derived.Test.YtafamcbdaeppoaaGreatDoorF14
set_option linter.unusedSimpArgs false
set_option linter.unusedVariables false
set_option maxHeartbeats 8000000
set_option maxRecDepth 10000
namespace Go.Proofs.YtafamcbdaeppoaaGreatDoor
abbrev Makes (c:Control) (f:FuncId) (az bz:List A) (b b4 b5 bg:Nat) (x:Expr):Prop:=∀(hp hj:Value) (m:Mk),m.parts.length+sizeN x<=500000->m.joins.length+3*sizeN x<=800000->m.number+sizeN x<=500000 ->
 CallS Tryz.prog f (az++[aE x]++bz) (mkrH c b b4 b5 bg hp hj m) fun r H'=>∃hp' hj',r=.record (encPin (m.expr c x).pin)∧H'=mkrH c b b4 b5 bg hp' hj' (m.app (m.expr c x))
theorem const37_s {c:Control}{b b4 b5 bg:Nat}{x:Expr}(hx:x.op=0):Makes c 103 [.ptr 70 b 0] [] b b4 b5 bg x:=by
 intro hp hj m h1 h2 h3
 have e:m.expr c x=⟨[],[],m.number,if x.index=1 then supPin else noPin⟩:=by
  unfold Mk.expr
  rw[exprD_eq,if_pos hx]
 rw[e]
 refine CallS.dropP (callS_of Tryz.func103 rfl Tryz.ntmps103 (rs:=[.cell 4 123]) rfl (by kernel_rfl) (by simp) (by kernel_rfl) (K:=fun r H'=>r=.record (encPin (if x.index=1 then supPin else noPin))∧subP (mkrH c b b4 b5 bg hp hj m) H') ?_) (fun r H' ⟨e,h⟩=>⟨_,h,hp,hj,e,by simp[Mk.app]⟩)
 simp
 intro b4'
 refine⟨fun h=>?_,fun h=>?_⟩
 ·simp[h]
  exact subP.c (subP.refl _) _
 ·simp[h]
  exact subP.c (subP.refl _) _
theorem var37_s {c:Control}(hc:Sm c) (h0:0<=c.actuators∧c.actuators<=12) {b b4 b5 bg:Nat}{x:Expr}(hx:x.op=1) (hl:0<=x.index∧x.index<countC c):Makes c 104 [.ptr 70 b 0] [] b b4 b5 bg x:=by
 intro hp hj m h1 h2 h3
 have e:m.expr c x=⟨[],[],m.number,portM c m.gates x.index⟩:=by
  unfold Mk.expr
  rw[exprD_eq,if_neg (by omega),if_pos hx]
 rw[e]
 have hport:=port37_s (b:=b) (b4:=b4) (b5:=b5) (bg:=bg) (hp':=hp) (hj:=hj) (m:=m) hc h0 hl
 refine CallS.dropP (callS_of Tryz.func104 rfl Tryz.ntmps104 (rs:=[.cell 4 123]) rfl (by kernel_rfl) (by simp) (by kernel_rfl) (K:=fun r H'=>r=.record (encPin (portM c m.gates x.index))∧subP (mkrH c b b4 b5 bg hp hj m) H') ?_) (fun r H' ⟨e,h⟩=>⟨_,h,hp,hj,e,by simp[Mk.app]⟩)
 simp
 intro b4'
 refine hport.c1.mono ?_
 rintro _ _ ⟨_,⟨rfl,rfl⟩,rfl⟩
 simp
 exact subP.c (subP.refl _) _
theorem not37_s {c:Control}{b b4 b5 bg:Nat}{x y:Expr}(hx:x.op=2) (hy:x.args=[y]) (ih:Makes c 168 [.ptr 70 b 0] [] b b4 b5 bg y):Makes c 105 [.ptr 70 b 0] [] b b4 b5 bg x:=by
 intro hp hj m h1 h2 h3
 have hsz:sizeN x=1+sizeN y:=by
  rw[sizeN_eq,hy,sizeNL,sizeNL]
  omega
 have e:m.expr c x=notD false m.signal (m.expr c y) y:=by
  unfold Mk.expr
  rw[exprD_eq,if_neg (by omega),if_neg (by omega),if_pos hx,hy]
  simp[argsD,notsD]
 rw[e]
 obtain⟨s1,s2,s3⟩:=expr_small false (portM c m.gates) m.signal y m.number
 have hyp:=sizeN_pos y
 have hih:=ih hp hj m (by omega) (by omega) (by omega)
 have hexp:m.expr c y=exprD false (portM c m.gates) m.signal y m.number:=rfl
 rw[<- hexp]at s1 s2 s3
 generalize m.expr c y=d at *
 obtain⟨dp,dj,dn,dpin⟩:=d
 simp only at s1 s2 s3
 subst s1
 refine CallS.dropP (callS_of Tryz.func105 rfl Tryz.ntmps105 (rs:=[.cell 4 123]) rfl (by kernel_rfl) (by simp) (by kernel_rfl) (K:=fun r H'=>∃hp' hj',r=.record (encPin (notD false m.signal ⟨dp,dj,m.number+dp.length,dpin⟩ y).pin)∧subP (mkrH c b b4 b5 bg hp' hj' (m.app (notD false m.signal ⟨dp,dj,m.number+dp.length,dpin⟩ y))) H') ?_) (fun r H' ⟨hp',hj',e,h⟩=>⟨_,h,hp',hj',e,rfl⟩)
 simp[hy,encE_eq y]
 intro b4'
 simp at hih
 refine hih.c1.mono ?_
 rintro _ _ ⟨_,⟨hp1,hj1,rfl,rfl⟩,rfl⟩
 simp
 intro b5'
 obtain⟨m1,hm1⟩:∃m1,m.app ⟨dp,dj,m.number+dp.length,dpin⟩=m1:=⟨_,rfl⟩
 have k1:m1.parts=m.parts++dp:=by rw[<- hm1];rfl
 have k2:m1.joins=m.joins++dj:=by rw[<- hm1];rfl
 have k3:m1.number=m.number+dp.length:=by rw[<- hm1];rfl
 have k4:m1.signal=m.signal:=by rw[<- hm1];rfl
 have k5:m1.gates=m.gates:=by rw[<- hm1];rfl
 have hpl:m1.parts.length=m.parts.length+dp.length:=by simp[k1]
 have hjl:m1.joins.length=m.joins.length+dj.length:=by simp[k2]
 rw[hm1]
 have hnx:=next37_s (c:=c) (b:=b) (b4:=b4) (b5:=b5) (bg:=bg) (hp:=hp1) (hj:=hj1) (m:=m1) 5 [78] (by omega) (by omega) (by simp)
 simp at hnx
 refine hnx.c1.c1.mono ?_
 rintro _ _ ⟨_,⟨_,⟨rfl,hp2,rfl⟩,rfl⟩,rfl⟩
 have g1:((m1.parts.length:Int)+1).toNat-1=m1.parts.length:=by omega
 simp[Mk.add]
 refine V.drawX (fun _=>none) (by kernel_rfl) (by kernel_rfl) (by simp) ?_
 simp[argA,g1]
 refine⟨by omega,by omega,by kernel_rfl,?_⟩
 obtain⟨m2,hm2⟩:∃m2:Mk,m2=⟨m1.parts++[⟨5,78::numT m1.number,0,m1.signal,some y,-1,-1⟩],m1.joins,m1.number+1,m1.signal,m1.gates⟩:=⟨_,rfl⟩
 have hfd:=feed37_s (c:=c) (b:=b) (b4:=b4) (b5:=b5) (bg:=bg) (hp:=hp2) (hj:=hj1) (m:=m2) (78::numT m1.number) (by rw[hm2];simp only;omega)
 have hj2:(m2.feed (78::numT m1.number)).joins.length<=1000000:=by
  have:=joinD_len supPin ⟨78::numT m1.number,[49]⟩
  rw[hm2]
  simp only[Mk.feed,Mk.join,List.length_append]
  omega
 refine (hfd.on2 (by simp[hm2,argA,encE_eq y])).mono ?_
 rintro _ _ ⟨_,⟨rfl,hj3,rfl⟩,rfl⟩
 simp
 have hjn:=join37_s (c:=c) (b:=b) (b4:=b4) (b5:=b5) (bg:=bg) (hp:=hp2) (hj:=hj3) (m:=m2.feed (78::numT m1.number)) dpin ⟨78::numT m1.number,[49,48]⟩ hj2
 refine (hjn.on2 rfl).mono ?_
 rintro _ _ ⟨_,⟨rfl,hj4,rfl⟩,rfl⟩
 simp
 refine⟨by simp[notD,k3],hp2,hj4,subP.c (subP.c (subP_of_eq ?_) _) _⟩
 simp[hm2,Mk.feed,Mk.join,Mk.app,notD,airD,k1,k2,k3,k4,k5]
theorem args_take {fl:Bool}{pf:Int->Pin}{sg:Int}{xs:List Expr}{i:Nat}{y:Expr}(h:xs[i]?=some y) (k:Nat):argsD fl pf sg (xs.take (i+1)) k =
  ⟨(argsD fl pf sg (xs.take i) k).parts++(exprD fl pf sg y (argsD fl pf sg (xs.take i) k).num).parts,(argsD fl pf sg (xs.take i) k).joins++(exprD fl pf sg y (argsD fl pf sg (xs.take i) k).num).joins,
    (exprD fl pf sg y (argsD fl pf sg (xs.take i) k).num).num,(argsD fl pf sg (xs.take i) k).pins++[(exprD fl pf sg y (argsD fl pf sg (xs.take i) k).num).pin]⟩:=by
 rw[List.take_add_one,h,Option.toList_some,argsD_snoc]
theorem sizeNL_more:∀ {xs:List Expr}{i:Nat}{y:Expr},xs[i]?=some y->sizeNL (xs.take i)+sizeN y<=sizeNL xs
 | [],i,y,h=>by simp at h
 | x::xs,0,y,h=>by
  simp at h
  subst h
  simp[sizeNL]
 | x::xs,i+1,y,h=>by
  simp at h
  have:=sizeNL_more h
  simp only[List.take_succ_cons,sizeNL]
  omega
abbrev rPin (p:Pin):List A:=[.dat (.str p.part),.dat (.str p.port)]
theorem rowsD_P (xs:List Pin):rowsD (xs.map rPin)=xs.map encPin:=by unfold rowsD;rw[List.map_map];rfl
theorem allD_P (xs:List Pin):allD (xs.map rPin)=true:=by simp[allD,rPin,isD]
theorem rl_P (xs:List Pin):rl (xs.map encPin) 2=True:=by simp
def Mk.argsM (c:Control) (m:Mk) (xs:List Expr):Mk:={ m with parts:=m.parts++(argsD false (portM c m.gates) m.signal xs m.number).parts,joins:=m.joins++(argsD false (portM c m.gates) m.signal xs m.number).joins,number:=(argsD false (portM c m.gates) m.signal xs m.number).num }
def Mk.pinsM (c:Control) (m:Mk) (xs:List Expr):List Pin:=(argsD false (portM c m.gates) m.signal xs m.number).pins
theorem argsM_step {c:Control}{m:Mk}{xs:List Expr}{i:Nat}{y:Expr}(h:xs[i]?=some y):(m.argsM c (xs.take i)).app ((m.argsM c (xs.take i)).expr c y)=m.argsM c (xs.take (i+1)) ∧
  m.pinsM c (xs.take (i+1))=m.pinsM c (xs.take i)++[((m.argsM c (xs.take i)).expr c y).pin]:=by
 unfold Mk.argsM Mk.pinsM Mk.app Mk.expr
 rw[args_take h]
 simp
@[simp] theorem argsM_nil (c:Control) (m:Mk):m.argsM c []=m:=by simp[Mk.argsM,argsD]
@[simp] theorem pinsM_nil (c:Control) (m:Mk):m.pinsM c []=[]:=rfl
abbrev twinL (sg kind:Int) (letter:UInt8) (r:Ds') (p:Pin) (ps:List Pin) (i:Nat):Dl:=(ps.take i).foldl (twinD sg kind letter) ⟨r.parts,r.joins,r.num,p⟩
theorem twinL_step {sg kind:Int}{letter:UInt8}{r:Ds'}{p q:Pin}{ps:List Pin}{i:Nat}(h:ps[i]?=some q):twinL sg kind letter r p ps (i+1)=twinD sg kind letter (twinL sg kind letter r p ps i) q:=by
 unfold twinL
 rw[List.take_add_one,h,Option.toList_some,List.foldl_append]
 rfl
abbrev jkv (τ kb bp:Nat) (kind:Int) (letter:UInt8) (bq:Nat) (ps:List Pin):List (Nat×A):=[(1,.ptr τ kb 0),(2,.rptr [.int .i64 kind]),(3,.rptr [.str [letter]]),(5,.ptr 5 bp 0),(9,.ptr 9 bq 0),(31,.dat (.sl (ps.map encPin))),(32,aI ps.length)]
theorem twin_row {c:Control}{b b4 b5 bg τ kb bp bq:Nat}{hp hj:Value}{kind:Int}{letter:UInt8}{m:Mk}{d:Dl}{ps:List Pin}{q:Pin}{Q:PostQ}{i:Nat}{F:Nat->Mk×Pin}(hk:(τ=74∧kb=b4)∨(τ=75∧kb=b5))
  (hi:ps[i]?=some q) (hps:ps.length<=1000) (h1:m.parts.length+d.parts.length<=900000) (h2:m.joins.length+d.joins.length<=900000) (h3:d.num<=900000) (e1:F i=(m.app d,d.pin)) (e2:F (i+1)=(m.app (twinD m.signal kind letter d q),(twinD m.signal kind letter d q).pin)) :
  vcC ⟨Tryz.prog,none,55⟩ (loopC Tryz.f172 1) (hdE (jkv τ kb bp kind letter bq ps) [(33,aI i)]) (hcat ((9,.box bq [.dat (.str (F i).2.part),.dat (.str (F i).2.port)])::(5,.box bp [.dat (.str []),.dat (.str [])])::mkrH c b b4 b5 bg hp hj (F i).1) [])
   (LoopQ Q fun E' H'=>∃g:Value×Value,True∧(∀p∈[(33,aI (i+1:Nat))],wk (E' p.1) p.2)∧(∀p∈jkv τ kb bp kind letter bq ps,E' p.1=p.2) ∧
    subN (hcat ((9,.box bq [.dat (.str (F (i+1)).2.part),.dat (.str (F (i+1)).2.port)])::(5,.box bp [.dat (.str []),.dat (.str [])])::mkrH c b b4 b5 bg g.1 g.2 (F (i+1)).1) []) H'):=by
 obtain⟨hil,hi1⟩:=List.getElem?_eq_some_iff.1 hi
 rw[e1,e2]
 obtain⟨m1,hm1⟩:∃m1,m.app d=m1:=⟨_,rfl⟩
 have k1:m1.parts=m.parts++d.parts:=by rw[<- hm1];rfl
 have k2:m1.joins=m.joins++d.joins:=by rw[<- hm1];rfl
 have k3:m1.number=d.num:=by rw[<- hm1];rfl
 have k4:m1.signal=m.signal:=by rw[<- hm1];rfl
 have k5:m1.gates=m.gates:=by rw[<- hm1];rfl
 have hpl:m1.parts.length=m.parts.length+d.parts.length:=by simp[k1]
 have hjl:m1.joins.length=m.joins.length+d.joins.length:=by simp[k2]
 have hnx:=next37_s (c:=c) (b:=b) (b4:=b4) (b5:=b5) (bg:=bg) (hp:=hp) (hj:=hj) (m:=m1) kind [letter] (by omega) (by omega) (by simp)
 obtain⟨m2,hm2⟩:∃m2:Mk,{ m1 with number:=m1.number+1 }.add kind ([letter]++numT m1.number) 0 (-1)=m2:=⟨_,rfl⟩
 have hj2:m2.joins.length<=900000:=by
  rw[<- hm2]
  show m1.joins.length<=_
  omega
 rw[hm2]at hnx
 have hja:=fun hp hj=>join37_s (c:=c) (b:=b) (b4:=b4) (b5:=b5) (bg:=bg) (hp:=hp) (hj:=hj) (m:=m2) d.pin ⟨letter::numT m1.number,[49]⟩ (by omega)
 have hjb:=fun hp hj=>join37_s (c:=c) (b:=b) (b4:=b4) (b5:=b5) (bg:=bg) (hp:=hp) (hj:=hj) (m:=m2.join d.pin ⟨letter::numT m1.number,[49]⟩) q ⟨letter::numT m1.number,[49,49]⟩ (by
  have:=joinD_len d.pin ⟨letter::numT m1.number,[49]⟩
  simp only[Mk.join,List.length_append]
  omega)
 have hfin:m.app (twinD m.signal kind letter d q)=(m2.join d.pin ⟨letter::numT m1.number,[49]⟩).join q ⟨letter::numT m1.number,[49,49]⟩:=by
  rw[<- hm2]
  simp[Mk.app,Mk.join,Mk.add,twinD,k1,k2,k3,k4,k5]
 rw[hm1,hfin]
 have hrl:=rl_P ps
 refine vc_part rfl ?_
 rcases hk with⟨rfl,rfl⟩|⟨rfl,rfl⟩
 all_goals
  simp[hil,hi1,hi]
  intro b11
  refine (hnx.on3 rfl).mono ?_
  rintro _ _ ⟨_,⟨rfl,hp2,rfl⟩,rfl⟩
  simp
  refine ((hja hp2 hj).on3 rfl).mono ?_
  rintro _ _ ⟨_,⟨rfl,hj3,rfl⟩,rfl⟩
  simp
  refine ((hjb hp2 hj3).on3 rfl).mono ?_
  rintro _ _ ⟨_,⟨rfl,hj4,rfl⟩,rfl⟩
  simp
  exact⟨by omega,by simp[twinD,k3]⟩
theorem foldD_cons {sg op:Int}{r:Ds'}{p:Pin}{ps:List Pin}(h:r.pins=p::ps):foldD sg op r=twinL sg (if op=3 then 9 else 8) (if op=3 then 80 else 81) r p ps ps.length:=by
 unfold foldD twinL
 rw[h,List.take_length]
theorem joined37_s {c:Control}{b b4 b5 bg τ kb:Nat}{x:Expr}{kind:Int}{letter:UInt8}(hop:x.op≠0∧x.op≠1∧x.op≠2) (hlen:1<=x.args.length∧x.args.length<=256)
  (hk:(τ=74∧kb=b4)∨(τ=75∧kb=b5)) (hkl:kind=(if x.op=3 then 9 else 8)∧letter=(if x.op=3 then 80 else 81))
  (ih:∀y∈x.args,Makes c 168 [.ptr 70 b 0] [] b b4 b5 bg y):Makes c 172 [] [.ptr τ kb 0,.rptr [.int .i64 kind],.rptr [.str [letter]]] b b4 b5 bg x:=by
 intro hp hj m h1 h2 h3
 have hsx:=sizeN_eq x
 have hxa:=sizeNL_len x.args
 obtain⟨s1,s2,s3⟩:=args_small false (portM c m.gates) m.signal x.args m.number
 have hpl:=argsD_len false (portM c m.gates) m.signal x.args m.number
 obtain⟨p0,ps,hpp⟩:∃p ps,(argsD false (portM c m.gates) m.signal x.args m.number).pins=p::ps:=by
  cases hq:(argsD false (portM c m.gates) m.signal x.args m.number).pins with
  | nil=>rw[hq]at hpl;simp at hpl;omega
  | cons p ps=>exact⟨p,ps,rfl⟩
 have e:m.expr c x=twinL m.signal kind letter (argsD false (portM c m.gates) m.signal x.args m.number) p0 ps ps.length:=by
  unfold Mk.expr
  rw[exprD_eq,if_neg hop.1,if_neg hop.2.1,if_neg hop.2.2,foldD_cons hpp,hkl.1,hkl.2]
 rw[e]
 have hpsl:ps.length+1=x.args.length:=by rw[<- hpl,hpp];rfl
 refine CallS.dropP (callS_cut 4 Tryz.func172 rfl Tryz.ntmps172 (rs:=[.cell 5 123]) rfl (by kernel_rfl) (by simp) (by kernel_rfl) (K:=fun r H'=>∃hp' hj',r=.record (encPin (twinL m.signal kind letter (argsD false (portM c m.gates) m.signal x.args m.number) p0 ps ps.length).pin)∧subP (mkrH c b b4 b5 bg hp' hj' (m.app (twinL m.signal kind letter (argsD false (portM c m.gates) m.signal x.args m.number) p0 ps ps.length))) H') ?_) (fun r H' ⟨hp',hj',e,h⟩=>⟨_,h,hp',hj',e,rfl⟩)
 simp
 intro bp
 have hrlE:=rl_map (f:=encE) (n:=3) (fun x=>by rw[encE_eq];rfl) x.args
 refine V.forI (σ:=Value×Value×Value) x.args.length [1,2,3,5,14,15] (by simp;exact rfl) (fun i g=>[(6,.own 6 g.1),(16,aI i)]) (fun i g=>(6,.seq g.1 123 2 ((m.pinsM c (x.args.take i)).map rPin))::(5,.box bp [.dat (.str []),.dat (.str [])])::mkrH c b b4 b5 bg g.2.1 g.2.2 (m.argsM c (x.args.take i))) (fun _ _=>True) (.slice none 0 0,hp,hj) trivial (by simp) ⟨by simp;exact rfl,by simp⟩ ?_ ?_
 ·rintro i ⟨g,hp1,hj1⟩ hi -
  obtain⟨y,hy1⟩:∃y,x.args[i]=y:=⟨_,rfl⟩
  have hyo:x.args[i]?=some y:=by rw[List.getElem?_eq_getElem hi,hy1]
  have hsm:=sizeNL_more hyo
  obtain⟨u1,u2,u3⟩:=args_small false (portM c m.gates) m.signal (x.args.take i) m.number
  obtain⟨w1,w2⟩:=argsM_step (c:=c) (m:=m) hyo
  have hpn:(m.pinsM c (x.args.take i)).length=i:=by
   unfold Mk.pinsM
   rw[argsD_len,List.length_take]
   omega
  have hih:=ih y (List.mem_of_getElem? hyo) hp1 hj1 (m.argsM c (x.args.take i)) (by simp only[Mk.argsM,List.length_append];omega) (by simp only[Mk.argsM,List.length_append];omega) (by simp only[Mk.argsM];omega)
  rw[w1]at hih
  rw[w2]
  generalize m.argsM c (x.args.take i)=m1 at *
  generalize m.argsM c (x.args.take (i+1))=m2 at *
  generalize m.pinsM c (x.args.take i)=pn at *
  generalize m1.expr c y=d at *
  simp at hih
  rcases hk with⟨rfl,rfl⟩|⟨rfl,rfl⟩
  all_goals
   simp[hi,hy1,hyo,encE_eq y,hrlE]
   intro b8
   refine (hih.on3 rfl).mono ?_
   rintro _ _ ⟨_,⟨hp2,hj2,rfl,rfl⟩,rfl⟩
   simp
   omega
 ·rintro⟨g,hp1,hj1⟩ -
  rw[List.take_length]
  have hpn:m.pinsM c x.args=p0::ps:=hpp
  obtain⟨r,hr⟩:∃r,argsD false (portM c m.gates) m.signal x.args m.number=r:=⟨_,rfl⟩
  have hm0:m.argsM c x.args=m.app (twinL m.signal kind letter r p0 ps 0):=by
   unfold Mk.argsM Mk.app twinL
   rw[hr]
   rfl
  rw[hr]at s1 s2 s3
  rw[hpn,hm0,hr]
  simp
  intro b9
  refine V.frz1 6 (τ:=6) (h:=g) (e:=123) (sz:=2) (rows:=(p0::ps).map rPin) (by simp) (by simp[hget]) (allD_P _) ?_
  rw[rowsD_P]
  refine V.cut (Hs:=(9,.box b9 [.dat (.str p0.part),.dat (.str p0.port)])::(5,.box bp [.dat (.str []),.dat (.str [])])::mkrH c b b4 b5 bg hp1 hj1 (m.app (twinL m.signal kind letter r p0 ps 0))) [(1,.ptr τ kb 0),(2,.rptr [.int .i64 kind]),(3,.rptr [.str [letter]]),(5,.ptr 5 bp 0),(6,.dat (.sl ((p0::ps).map encPin))),(9,.ptr 9 b9 0)] (by simp) (by simp) ?_
  have hrl:=rl_P ps
  have htk:List.take ps.length (List.map encPin ps)=List.map encPin ps:=List.take_of_length_le (by simp)
  have ht0:(twinL m.signal kind letter r p0 ps 0).pin=p0:=rfl
  simp[hrl,htk]
  refine V.forI (σ:=Value×Value) (kv:=jkv τ kb bp kind letter b9 ps) ps.length [1,2,3,5,9,31,32] (by simp) (fun i _=>[(33,aI i)]) (fun i g=>(9,.box b9 [.dat (.str (twinL m.signal kind letter r p0 ps i).pin.part),.dat (.str (twinL m.signal kind letter r p0 ps i).pin.port)])::(5,.box bp [.dat (.str []),.dat (.str [])])::mkrH c b b4 b5 bg g.1 g.2 (m.app (twinL m.signal kind letter r p0 ps i))) (fun _ _=>True) (hp1,hj1) trivial (by simp) ⟨by simp;exact rfl,by simp[ht0]⟩ ?_ ?_
  ·rintro i ⟨hp2,hj2⟩ hi -
   have hqo:ps[i]?=some ps[i]:=List.getElem?_eq_getElem hi
   have hsmall:=twin_small (sg:=m.signal) (kind:=kind) (letter:=letter) (k:=m.number) (n:=sizeNL x.args-x.args.length) (ps.take i) (d:=⟨r.parts,r.joins,r.num,p0⟩) ⟨s1,s2,s3⟩
   obtain⟨v1,v2,v3⟩:=hsmall
   rw[List.length_take]at v2
   have hstep:=twinL_step (sg:=m.signal) (kind:=kind) (letter:=letter) (r:=r) (p:=p0) hqo
   exact vc_of_part rfl (twin_row (F:=fun i=>(m.app (twinL m.signal kind letter r p0 ps i),(twinL m.signal kind letter r p0 ps i).pin)) hk hqo (by omega) (by simp only[twinL];omega) (by simp only[twinL];omega) (by simp only[twinL];omega) rfl (by rw[hstep]))
  ·rintro⟨hp2,hj2⟩ -
   simp
   exact⟨hp2,hj2,subP.c (subP.c (subP.refl _) _) _⟩
theorem expr_op {c:Control}{b b4 b5 bg:Nat}{x:Expr}{f:FuncId}{first caps:List A}(hop:(opsA b b4 b5)[x.op.toNat]?=some (.fn f first caps)) (h0:0<=x.op∧x.op<5) (h:Makes c f first caps b b4 b5 bg x):Makes c 168 [.ptr 70 b 0] [] b b4 b5 bg x:=by
 intro hp hj m h1 h2 h3
 have hh:=h hp hj m h1 h2 h3
 refine CallS.dropP (callS_of Tryz.func168 rfl Tryz.ntmps168 (rs:=[.cell 4 123]) rfl (by kernel_rfl) (by simp) (by kernel_rfl) (K:=fun r H'=>∃hp' hj',r=.record (encPin (m.expr c x).pin)∧subP (mkrH c b b4 b5 bg hp' hj' (m.app (m.expr c x))) H') ?_) (fun r H' ⟨hp',hj',e,h⟩=>⟨_,h,hp',hj',e,rfl⟩)
 simp
 intro bp
 have hopC:(mkrC c b b4 b5 bg hp hj m)[10+x.op.toNat]?=some (.fn f first caps):=by
  rw[List.getElem?_append_right (by simp)]
  simpa using hop
 simp only[List.cons_append,List.nil_append]at hopC
 refine V.drawC 8 [] (fun _=>none) rfl rfl (by kernel_rfl) (by kernel_rfl) ?_
 simp[hopC]
 refine⟨h0,?_⟩
 simp at hh
 refine hh.c1.mono ?_
 rintro _ _ ⟨_,⟨hp1,hj1,rfl,rfl⟩,rfl⟩
 simp
 exact⟨hp1,hj1,subP.c (subP.refl _) _⟩
theorem node_two {x:Expr}{n:Int}(h:nodeR x n=0) (h3:x.op=3∨x.op=4):2<=x.args.length∧x.args.length<=256:=by
 unfold nodeR at h
 rw[if_neg (by omega)]at h
 simp only[show ¬x.op<=1 by omega,show ¬x.op=2 by omega,if_false]at h
 split at h
 ·cases h
 ·omega
theorem expr37_s {c:Control}(hc:Sm c) (h0:0<=c.actuators∧c.actuators<=12) {b b4 b5 bg:Nat}:∀(N:Nat) (x:Expr),SizeOf.sizeOf x<N->RightE (countC c) x->Makes c 168 [.ptr 70 b 0] [] b b4 b5 bg x
 | 0,_,h,_=>absurd h (Nat.not_lt_zero _)
 | N+1,x,hN,hr=>by
  have hnd:=hr.node
  have hop:=node_op hnd
  have ih:∀y∈x.args,Makes c 168 [.ptr 70 b 0] [] b b4 b5 bg y:=fun y hy=>expr37_s hc h0 N y (by have:=Expr.lt_of_mem hy;omega) (hr.args y hy)
  obtain h | h | h | h | h:x.op=0∨x.op=1∨x.op=2∨x.op=3∨x.op=4:=by omega
  ·exact expr_op (f:=103) (first:=[.ptr 70 b 0]) (caps:=[]) (by rw[h];rfl) ⟨hop.1,hop.2.1⟩ (const37_s h)
  ·exact expr_op (f:=104) (first:=[.ptr 70 b 0]) (caps:=[]) (by rw[h];rfl) ⟨hop.1,hop.2.1⟩ (var37_s hc h0 h (hop.2.2.2.1 h))
  ·obtain⟨y,hy⟩:=hop.2.2.2.2 h
   exact expr_op (f:=105) (first:=[.ptr 70 b 0]) (caps:=[]) (by rw[h];rfl) ⟨hop.1,hop.2.1⟩ (not37_s h hy (ih y (by rw[hy];simp)))
  ·have h2:=node_two hnd (.inl h)
   exact expr_op (f:=172) (first:=[]) (caps:=[.ptr 74 b4 0,.rptr [.int .i64 9],.rptr [.str [80]]]) (by rw[h];rfl) ⟨hop.1,hop.2.1⟩ (joined37_s ⟨by omega,by omega,by omega⟩ ⟨by omega,h2.2⟩ (.inl ⟨rfl,rfl⟩) ⟨by rw[if_pos h],by rw[if_pos h]⟩ ih)
  ·have h2:=node_two hnd (.inr h)
   exact expr_op (f:=172) (first:=[]) (caps:=[.ptr 75 b5 0,.rptr [.int .i64 8],.rptr [.str [81]]]) (by rw[h];rfl) ⟨hop.1,hop.2.1⟩ (joined37_s ⟨by omega,by omega,by omega⟩ ⟨by omega,h2.2⟩ (.inr ⟨rfl,rfl⟩) ⟨by rw[if_neg (by omega)],by rw[if_neg (by omega)]⟩ ih)
mutual
def opsE:Expr->Nat
 | ⟨op,_,args⟩=>if op=0 then 0 else if op=1 then 0 else if op=2 then opsL args+min args.length 1 else opsL args+(args.length-1)
def opsL:List Expr->Nat
 | []=>0
 | x::xs=>opsE x+opsL xs
end
theorem opsE_eq (x:Expr):opsE x=if x.op=0 then 0 else if x.op=1 then 0 else if x.op=2 then opsL x.args+min x.args.length 1 else opsL x.args+(x.args.length-1):=by cases x;rw[opsE]
theorem twin_parts {sg kind:Int}{letter:UInt8}:∀(ps:List Pin) (d:Dl),(ps.foldl (twinD sg kind letter) d).parts.length=d.parts.length+ps.length
 | [],d=>by simp
 | p::ps,d=>by
  rw[List.foldl_cons,twin_parts ps]
  simp[twinD]
  omega
mutual
theorem ops_len (fl:Bool) (pf:Int->Pin) (sg:Int):∀(x:Expr) (k:Nat),(exprD fl pf sg x k).parts.length=opsE x
 | ⟨op,ix,args⟩,k=>by
  have h:=opsL_len fl pf sg args k
  have hl:=argsD_len fl pf sg args k
  rw[exprD_eq,opsE_eq]
  dsimp only
  split
  ·rfl
  ·split
   ·rfl
   ·generalize argsD fl pf sg args k=r at *
    obtain⟨r1,r2,r3,r4⟩:=r
    dsimp only at h hl ⊢
    split
    ·cases args with
     | nil=>simpa [notsD]using h
     | cons y ys=>
      simp only[List.head?_cons,notsD,notD,List.length_append,List.length_cons,List.length_nil]
      omega
    ·unfold foldD
     dsimp only
     cases r4 with
     | nil=>
      simp only[List.length_nil]at hl
      dsimp only
      omega
     | cons p ps=>
      rw[twin_parts]
      simp only[List.length_cons]at hl
      dsimp only
      omega
theorem opsL_len (fl:Bool) (pf:Int->Pin) (sg:Int):∀(xs:List Expr) (k:Nat),(argsD fl pf sg xs k).parts.length=opsL xs
 | [],k=>rfl
 | x::xs,k=>by
  rw[argsD,opsL]
  simp only[List.length_append]
  rw[ops_len fl pf sg x,opsL_len fl pf sg xs]
end
def costS (x:Signal):Nat:=if x.kind=0 then opsE x.on else if x.kind=1 then 1+opsE x.on+opsE x.off else if x.kind=2 then 1+opsE x.on else 0
def countM (c:Control):Nat:=1+4*c.actuators.toNat+c.inputs.length+(c.signals.map costS).sum
@[simp] theorem add_parts (m:Mk) (kind:Int) (name:List UInt8) (delay line:Int):(m.add kind name delay line).parts.length=m.parts.length+1:=by simp[Mk.add]
@[simp] theorem join_parts (m:Mk) (a b:Pin):(m.join a b).parts=m.parts:=rfl
@[simp] theorem feed_parts (m:Mk) (name:List UInt8):(m.feed name).parts=m.parts:=rfl
@[simp] theorem valve_parts (m:Mk) (a:Int):(m.valve a).parts.length=m.parts.length:=by simp[Mk.valve]
theorem expr_parts (c:Control) (m:Mk) (x:Expr):(m.expr c x).parts.length=opsE x:=ops_len _ _ _ _ _
@[simp] theorem app_parts (m:Mk) (d:Dl):(m.app d).parts.length=m.parts.length+d.parts.length:=by simp[Mk.app]
@[simp] theorem to_parts (c:Control) (m:Mk) (x:Expr) (p:Pin):(m.to c x p).parts.length=m.parts.length+opsE x:=by
 rw[Mk.to,join_parts,app_parts,expr_parts]
@[simp] theorem sigm_parts (m:Mk) (i:Nat):(m.sig i).parts=m.parts:=rfl
theorem fold_len {α:Type}{f:Mk->α->Mk}{g:α->Nat}(h:∀m a,(f m a).parts.length=m.parts.length+g a):∀(l:List α) (m:Mk),(l.foldl f m).parts.length=m.parts.length+(l.map g).sum
 | [],m=>by simp
 | a::l,m=>by
  rw[List.foldl_cons,fold_len h l,h]
  simp
  omega
theorem sum_const {α:Type}(k:Nat):∀l:List α,(l.map fun _=>k).sum=l.length*k
 | []=>by simp
 | _::l=>by
  have:=sum_const k l
  simp only[List.map_cons,List.sum_cons,List.length_cons,this,Nat.succ_mul]
  omega
theorem act_len (m:Mk) (a:Nat):(actM m a).parts.length=m.parts.length+4:=by simp[actM]
theorem in_len (c:Control) (m:Mk) (i:Nat):(inM c m i).parts.length=m.parts.length+1:=by simp[inM]
theorem machine_len (c:Control):(machineM c).parts.length=1+4*c.actuators.toNat+c.inputs.length:=by
 unfold machineM
 rw[fold_len (g:=fun _=>1) (in_len c),fold_len (g:=fun _=>4) act_len,sum_const,sum_const]
 simp[Mk.add]
 omega
def gCost (c:Control) (i:Nat):Nat:=match c.signals[i]? with
 | some x=>if x.kind=0 then opsE x.on else 0
 | none=>0
def sCost (c:Control) (i:Nat):Nat:=match c.signals[i]? with
 | some x=>if x.kind=1 then 1+opsE x.on+opsE x.off else if x.kind=2 then 1+opsE x.on else 0
 | none=>0
theorem gate_len {c:Control}(m:Mk) {i:Nat}(hi:i<c.signals.length):(gateM c m i).parts.length=m.parts.length+gCost c i:=by
 have hx:c.signals[i]?=some c.signals[i]:=List.getElem?_eq_getElem hi
 have hk:kindAt c i=c.signals[i].kind:=by simp[kindAt,hx]
 unfold gateM gCost
 rw[hk,hx]
 dsimp only[Option.map_some,Option.getD_some]
 split
 ·rw[app_parts,expr_parts,sigm_parts]
 ·rw[sigm_parts,Nat.add_zero]
theorem sig_len (c:Control) (m:Mk) (i:Nat):(sigM c m i).parts.length=m.parts.length+sCost c i:=by
 unfold sigM sCost
 cases c.signals[i]? with
 | none=>rfl
 | some x=>
  dsimp only
  split
  ·simp
   omega
  ·split
   ·simp
    omega
   ·simp
theorem pil_len (c:Control) (m:Mk) (i:Nat):(pilM c m i).parts.length=m.parts.length+0:=by simp[pilM]
theorem fold_lenI {f:Mk->Nat->Mk}{g:Nat->Nat}{n:Nat}(h:∀m i,i<n->(f m i).parts.length=m.parts.length+g i):∀(k:Nat),k<=n->∀(m:Mk),((List.range k).foldl f m).parts.length=m.parts.length+((List.range k).map g).sum
 | 0,_,m=>by simp
 | k+1,hk,m=>by
  rw[List.range_succ,List.foldl_append,List.map_append,List.sum_append]
  simp only[List.foldl_cons,List.foldl_nil,List.map_cons,List.map_nil,List.sum_cons,List.sum_nil]
  rw[h _ _ (by omega),fold_lenI h k (by omega)]
  omega
theorem cost_sum (l:List Signal):((List.range l.length).map fun i=>(match l[i]? with
  | some x=>if x.kind=0 then opsE x.on else 0
  | none=>0)).sum+((List.range l.length).map fun i=>(match l[i]? with
  | some x=>if x.kind=1 then 1+opsE x.on+opsE x.off else if x.kind=2 then 1+opsE x.on else 0
  | none=>0)).sum=(l.map costS).sum:=by
 induction l with
 | nil=>rfl
 | cons x l ih=>
  rw[List.length_cons,List.range_succ_eq_map]
  simp only[List.map_cons,List.map_map,List.sum_cons,List.getElem?_cons_zero,Function.comp_def,List.getElem?_cons_succ]
  have:costS x=(if x.kind=0 then opsE x.on else 0)+(if x.kind=1 then 1+opsE x.on+opsE x.off else if x.kind=2 then 1+opsE x.on else 0):=by
   unfold costS
   by_cases h0:x.kind=0
   ·simp[h0]
   ·simp[h0]
  rw[this]
  omega
theorem whole_len (c:Control):(wholeM c).parts.length=countM c:=by
 unfold wholeM
 rw[fold_len (g:=fun _=>0) (pil_len c),fold_len (sig_len c),fold_lenI (f:=gateM c) (n:=c.signals.length) (fun m i hi=>gate_len m hi) c.signals.length (Nat.le_refl _),machine_len,sum_const]
 have:=cost_sum c.signals
 unfold countM
 rw[<- this]
 unfold gCost sCost
 omega
def sideM (m:Mk) (a:Nat) (i:Nat):Mk:=(List.range i).foldl (fun m s=>(m.add 6 (letterT a++numT s) 0 (2*a+s)).feed (letterT a++numT s)) m
def portsM (m:Mk) (a:Nat) (i:Nat):Mk:=(List.range i).foldl (fun m s=>m.join ⟨86::letterT a,[if s=0 then 50 else 52]⟩ ⟨letterT a,[if s=0 then 50 else 52]⟩) m
theorem side_succ (m:Mk) (a i:Nat):sideM m a (i+1)=((sideM m a i).add 6 (letterT a++numT i) 0 (2*a+i)).feed (letterT a++numT i):=by unfold sideM;rw[List.range_succ,List.foldl_append];rfl
theorem ports_succ (m:Mk) (a i:Nat):portsM m a (i+1)=(portsM m a i).join ⟨86::letterT a,[if i=0 then 50 else 52]⟩ ⟨letterT a,[if i=0 then 50 else 52]⟩:=by unfold portsM;rw[List.range_succ,List.foldl_append];rfl
theorem valve_add (m:Mk) (kind:Int) (name:List UInt8) (delay line a:Int):(m.add kind name delay line).valve a={ m with parts:=m.parts++[⟨kind,name,delay,m.signal,none,a,line⟩] }:=by
 unfold Mk.valve Mk.add
 dsimp only
 rw[set_last]
 simp
theorem act_parts (m:Mk) (a:Nat):actM m a=portsM ((((sideM (m.add 1 (letterT a) 0 (-1)) a 2).add 2 (86::letterT a) 0 (-1)).valve a).feed (86::letterT a)) a 2:=by
 rw[ports_succ,ports_succ,side_succ,side_succ,num0,num1]
 rfl
def FewM (m:Mk) (n:Nat):Prop:=m.parts.length<=n∧m.joins.length<=3*n
theorem FewM.add {m:Mk}{n:Nat}(h:FewM m n) (kind:Int) (name:List UInt8) (delay line:Int):FewM (m.add kind name delay line) (n+1):=by
 obtain⟨h1,h2⟩:=h
 refine⟨by simp[Mk.add];omega,by show m.joins.length<=_;omega⟩
theorem FewM.join {m:Mk}{n:Nat}(h:FewM m n) (a b:Pin):FewM (m.join a b) (n+1):=by
 obtain⟨h1,h2⟩:=h
 have:=joinD_len a b
 refine⟨by show m.parts.length<=_;omega,by simp only[Mk.join,List.length_append];omega⟩
theorem FewM.feed {m:Mk}{n:Nat}(h:FewM m n) (name:List UInt8):FewM (m.feed name) (n+1):=h.join _ _
theorem FewM.valve {m:Mk}{n:Nat}(h:FewM m n) (a:Int):FewM (m.valve a) n:=⟨by rw[valve_parts];exact h.1,h.2⟩
theorem FewM.mono {m:Mk}{n k:Nat}(h:FewM m n) (hk:n<=k):FewM m k:=⟨by have:=h.1;omega,by have:=h.2;omega⟩
theorem few_side {m:Mk}{n:Nat}(h:FewM m n) (a:Nat):∀i,FewM (sideM m a i) (n+2*i)
 | 0=>h
 | i+1=>by
  rw[side_succ]
  exact ((few_side h a i).add _ _ _ _).feed _
theorem few_ports {m:Mk}{n:Nat}(h:FewM m n) (a:Nat):∀i,FewM (portsM m a i) (n+i)
 | 0=>h
 | i+1=>by
  rw[ports_succ]
  exact (few_ports h a i).join _ _
theorem side_row {c:Control}{b b4 b5 bg:Nat}{hp hj:Value}{m:Mk}{a i:Nat}{n:Nat}{Q:PostQ}(ha:a<26) (hi:i<2) (hf:FewM m n) (hn:n<=100000) :
  vcC ⟨Tryz.prog,none,98⟩ (loopC Tryz.f107 1) (hdE [(0,.ptr 70 b 0),(2,aI a),(3,.dat (.str (letterT a))),(19,aI c.actuators),(20,aI a)] [(28,aI i)]) (hcat (mkrH c b b4 b5 bg hp hj (sideM m a i)) [])
   (LoopQ Q fun E' H'=>∃g:Value×Value,True∧(∀p∈[(28,aI (i+1:Nat))],wk (E' p.1) p.2)∧(∀p∈[(0,A.ptr 70 b 0),(2,aI a),(3,.dat (.str (letterT a))),(19,aI c.actuators),(20,aI a)],E' p.1=p.2) ∧
    subN (hcat (mkrH c b b4 b5 bg g.1 g.2 (sideM m a (i+1))) []) H'):=by
 have h1:=few_side hf a i
 have hadd:=add37_s (c:=c) (b:=b) (b4:=b4) (b5:=b5) (bg:=bg) (hp:=hp) (hj:=hj) (m:=sideM m a i) 6 (letterT a++numT i) 0 (2*a+i) (by have:=h1.1;omega)
 have hfd:=fun hp'=>feed37_s (c:=c) (b:=b) (b4:=b4) (b5:=b5) (bg:=bg) (hp:=hp') (hj:=hj) (m:=(sideM m a i).add 6 (letterT a++numT i) 0 (2*a+i)) (letterT a++numT i) (by have:=(h1.add 6 (letterT a++numT i) 0 (2*a+i)).2;omega)
 have hnl:=numT_len i
 have hla:(letterT a).length=1:=rfl
 rw[side_succ]
 refine vc_part rfl ?_
 have hi':(i:Int)<2:=by omega
 simp[hi']
 refine (Itoa_fn i (by omega)).s ?_
 simp
 refine⟨by omega,by omega,by omega,(hadd.on0 rfl).mono ?_⟩
 rintro _ _ ⟨hp1,rfl,rfl⟩
 simp
 refine ((hfd hp1).on0 rfl).mono ?_
 rintro _ _ ⟨rfl,hj1,rfl⟩
 simp
 omega
abbrev pkv (c:Control) (b a:Nat):List (Nat×A):=[(0,.ptr 70 b 0),(2,aI a),(3,.dat (.str (letterT a))),(19,aI c.actuators),(20,aI a),(57,.record [.str [50],.str [52]])]
theorem ports_row {c:Control}{b b4 b5 bg:Nat}{hp hj:Value}{m:Mk}{a i:Nat}{n:Nat}{Q:PostQ}(hi:i<2) (hf:FewM m n) (hn:n<=100000) :
  vcC ⟨Tryz.prog,none,98⟩ (loopC Tryz.f107 2) (hdE (pkv c b a) [(58,aI i)]) (hcat (mkrH c b b4 b5 bg hp hj (portsM m a i)) [])
   (LoopQ Q fun E' H'=>∃g:Value×Value,True∧(∀p∈[(58,aI (i+1:Nat))],wk (E' p.1) p.2)∧(∀p∈pkv c b a,E' p.1=p.2)∧subN (hcat (mkrH c b b4 b5 bg g.1 g.2 (portsM m a (i+1))) []) H'):=by
 have h1:=few_ports hf a i
 have hjn:=join37_s (c:=c) (b:=b) (b4:=b4) (b5:=b5) (bg:=bg) (hp:=hp) (hj:=hj) (m:=portsM m a i) ⟨86::letterT a,[if i=0 then 50 else 52]⟩ ⟨letterT a,[if i=0 then 50 else 52]⟩ (by have:=h1.2;omega)
 have hla:(letterT a).length=1:=rfl
 rw[ports_succ]
 refine vc_part rfl ?_
 have hi':(i:Int)<2:=by omega
 obtain rfl | rfl:i=0∨i=1:=by omega
 all_goals
  simp at hjn
  simp[hla]
  refine (hjn.on0 rfl).mono ?_
  rintro _ _ ⟨rfl,hj1,rfl⟩
  simp
theorem act_row {c:Control}{b b4 b5 bg:Nat}{hp hj:Value}{m:Mk}{a:Nat}{n:Nat}{Q:PostQ}(hc:Sm c) (ha:(a:Int)<c.actuators) (hac:c.actuators<=12) (hf:FewM m n) (hn:n<=50000) :
  vcC ⟨Tryz.prog,none,98⟩ (loopC Tryz.f107 0) (hdE [(0,.ptr 70 b 0),(19,aI c.actuators)] [(20,aI a)]) (hcat (mkrH c b b4 b5 bg hp hj m) [])
   (LoopQ Q fun E' H'=>∃g:Value×Value,True∧(∀p∈[(20,aI (a+1:Nat))],wk (E' p.1) p.2)∧(∀p∈[(0,A.ptr 70 b 0),(19,aI c.actuators)],E' p.1=p.2) ∧
    subN (hcat (mkrH c b b4 b5 bg g.1 g.2 (actM m a)) []) H'):=by
 have hla:(letterT a).length=1:=rfl
 have hadd:=add37_s (c:=c) (b:=b) (b4:=b4) (b5:=b5) (bg:=bg) (hp:=hp) (hj:=hj) (m:=m) 1 (letterT a) 0 (-1) (by have:=hf.1;omega)
 refine vc_part rfl ?_
 simp[ha]
 refine (letter_fn a (by omega)).s ?_
 simp
 refine (hadd.on0 rfl).mono ?_
 rintro _ _ ⟨hp1,rfl,rfl⟩
 simp
 have hf1:FewM (m.add 1 (letterT a) 0 (-1)) (n+1):=hf.add _ _ _ _
 obtain⟨m1,hm1⟩:∃m1,m.add 1 (letterT a) 0 (-1)=m1:=⟨_,rfl⟩
 rw[hm1]at hf1
 have hs0:sideM m1 a 0=m1:=rfl
 have hact:actM m a=portsM ((((sideM m1 a 2).add 2 (86::letterT a) 0 (-1)).valve a).feed (86::letterT a)) a 2:=by rw[<- hm1];exact act_parts m a
 have hs2:=few_side hf1 a 2
 rw[hm1,hact]
 refine V.forI (σ:=Value×Value) (kv:=[(0,.ptr 70 b 0),(2,aI a),(3,.dat (.str (letterT a))),(19,aI c.actuators),(20,aI a)]) 2 [0,2,3,19,20] (by simp) (fun i _=>[(28,aI i)]) (fun i g=>mkrH c b b4 b5 bg g.1 g.2 (sideM m1 a i)) (fun _ _=>True) (hp1,hj) trivial (by simp) ⟨by simp;exact rfl,by simp[hs0]⟩ ?_ ?_
 ·rintro i ⟨hp2,hj2⟩ hi -
  exact vc_of_part rfl (side_row (by omega) hi hf1 (by omega))
 ·rintro⟨hp2,hj2⟩ -
  generalize sideM m1 a 2=m2 at *
  have hadd2:=add37_s (c:=c) (b:=b) (b4:=b4) (b5:=b5) (bg:=bg) (hp:=hp2) (hj:=hj2) (m:=m2) 2 (86::letterT a) 0 (-1) (by have:=hs2.1;omega)
  have hf3:FewM ((m2.add 2 (86::letterT a) 0 (-1)).valve a) (n+6):=(hs2.add 2 (86::letterT a) 0 (-1)).valve a
  have hv:=valve_add m2 2 (86::letterT a) 0 (-1) a
  obtain⟨m3,hm3⟩:∃m3,(m2.add 2 (86::letterT a) 0 (-1)).valve a=m3:=⟨_,rfl⟩
  rw[hm3]at hf3 hv ⊢
  have hfd:=fun hp'=>feed37_s (c:=c) (b:=b) (b4:=b4) (b5:=b5) (bg:=bg) (hp:=hp') (hj:=hj2) (m:=m3) (86::letterT a) (by have:=hf3.2;omega)
  have hf4:=hf3.feed (86::letterT a)
  simp[hla]
  refine (hadd2.on0 rfl).mono ?_
  rintro _ _ ⟨hp3,rfl,rfl⟩
  simp[Mk.add,hla]
  refine ((hfd hp3).on0 (by simp[hv,argA])).mono ?_
  rintro _ _ ⟨rfl,hj3,rfl⟩
  simp
  have hp0:portsM (m3.feed (86::letterT a)) a 0=m3.feed (86::letterT a):=rfl
  refine V.forI (σ:=Value×Value) (kv:=pkv c b a) 2 [0,2,3,19,20,57] (by simp) (fun i _=>[(58,aI i)]) (fun i g=>mkrH c b b4 b5 bg g.1 g.2 (portsM (m3.feed (86::letterT a)) a i)) (fun _ _=>True) (hp3,hj3) trivial (by simp) ⟨by simp;exact rfl,by simp[hp0]⟩ ?_ ?_
  ·rintro i ⟨hp4,hj4⟩ hi -
   exact vc_of_part rfl (ports_row hi hf4 (by omega))
  ·rintro⟨hp4,hj4⟩ -
   simp
   omega
theorem in_row {c:Control}{b b4 b5 bg:Nat}{hp hj:Value}{m:Mk}{i:Nat}{n:Nat}{Q:PostQ}(hc:Sm c) (hi:i<c.inputs.length) (hf:FewM m n) (hn:n<=100000) :
  vcC ⟨Tryz.prog,none,98⟩ (loopC Tryz.f107 3) (hdE [(0,.ptr 70 b 0),(76,aTs c.inputs),(77,aI c.inputs.length)] [(78,aI i)]) (hcat (mkrH c b b4 b5 bg hp hj m) [])
   (LoopQ Q fun E' H'=>∃g:Value×Value,True∧(∀p∈[(78,aI (i+1:Nat))],wk (E' p.1) p.2)∧(∀p∈[(0,A.ptr 70 b 0),(76,aTs c.inputs),(77,aI c.inputs.length)],E' p.1=p.2) ∧
    subN (hcat (mkrH c b b4 b5 bg g.1 g.2 (inM c m i)) []) H'):=by
 obtain⟨h1,h2,h3⟩:=hc
 obtain⟨s,hs⟩:∃s,c.inputs[i]=s:=⟨_,rfl⟩
 have hso:c.inputs[i]?=some s:=by rw[List.getElem?_eq_getElem hi,hs]
 have hsd:c.inputs.getD i []=s:=by rw[List.getD_eq_getElem?_getD,hso];rfl
 have hadd:=add37_s (c:=c) (b:=b) (b4:=b4) (b5:=b5) (bg:=bg) (hp:=hp) (hj:=hj) (m:=m) 7 s 0 (2*c.actuators+i) (by have:=hf.1;omega)
 have hfd:=fun hp'=>feed37_s (c:=c) (b:=b) (b4:=b4) (b5:=b5) (bg:=bg) (hp:=hp') (hj:=hj) (m:=m.add 7 s 0 (2*c.actuators+i)) s (by have:=(hf.add 7 s 0 (2*c.actuators+i)).2;omega)
 have hin:inM c m i=(m.add 7 s 0 (2*c.actuators+i)).feed s:=by unfold inM;rw[hsd]
 rw[hin]
 refine vc_part rfl ?_
 simp[hi,hs,hso]
 refine⟨by omega,by omega,(hadd.on0 rfl).mono ?_⟩
 rintro _ _ ⟨hp1,rfl,rfl⟩
 simp
 refine ((hfd hp1).on0 rfl).mono ?_
 rintro _ _ ⟨rfl,hj1,rfl⟩
 simp
 omega
theorem few_act {m:Mk}{n:Nat}(h:FewM m n) (a:Nat):FewM (actM m a) (n+9):=by
 rw[act_parts]
 exact few_ports ((((few_side (h.add 1 (letterT a) 0 (-1)) a 2).add _ _ _ _).valve _).feed _) a 2
theorem few_in {c:Control}{m:Mk}{n:Nat}(h:FewM m n) (i:Nat):FewM (inM c m i) (n+2):=(h.add _ _ _ _).feed _
theorem few_fold {f:Mk->Nat->Mk}{k:Nat}(hf:∀m n i,FewM m n->FewM (f m i) (n+k)) {m:Mk}{n:Nat}(h:FewM m n):∀i,FewM ((List.range i).foldl f m) (n+k*i)
 | 0=>h
 | i+1=>by
  rw[List.range_succ,List.foldl_append]
  exact (hf _ _ i (few_fold hf h i)).mono (by rw[Nat.mul_succ];omega)
def mk0:Mk:=⟨[],[],0,0,[]⟩
theorem fold_succ {α:Type}(f:α->Nat->α) (m:α) (i:Nat):(List.range (i+1)).foldl f m=f ((List.range i).foldl f m) i:=by rw[List.range_succ,List.foldl_append];rfl
theorem few_machine (c:Control):FewM (machineM c) (1+9*c.actuators.toNat+2*c.inputs.length):=
 few_fold (fun m n i h=>few_in h i) (few_fold (fun m n i h=>few_act h i) (n:=1) ⟨by simp[Mk.add],by simp[Mk.add]⟩ _) _
theorem machine37_s {c:Control}(hc:Sm c) (h0:0<=c.actuators∧c.actuators<=12) (hin:c.inputs.length<=1000) {b b4 b5 bg:Nat}{hp hj:Value} :
  CallS Tryz.prog 107 [.ptr 70 b 0] (mkrH c b b4 b5 bg hp hj mk0) fun r H'=>r=.tuple []∧∃hp' hj',H'=mkrH c b b4 b5 bg hp' hj' (machineM c):=by
 obtain⟨mb,hmb⟩:∃mb,(⟨[],[],0,-1,[]⟩:Mk).add 0 [83] 0 (-1)=mb:=⟨_,rfl⟩
 have hfb:FewM mb 1:=by rw[<- hmb];exact⟨by simp[Mk.add],by simp[Mk.add]⟩
 have hfa:∀i,FewM ((List.range i).foldl actM mb) (1+9*i):=few_fold (fun m n i h=>few_act h i) hfb
 have hma:machineM c=(List.range c.inputs.length).foldl (inM c) ((List.range c.actuators.toNat).foldl actM mb):=by rw[<- hmb];rfl
 have hfi:∀i,FewM ((List.range i).foldl (inM c) ((List.range c.actuators.toNat).foldl actM mb)) (1+9*c.actuators.toNat+2*i):=few_fold (fun m n i h=>few_in h i) (hfa _)
 have hadd:=add37_s (c:=c) (b:=b) (b4:=b4) (b5:=b5) (bg:=bg) (hp:=hp) (hj:=hj) (m:=⟨[],[],0,-1,[]⟩) 0 [83] 0 (-1) (by simp)
 rw[hmb]at hadd
 have hz1:(List.range 0).foldl actM mb=mb:=rfl
 have hz2:(List.range 0).foldl (inM c) ((List.range c.actuators.toNat).foldl actM mb)=(List.range c.actuators.toNat).foldl actM mb:=rfl
 have hcc:=hc
 obtain⟨h1,h2,h3⟩:=hc
 refine callS_of Tryz.func107 rfl Tryz.ntmps107 (rs:=[]) rfl (by kernel_rfl) (by simp) (by kernel_rfl) ?_
 simp[mk0]
 simp at hadd
 refine (hadd.on0 rfl).mono ?_
 rintro _ _ ⟨hp1,rfl,rfl⟩
 simp
 refine V.forI (σ:=Value×Value) (kv:=[(0,.ptr 70 b 0),(19,aI c.actuators)]) c.actuators.toNat [0,19] (by simp) (fun i _=>[(20,aI i)]) (fun i g=>mkrH c b b4 b5 bg g.1 g.2 ((List.range i).foldl actM mb)) (fun _ _=>True) (hp1,hj) trivial (by simp) ⟨by simp;exact rfl,by simp[hz1]⟩ ?_ ?_
 ·rintro i ⟨hp2,hj2⟩ hi -
  rw[fold_succ]
  exact vc_of_part rfl (act_row hcc (by omega) (by omega) (hfa i) (by omega))
 ·rintro⟨hp2,hj2⟩ -
  have hmx:max c.actuators 0=c.actuators:=by omega
  simp[hmx]
  refine V.forI (σ:=Value×Value) (kv:=[(0,.ptr 70 b 0),(76,aTs c.inputs),(77,aI c.inputs.length)]) c.inputs.length [0,76,77] (by simp) (fun i _=>[(78,aI i)]) (fun i g=>mkrH c b b4 b5 bg g.1 g.2 ((List.range i).foldl (inM c) ((List.range c.actuators.toNat).foldl actM mb))) (fun _ _=>True) (hp2,hj2) trivial (by simp) ⟨by simp;exact rfl,by simp[hz2]⟩ ?_ ?_
  ·rintro i ⟨hp3,hj3⟩ hi -
   rw[fold_succ]
   exact vc_of_part rfl (in_row hcc hi (hfi i) (by omega))
  ·rintro⟨hp3,hj3⟩ -
   simp
   exact⟨hp3,hj3,by rw[hma];simp⟩
end Go.Proofs.YtafamcbdaeppoaaGreatDoor
