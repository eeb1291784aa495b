/- Texts joined by a program: Qg,Qm,Qi,Ito,Qj,Qk. -/
import Derived.Lib.ItoaNum
import Derived.Test.YtafamcbdaeppoaaGreatDoorE21
import Derived.Test.YtafamcbdaeppoaaGreatDoorE13
import Derived.Test.YtafamcbdaeppoaaGreatDoorE11
set_option linter.unusedSimpArgs false
set_option linter.unusedVariables false
set_option maxHeartbeats 8000000
set_option maxRecDepth 10000
namespace Go.Proofs.YtafamcbdaeppoaaGreatDoor
def Pln.fedX (p:Pln) (x:PortZ):List Expr:=(if kindOf p.ps x.1.toNat=0 then [⟨0,1,[]⟩] else [])++(giftsZ p.ps p.drives x).map p.term
theorem Pln.fedX_len (p:Pln) (x:PortZ):(p.fedX x).length<=3:=by
 unfold Pln.fedX
 rw[List.length_append,List.length_map]
 have h1:(giftsZ p.ps p.drives x).length<=2:=by
  unfold giftsZ
  split
  ·simp
  ·exact Nat.le_trans (gvN_len _ _ _ _) (manyK_le _)
 split<;>simp<;>omega
abbrev fdE (v:Value) (l:List Expr):Nat×Ent:=(55,.seq v 61 3 (l.map rE))
abbrev fdR (p:Pln) (s:Value×List Expr) (x:PortZ) (o:Except Unit (Value×List Expr)):Prop:=∃v,o=.ok (v,s.2++p.fedX x)
theorem fd_fold (p:Pln):∀(l:List PortZ) (s:Value×List Expr) (o:Except Unit (Value×List Expr)),FoldR (fdR p) l s o->∃v,o=.ok (v,s.2++p.fedL l)
 | [],s,o,h=>⟨s.1,by rw[h];simp[Pln.fedL]⟩
 | x::l,s,o,h=>by
  obtain⟨o1,⟨v,rfl⟩,h2⟩:=h
  obtain⟨w,hw⟩:=fd_fold p l _ o h2
  refine⟨w,?_⟩
  rw[hw]
  simp[Pln.fedL,Pln.fedX]
theorem sat_last {x:X}{hh:Value}{e sz:Nat}{rows:List (List A)}{r r':List A}(hl:r'.length=r.length) (hd:∀vs,Ds x r vs->Ds x r' vs) (hs:Ent.sat x (.seq hh e sz (rows++[r]))):Ent.sat x (.seq hh e sz (rows++[r'])):=by
 have:=seq_swap (i:=rows.length) (rs:=rows++[r]) (r:=r) (r':=r') (by simp) hl hd hs
 simpa using this
theorem fed_s {s:PlS}{p:Pln}(h:s.At p) {i:Nat}(hi:i<p.nets.length) :
  CallS Tryz.prog 206 [.ptr 170 s.b 0,aI i] s.hp fun r H'=>r=aE (p.fed i)∧H'=s.hp:=by
 have hl:s.ns[i]?=some p.nets[i]:=by rw[h.ns];exact List.getElem?_eq_getElem hi
 have hpf:p.fed i=sevE 4 (p.fedL p.nets[i]):=by
  unfold Pln.fed
  rw[List.getD_eq_getElem?_getD,List.getElem?_eq_getElem hi]
  rfl
 have hnet:=h.ok.net _ (List.mem_of_getElem? hl)
 rw[hpf]
 generalize p.nets[i]=l at hl hnet ⊢
 refine CallS.dropP (callS_of Tryz.func206 rfl Tryz.ntmps206 (rs:=[.cell 4 61]) rfl (by kernel_rfl) (by simp) (by kernel_rfl) (K:=fun r H'=>r=aE (sevE 4 (p.fedL l))∧subP s.hp H') ?_) (fun _ _ ⟨h1,h2⟩=>⟨_,h2,h1,rfl⟩)
 simp
 intro b2 b4 b5
 have hg:=(gifts_s (s:=s) i).frameL (H1:=[(5,.box b5 [.nils]),(4,.box b4 [aI 0,aI 0,.nils]),(2,.box b2 [.ptr 170 s.b 0])])
 refine hg.mono ?_
 rintro r H' ⟨_,⟨bg,rfl,rfl⟩,rfl⟩
 simp
 refine V.inv (H':=fdE (.slice none 0 0) []::(5,.box b5 [.own 55 (.slice none 0 0)])::(4,.box b4 [aI 0,aI 0,.nils])::(2,.box b2 [.ptr 170 s.b 0])::gfB s bg) (fun x H0 hi=>Inv.nil (Inv.swap (g:=5) (H:=(5,.box b5 [.nils])::(4,.box b4 [aI 0,aI 0,.nils])::(2,.box b2 [.ptr 170 s.b 0])::gfB s bg) (e:=.box b5 [.nils]) (e':=.box b5 [.own 55 (.slice none 0 0)]) rfl (box_sat (Ds_c D_nilo Ds_i)) (fun b hb=>hb) hi) ⟨rfl,rfl⟩) ?_
 refine V.rangeFoldB (σ:=Value×List Expr) (δ:=Unit) (items:=l) (enc:=encGs s.ps p.drives) (B:=gfB s bg) 100 (by simp) trivial (gifts_iter h.ok h.dr (by have:=h.dl;omega) hl bg)
  (fun q=>[fdE q.1 q.2,(5,.box b5 [.own 55 q.1]),(4,.box b4 [aI 0,aI 0,.nils]),(2,.box b2 [.ptr 170 s.b 0])]) (fun _=>[]) (fun _=>none) (fun rest q=>q.2.length+3*rest.length<=1344) (fdR p) (.slice none 0 0,[]) (by have:=hnet.1;simp;omega) ⟨_,List.Sublist.refl _,List.perm_append_comm (l₁:=[fdE (.slice none 0 0) [],(5,.box b5 [.own 55 (.slice none 0 0)]),(4,.box b4 [aI 0,aI 0,.nils]),(2,.box b2 [.ptr 170 s.b 0])])⟩ (by simp[encGs]) ?_ ?_
 ·rintro lp ⟨v,Ls⟩ x rest hL hx
  simp only[List.length_cons]at hL
  have hx3:=p.fedX_len x
  obtain⟨j,q,hj,hq,hq1,hq2⟩:=mem_allN.1 (hnet.2.2 _ hx)
  obtain⟨x1,x2⟩:=x
  simp only at hq1
  subst hq1
  rw[h.ps]at hj hq
  have hk:=h.kind hj
  simp[encGs]
  intro b6
  refine (hk.mid [(6,_),(175,_)] [fdE v Ls,(5,_),(4,_),(2,_)]).mono ?_
  rintro r H' ⟨rfl,rfl⟩
  have hxa:=hnet.2.2 _ hx
  have hgp:=fun G hG t ht=>gift_port h.ok (d:=p.drives) hxa (g:=G) hG (t:=t) ht
  have hterm:∀G∈giftsZ s.ps p.drives ((j:Int),x2),CallS Tryz.prog 294 [.ptr 170 s.b 0,.record (encGf G)] s.hp fun r H'=>r=aE (p.term G)∧H'=s.hp:=fun G hG=>by
   have hm:=given_mem (gifts_mem hG)
   simp only[Int.toNat_natCast]at hm
   exact term_s h (by rw[hm.1];exact hj) (passK_srcl _ _ _ hm.2.2) (fun t ht=>by rw[<- h.ps];exact hgp G hG t ht)
  have hgl:(giftsZ s.ps p.drives ((j:Int),x2)).length<=2:=by
   unfold giftsZ
   split
   ·simp
   ·exact Nat.le_trans (gvN_len _ _ _ _) (manyK_le _)
  have hfx:p.fedX ((j:Int),x2)=(if kindOf p.ps j=0 then [⟨0,1,[]⟩] else [])++(giftsZ s.ps p.drives ((j:Int),x2)).map p.term:=by
   unfold Pln.fedX
   rw[h.ps]
   rfl
  simp only[fdR,hfx]
  generalize giftsZ s.ps p.drives ((j:Int),x2)=GS at *
  by_cases hk0:kindOf p.ps j=0
  ·rw[if_pos hk0]
   simp[hk0]
   refine V.drawXR (fun t=>none) (by kernel_rfl) (by kernel_rfl) (by kernel_rfl) (by simp) ?_
   simp
   intro u
   obtain⟨Bs,hBs⟩:∃Bs,Ls++[⟨0,1,[]⟩]=Bs:=⟨_,rfl⟩
   have hBl:Bs.length=Ls.length+1:=by rw[<- hBs];simp
   have hBr:Bs.map rE=Ls.map rE++[rE ⟨0,1,[]⟩]:=by rw[<- hBs,List.map_append];rfl
   refine⟨by omega,by omega,by kernel_rfl,?_⟩
   refine V.inv (H':=(6,.box b6 ((encPo ((j:Int),x2)).map A.dat))::(gfB s bg++[fdE u Bs,(5,.box b5 [.own 55 u]),(4,.box b4 [aI 0,aI 0,.nils]),(2,.box b2 [.ptr 170 s.b 0])])) (fun x H0 hi=>Inv.swap (g:=55) (e:=.seq u 61 3 (Ls.map rE++[[aI 0,aI 1,.nils]])) (e':=.seq u 61 3 (Bs.map rE)) (H:=(6,.box b6 ((encPo ((j:Int),x2)).map A.dat))::(gfB s bg++[(55,.seq u 61 3 (Ls.map rE++[[aI 0,aI 1,.nils]])),(5,.box b5 [.own 55 u]),(4,.box b4 [aI 0,aI 0,.nils]),(2,.box b2 [.ptr 170 s.b 0])])) rfl (fun hs=>by
    rw[hBr]
    exact sat_last (r:=[aI 0,aI 1,.nils]) rfl (Ds_c D_i (Ds_c D_i (Ds_c D_nild Ds_i))) hs) (fun b hb=>hb) hi) ?_
   rw[show Ls++([(⟨0,1,[]⟩:Expr)]++List.map p.term GS)=Bs++List.map p.term GS by rw[<- hBs];simp]
   refine V.forI (σ:=Value) GS.length [2,4,5,26,27] (by simp;exact rfl) (fun n _=>[(28,aI n)]) (fun n w=>gfB s bg++[fdE w (Bs++(GS.take n).map p.term),(5,.box b5 [.own 55 w]),(4,.box b4 [aI 0,aI 0,.nils]),(2,.box b2 [.ptr 170 s.b 0])]) (fun _ _=>True) u trivial (by simp) ⟨by simp;exact rfl,by simp⟩ ?_ ?_
   ·rintro n w hn -
    obtain⟨G,hG⟩:∃G,GS[n]=G:=⟨_,rfl⟩
    have hGo:GS[n]?=some G:=by rw[List.getElem?_eq_getElem hn,hG]
    have htm:=hterm G (List.mem_of_getElem? hGo)
    have e1:Bs++(GS.take (n+1)).map p.term=(Bs++(GS.take n).map p.term)++[p.term G]:=by
     rw[List.take_add_one,hGo]
     simp
    have hln:(Bs++(GS.take n).map p.term).length<=1350:=by
     rw[List.length_append,List.length_map,List.length_take]
     omega
    rw[e1]
    generalize p.term G=tx at *
    generalize Bs++(GS.take n).map p.term=W at *
    simp[hn,hG,hGo]
    intro b9
    refine V.drawXR (fun t=>if t=35 then some (.ro (aE tx)) else none) (by kernel_rfl) (by kernel_rfl) (by kernel_rfl) (by simp) ?_
    simp[hn,hG,hGo]
    exact⟨htm,by omega,by omega,by kernel_rfl,by omega,by omega⟩
   ·rintro w -
    rw[List.take_length]
    simp
    refine⟨.ok (w,Bs++GS.map p.term),⟨w,rfl⟩,?_,?_⟩
    ·rintro a b h
     cases h
     rw[List.length_append,List.length_map]
     omega
    ·exact (((((((((subP.refl []).c _).cc _).cc _).cc _).cc _).cc _).cc _).cc _).cc _
  ·rw[if_neg hk0]
   simp[hk0]
   refine V.forI (σ:=Value) GS.length [2,4,5,26,27] (by simp;exact rfl) (fun n _=>[(28,aI n)]) (fun n w=>gfB s bg++[fdE w (Ls++(GS.take n).map p.term),(5,.box b5 [.own 55 w]),(4,.box b4 [aI 0,aI 0,.nils]),(2,.box b2 [.ptr 170 s.b 0])]) (fun _ _=>True) v trivial (by simp) ⟨by simp;exact rfl,by simp⟩ ?_ ?_
   ·rintro n w hn -
    obtain⟨G,hG⟩:∃G,GS[n]=G:=⟨_,rfl⟩
    have hGo:GS[n]?=some G:=by rw[List.getElem?_eq_getElem hn,hG]
    have htm:=hterm G (List.mem_of_getElem? hGo)
    have e1:Ls++(GS.take (n+1)).map p.term=(Ls++(GS.take n).map p.term)++[p.term G]:=by
     rw[List.take_add_one,hGo]
     simp
    have hln:(Ls++(GS.take n).map p.term).length<=1350:=by
     rw[List.length_append,List.length_map,List.length_take]
     omega
    rw[e1]
    generalize p.term G=tx at *
    generalize Ls++(GS.take n).map p.term=W at *
    simp[hn,hG,hGo]
    intro b9
    refine V.drawXR (fun t=>if t=35 then some (.ro (aE tx)) else none) (by kernel_rfl) (by kernel_rfl) (by kernel_rfl) (by simp) ?_
    simp[hn,hG,hGo]
    exact⟨htm,by omega,by omega,by kernel_rfl,by omega,by omega⟩
   ·rintro w -
    rw[List.take_length]
    simp
    refine⟨.ok (w,Ls++GS.map p.term),⟨w,rfl⟩,?_,?_⟩
    ·rintro a b h
     cases h
     rw[List.length_append,List.length_map]
     omega
    ·exact (((((((((subP.refl []).c _).cc _).cc _).cc _).cc _).cc _).cc _).cc _).cc _
 ·intro o ho
  obtain⟨v,rfl⟩:=fd_fold p l _ o ho
  have hfl:(p.fedL l).length<=4294967296:=by
   have:∀m:List PortZ,(p.fedL m).length<=3*m.length:=by
    intro m
    induction m with
    | nil=>simp[Pln.fedL]
    | cons x m ih=>
     have h2:=p.fedX_len x
     have e:p.fedL (x::m)=p.fedX x++p.fedL m:=by simp[Pln.fedL,Pln.fedX]
     rw[e,List.length_append,List.length_cons]
     omega
   have:=this l
   have:=hnet.1
   omega
  have h4:=several_fn 4 (p.fedL l) hfl
  obtain⟨z,hz⟩:∃z,sevE 4 (p.fedL l)=z:=⟨_,rfl⟩
  rw[hz]at h4 ⊢
  simp
  refine CallS.perm (H:=fdE v (p.fedL l)::([(175,.box bg [.ptr 170 s.b 0])]++s.hp++[(5,.box b5 [.own 55 v]),(4,.box b4 [aI 0,aI 0,.nils]),(2,.box b2 [.ptr 170 s.b 0])])) ?_ (List.perm_middle (l₁:=[(175,_),_,_,_])).symm
  refine h4.give (Hc:=[fdE v (p.fedL l)]) (Hr:=[(175,.box bg [.ptr 170 s.b 0])]++s.hp++[(5,.box b5 [.own 55 v]),(4,.box b4 [aI 0,aI 0,.nils]),(2,.box b2 [.ptr 170 s.b 0])]) rfl (by simp[frzs,frz,fdE]) ?_
  simp
  exact (((((((subP.refl []).c _).c _).c _).cc _).cc _).cc _).c _
structure Pln.B (p:Pln):Prop where
 pl:p.ps.length<=64
 dl:p.drives.length<=64
 ol:p.order.length<=448
 net:∀l∈p.nets,l.length<=448
 names:∀x∈p.ps,x.name.length<=1000
 delay:∀x∈p.ps,0<=x.delay∧x.delay<=1000000
 small:∀n∈p.order,n<=448
theorem okE_mk {op n:Int}{l:List Expr}(ho:0<=op∧op<=10) (hn:0<=n∧n<=1000000) (hl:l.length<=1000000) (h:∀a∈l,OkE a):OkE ⟨op,n,l⟩:=
 ⟨_,by simp only;omega,(inR_i64 _).2 (by simp only;omega),(inR_i64 _).2 (by simp only;omega),h⟩
theorem okE_nul:OkE nulE:=okE_mk (by simp) (by simp) (by simp) (by simp)
theorem okE_sev {op:Int}(ho:0<=op∧op<=10) {l:List Expr}(hl:l.length<=1000000) (h:∀a∈l,OkE a):OkE (sevE op l):=by
 unfold sevE
 split
 ·exact okE_nul
 ·exact h _ (by simp)
 ·exact okE_mk ho (by simp) hl h
theorem okE_var {n:Nat}(hn:n<=1000000):OkE (varE (n:Int)):=okE_mk (by simp) (by omega) (by simp) (by simp)
theorem okE_not {x:Expr}(h:OkE x):OkE (notE x):=okE_mk (by simp) (by simp) (by simp) (by simpa using h)
theorem Pln.B.bl {p:Pln}(h:p.B):p.butt.length<=64:=Nat.le_trans (buttN_len _ _) h.pl
theorem Pln.B.vl {p:Pln}(h:p.B):p.valv.length<=64:=Nat.le_trans (valvN_len _ _ _) h.pl
theorem Pln.B.fl {p:Pln}(h:p.B):p.first<=192:=by
 have:=h.bl
 have:=h.dl
 unfold Pln.first
 omega
theorem gate_cases (p:Pln) (i:Nat) (t:List UInt8):p.gate i t=nulE∨∃k,k<p.order.length∧p.gate i t=varE (p.first+k:Nat):=by
 rw[Pln.gate_eq]
 unfold Pln.gateW
 split
 ·rename_i k hk
  exact .inr ⟨k,(List.findIdx?_eq_some_iff_getElem.1 hk).1,rfl⟩
 ·exact .inl rfl
theorem Pln.B.gate {p:Pln}(h:p.B) (i:Nat) (t:List UInt8):OkE (p.gate i t)∧0<=(p.gate i t).index∧(p.gate i t).index<=1000:=by
 have:=h.fl
 have:=h.ol
 rcases gate_cases p i t with e | ⟨k,hk,e⟩
 ·rw[e]
  exact⟨okE_nul,by simp[nulE],by simp[nulE]⟩
 ·rw[e]
  exact⟨okE_var (by omega),by simp only[varE];omega,by simp only[varE];omega⟩
theorem Pln.B.line {p:Pln}(h:p.B) (i:Nat):(p.line i).getD 0<=2000:=by
 have h1:=h.fl
 have h2:=h.ol
 have h3:=h.dl
 have h4:=h.bl
 have h5:=h.vl
 unfold Pln.line
 split
 ·simp
 ·rename_i x hx
  have a1:p.butt.idxOf i<=p.butt.length:=List.idxOf_le_length
  have a2:p.valv.idxOf i<=p.valv.length:=List.idxOf_le_length
  have a3:(p.drives.findIdx fun d=>(p.ps.getD d.1 x).name==x.name.dropLast)<=p.drives.length:=List.findIdx_le_length
  split
  ·simp only[Option.getD_some]
   omega
  ·split
   ·simp only[Option.getD_some]
    split<;>omega
   ·split
    ·simp only[Option.getD_some]
     omega
    ·simp
theorem Pln.B.term {p:Pln}(h:p.B) {g:Gift}(hs:g.pass.src.length<=2):OkE (p.term g):=by
 have hl:=h.line g.part
 have hv:OkE (varE ((p.line g.part).getD 0:Nat)):=okE_var (by omega)
 have hm:∀a∈g.pass.src.map (p.gate g.part),OkE a:=fun a ha=>by
  obtain⟨t,_,rfl⟩:=List.mem_map.1 ha
  exact (h.gate _ _).1
 unfold Pln.term
 refine okE_sev (by simp) ?_ ?_
 ·rw[List.length_append]
  have h1:(if 1<manyK (kindOf p.ps g.part) then [if g.pos=0 then notE (varE ((p.line g.part).getD 0:Nat)) else varE ((p.line g.part).getD 0:Nat)] else []).length<=1:=by split<;>simp
  have h2:(if g.pass.all=true then g.pass.src.map (p.gate g.part) else [sevE 4 (g.pass.src.map (p.gate g.part))]).length<=2:=by
   split
   ·rw[List.length_map];exact hs
   ·simp
  omega
 ·intro a ha
  rcases List.mem_append.1 ha with ha | ha
  ·split at ha
   ·simp only[List.mem_singleton]at ha
    subst ha
    split
    ·exact okE_not hv
    ·exact hv
   ·simp at ha
  ·split at ha
   ·exact hm a ha
   ·simp only[List.mem_singleton]at ha
    subst ha
    exact okE_sev (by simp) (by rw[List.length_map];omega) hm
theorem gifts_src {ps:List Prt}{d:List Drv}{x:PortZ}{g:Gift}(h:g∈giftsZ ps d x):g.pass.src.length<=2:=passK_srcl _ _ _ (given_mem (gifts_mem h)).2.2
theorem fedL_len (p:Pln):∀l:List PortZ,(p.fedL l).length<=3*l.length
 | []=>by simp[Pln.fedL]
 | x::l=>by
  have h1:=fedL_len p l
  have h2:=p.fedX_len x
  have e:p.fedL (x::l)=p.fedX x++p.fedL l:=by simp[Pln.fedL,Pln.fedX]
  rw[e,List.length_append,List.length_cons]
  omega
theorem Pln.B.fed {p:Pln}(h:p.B) (i:Nat):OkE (p.fed i):=by
 unfold Pln.fed
 have hl:(p.nets.getD i []).length<=448:=by
  rw[List.getD_eq_getElem?_getD]
  cases e:p.nets[i]? with
  | none=>simp
  | some l=>exact h.net l (List.mem_of_getElem? e)
 have h1:=fedL_len p (p.nets.getD i [])
 refine okE_sev (by simp) (by omega) fun a ha=>?_
 unfold Pln.fedL at ha
 rw[List.mem_flatMap]at ha
 obtain⟨x,_,ha⟩:=ha
 rcases List.mem_append.1 ha with ha | ha
 ·split at ha
  ·simp only[List.mem_singleton]at ha
   subst ha
   exact okE_mk (by simp) (by simp) (by simp) (by simp)
  ·simp at ha
 ·obtain⟨g,hg,rfl⟩:=List.mem_map.1 ha
  exact h.term (gifts_src hg)
theorem okS_mk {nm:List UInt8}{k:Int}{x y:Expr}{d:Int}{b:Bool}(hn:nm.length<=1000000) (hk:0<=k∧k<=10) (hx:OkE x) (hy:OkE y) (hd:0<=d∧d<=1000000):OkS ⟨nm,k,x,y,d,b⟩:=
 ⟨by simp only[Sh];omega,by simp only[I64];omega,hx,hy,by simp only[I64];omega⟩
theorem Pln.B.netS {p:Pln}(h:p.B) {n:Nat}(hn:n∈p.order):OkS (p.netS n):=by
 have:=decN_len2 n
 have:=h.small n hn
 exact okS_mk (by simp only[List.length_cons];omega) (by simp) (h.fed n) okE_nul (by simp)
theorem Pln.B.movS {p:Pln}(h:p.B) {i:Nat}(hi:i∈p.valv):OkS (p.movS i):=by
 have h1:=decN_len2 i
 have h2:=(mem_valvN.1 hi).1
 have h3:=h.pl
 unfold Pln.movS
 refine okS_mk (by simp only[List.length_cons];omega) (by split<;>simp) (h.gate _ _).1 ?_ ?_
 ·split
  ·exact okE_nul
  ·split
   ·exact (h.gate _ _).1
   ·exact okE_not (h.gate _ _).1
 ·split
  ·rw[List.getElem?_eq_getElem h2]
   exact h.delay _ (List.getElem_mem h2)
  ·simp
theorem Pln.pil_succ (p:Pln) {n:Nat}{d:Drv}(hd:p.drives[n]?=some d):p.pil (n+1)=p.drvS (p.pil n) d:=by
 unfold Pln.pil
 rw[List.take_add_one,hd,List.foldl_append]
 rfl
theorem Pln.B.pil {p:Pln}(h:p.B) (hv:∀d∈p.drives,d.2<p.ps.length):∀n,n<=p.drives.length->(p.pil n).1.length=n∧(p.pil n).2.1.length=n∧p.sig0.length<=(p.pil n).2.2.length∧(p.pil n).2.2.length<=p.sig0.length+n ∧
  (∀z∈(p.pil n).1,0<=z∧z<=2000)∧(∀z∈(p.pil n).2.1,0<=z∧z<=2000)∧∀x∈(p.pil n).2.2,OkS x
 | 0,_=>by
  refine⟨rfl,rfl,Nat.le_refl _,Nat.le_refl _,by simp[Pln.pil],by simp[Pln.pil],fun x hx=>?_⟩
  have hx2:x∈p.order.map p.netS++p.valv.map p.movS:=hx
  rcases List.mem_append.1 hx2 with hx2 | hx2
  ·obtain⟨n,hn,rfl⟩:=List.mem_map.1 hx2
   exact h.netS hn
  ·obtain⟨n,hn,rfl⟩:=List.mem_map.1 hx2
   exact h.movS hn
 | n+1,hn=>by
  obtain⟨a1,a2,a3,a4,a5,a6,a7⟩:=Pln.B.pil h hv n (by omega)
  obtain⟨d,hd⟩:∃d,p.drives[n]?=some d:=⟨_,List.getElem?_eq_getElem (by omega)⟩
  have hdv:=hv d (List.mem_of_getElem? hd)
  have hs0:p.sig0.length<=512:=by
   have:=h.ol
   have:=h.vl
   unfold Pln.sig0
   simp only[List.length_append,List.length_map]
   omega
  have hfl:=h.fl
  have hdl:=h.dl
  have hpl:=h.pl
  have g1:=h.gate d.2 [49,52]
  have g2:=h.gate d.2 [49,50]
  have hdn:=decN_len2 d.2
  rw[p.pil_succ hd]
  unfold Pln.drvS
  simp only[List.length_append,List.length_singleton,List.mem_append,List.mem_singleton]
  refine⟨by omega,by omega,?_,?_,?_,?_,?_⟩
  ·split
   ·exact a3
   ·simp only[List.length_append,List.length_singleton];omega
  ·split
   ·omega
   ·simp only[List.length_append,List.length_singleton];omega
  ·rintro z (hz | rfl)
   ·exact a5 z hz
   ·omega
  ·rintro z (hz | rfl)
   ·exact a6 z hz
   ·split<;>omega
  ·intro x hx
   split at hx
   ·exact a7 x hx
   ·rcases List.mem_append.1 hx with hx | hx
    ·exact a7 x hx
    ·simp only[List.mem_singleton]at hx
     subst hx
     exact okS_mk (by simp only[List.length_cons];omega) (by simp) (okE_not g1.1) okE_nul (by simp)
theorem Pln.B.okC {p:Pln}(h:p.B) (hv:∀d∈p.drives,d.2<p.ps.length):OkC p.ctl:=by
 obtain⟨a1,a2,a3,a4,a5,a6,a7⟩:=h.pil hv p.drives.length (Nat.le_refl _)
 have hs0:p.sig0.length<=512:=by
  have:=h.ol
  have:=h.vl
  unfold Pln.sig0
  simp only[List.length_append,List.length_map]
  omega
 have hdl:=h.dl
 have hbl:=h.bl
 refine⟨?_,?_,?_,?_,a7,?_,?_,fun z hz=>?_,fun z hz=>?_⟩
 ·show I64 (p.drives.length:Int)
  simp only[I64];omega
 ·show Sh (p.butt.map _)
  unfold Sh;rw[List.length_map];omega
 ·intro s hs
  obtain⟨i,hi,rfl⟩:=List.mem_map.1 (show s∈p.butt.map fun i=>((p.ps[i]?).map (·.name)).getD [] from hs)
  unfold Sh
  cases e:p.ps[i]? with
  | none=>simp
  | some x=>
   have:=h.names x (List.mem_of_getElem? e)
   simp only[Option.map_some,Option.getD_some]
   omega
 ·show Sh (p.pil p.drives.length).2.2
  unfold Sh;omega
 ·show Sh (p.pil p.drives.length).1
  unfold Sh;omega
 ·show Sh (p.pil p.drives.length).2.1
  unfold Sh;omega
 ·have:=a5 z hz
  simp only[I64];omega
 ·have:=a6 z hz
  simp only[I64];omega
structure PlS.Pre (s:PlS) (p:Pln):Prop where
 ok:s.OK
 ps:s.ps=p.ps
 ns:s.ns=p.nets
 dr:s.dr=.dat (.sl (p.drives.map encDr))
 dl:p.drives.length<=64
 dm:∀d∈p.drives,d.1<p.ps.length
 od:s.od=aNs p.order
 ol:p.order.length<=448
 names:∀x∈p.ps,x.name.length<=1000
 lim:∀x∈p.ps,x.kind=6->(∃q c,x.name=q++[c]∧(c=48∨c=49)∧∃k,p.drives.findIdx? (fun d=>(p.ps.getD d.1 x).name==q)=some k)
theorem place1_s {s:PlS}{p:Pln}(h1:s.ps=p.ps) (hl:p.ps.length<=64) {x:Prt}{q:List UInt8}{c:UInt8}(hx:x.name=q++[c]) (hq:q.length<=1000) {d:Drv}(hd:d.1<p.ps.length) (b1 b3 b7:Nat) :
  CallS Tryz.prog 204 [.record (encDr d),.ptr 1 b1 0,.ptr 3 b3 0,.ptr 7 b7 0] ((7,.box b7 [aI q.length])::(3,.box b3 ((encPa x).map A.dat))::(1,.box b1 [.ptr 170 s.b 0])::s.hp) fun r H'=>
   r=aB ((p.ps.getD d.1 x).name==q)∧H'=(7,.box b7 [aI q.length])::(3,.box b3 ((encPa x).map A.dat))::(1,.box b1 [.ptr 170 s.b 0])::s.hp:=by
 obtain⟨y,hy⟩:∃y,p.ps[d.1]=y:=⟨_,rfl⟩
 have hyo:p.ps[d.1]?=some y:=by rw[List.getElem?_eq_getElem hd,hy]
 have hyd:p.ps.getD d.1 x=y:=by rw[List.getD_eq_getElem?_getD,hyo];rfl
 rw[hyd]
 obtain⟨y1,y2,y3⟩:=y
 obtain⟨x1,x2,x3⟩:=x
 simp only at hx
 subst hx
 refine callS_of Tryz.func204 rfl Tryz.ntmps204 (rs:=[.tmp 5]) rfl (by kernel_rfl) (by simp) (by kernel_rfl) ?_
 simp
 refine V.drawX (fun _=>none) (by kernel_rfl) (by kernel_rfl) (by simp) ?_
 simp[h1,hd,hy,hyo]
abbrev PlS.wp (s:PlS) (v w:Value) (E:List (L×L)):PlS:={ s with bu:=.own 173 v,va:=.own 174 w,lE:=E }
abbrev bE (v:Value) (l:List Nat):Nat×Ent:=(173,.seq v 3 1 (l.map rN))
abbrev vE (v:Value) (l:List Nat):Nat×Ent:=(174,.seq v 3 1 (l.map rN))
theorem PlS.OK.wp {s:PlS}(h:s.OK) (v w:Value) (E:List (L×L)):(s.wp v w E).OK:=⟨h.few,h.kinds,h.nets,h.net,h.of⟩
theorem first_o {s:PlS}{p:Pln}(h1:s.dr=.dat (.sl (p.drives.map encDr))) (h3:p.drives.length<=64) (h4:p.butt.length<=64) (v w:Value) (E:List (L×L)) :
  CallS Tryz.prog 91 [.ptr 170 s.b 0] ((s.wp v w E).hp++[bE v p.butt]) fun r H'=>r=aI p.first∧H'=(s.wp v w E).hp++[bE v p.butt]:=by
 unfold Pln.first
 refine callS_of Tryz.func91 rfl Tryz.ntmps91 (rs:=[.tmp 2]) rfl (by kernel_rfl) (by simp) (by kernel_rfl) ?_
 simp
 refine V.drawX (fun _=>none) (by kernel_rfl) (by kernel_rfl) (by simp) ?_
 simp[h1]
 omega
theorem place_s0 {s:PlS}{p:Pln}(h:s.Pre p) :
  CallS Tryz.prog 145 [.ptr 170 s.b 0] ((s.wp (.slice none 0 0) (.slice none 0 0) []).hp++[bE (.slice none 0 0) [],vE (.slice none 0 0) []]) fun r H'=>∃v w E,r=.tuple []∧H'=(s.wp v w E).hp++[bE v p.butt,vE w p.valv]∧LnV p p.valv.length E:=by
 have hl:p.ps.length<=64:=by rw[<- h.ps];exact h.ok.few
 have hps:=h.ps
 have hdr:=h.dr
 have hdl:=h.dl
 have hod:=h.od
 have hol:=h.ol
 refine CallS.dropP (callS_of Tryz.func145 rfl Tryz.ntmps145 (rs:=[]) rfl (by kernel_rfl) (by simp) (by kernel_rfl) (K:=fun r H'=>∃v w E,r=.tuple []∧subP ((s.wp v w E).hp++[bE v p.butt,vE w p.valv]) H'∧LnV p p.valv.length E) ?_) (fun _ _ ⟨v,w,E,h1,h2,h3⟩=>⟨_,h2,v,w,E,h1,rfl,h3⟩)
 simp
 intro b1
 simp[hps]
 refine V.forI (σ:=Value×Value×List (L×L)) p.ps.length [1,15,16] (by simp;exact rfl) (fun n _=>[(17,aI n)]) (fun n q=>(1,.box b1 [.ptr 170 s.b 0])::((s.wp q.1 q.2.1 q.2.2).hp++[bE q.1 (buttN p.ps n),vE q.2.1 (valvN p.ps p.drives n)])) (fun n q=>LnB p n q.2.2) (.slice none 0 0,.slice none 0 0,[]) (LnB.zero p) (by simp) ⟨by simp[hps];exact rfl,by simp[buttN,valvN]⟩ ?_ ?_
 ·rintro n ⟨v,w,E⟩ hn hI
  simp only at hI
  obtain⟨x,hx⟩:∃x,p.ps[n]=x:=⟨_,rfl⟩
  have hxo:p.ps[n]?=some x:=by rw[List.getElem?_eq_getElem hn,hx]
  have hxm:=List.mem_of_getElem? hxo
  have hnm:=h.names x hxm
  have hkx:=h.ok.kinds x (by rw[hps];exact hxm)
  have hk:kindOf p.ps n=x.kind.toNat:=kindOf_at hxo
  have hpk:=Pilots_k x.kind.toNat (by omega)
  rw[show ((x.kind.toNat:Nat):Int)=x.kind from by omega]at hpk
  have hB:p.lineB n=if x.kind=7 then some (2*p.drives.length+p.butt.idxOf n)
   else if x.kind=6 then some (2*(p.drives.findIdx fun d=>(p.ps.getD d.1 x).name==x.name.dropLast)+(if x.name.getLast? = some 49 then 1 else 0)) else none:=by
   unfold Pln.lineB
   rw[hxo]
  have hbl:=buttN_len p.ps n
  have hvl:=valvN_len p.ps p.drives n
  simp[hn,hps,hx,hxo]
  intro b3
  refine hpk.s ?_
  simp
  by_cases h7:x.kind=7
  ·rw[if_pos h7]at hB
   have hbx:=butt_idx (p:=p) (i:=n) (by omega) hn
   rw[hbx]at hB
   simp[h7]
   refine V.drawX (fun _=>none) (by kernel_rfl) (by kernel_rfl) (by simp) ?_
   simp[hdr]
   refine⟨by omega,by omega,?_⟩
   refine V.drawX (fun _=>none) (by kernel_rfl) (by kernel_rfl) (by simp) ?_
   simp
   intro u
   refine⟨by omega,by kernel_rfl,⟨by omega,by omega⟩,u,w,mput E (.int .i64 (n:Int)) (.int .i64 (2*(p.drives.length:Int)+(buttN p.ps n).length)),?_,⟨rfl,rfl⟩,rfl,⟨rfl,?_⟩,rfl,?_⟩
   ·have:=hI.put hB
    simpa using this
   ·rw[buttN_succ,if_pos (by omega)]
    simp
   ·rw[valvN_succ,if_neg]
    ·simp
    ·rw[hk,h7]
     simp[plusK]
  ·rw[if_neg h7]at hB
   by_cases h6:x.kind=6
   ·rw[if_pos h6]at hB
    obtain⟨q,c,hq,hc,kx,hkx2⟩:=h.lim x hxm h6
    have hp1:=fun (d:Drv) (hd:d∈p.drives) (b7:Nat)=>(place1_s (s:=s.wp v w E) hps hl hq (by rw[hq]at hnm;simp at hnm;omega) (h.dm d hd) b1 b3 b7).mid [] [bE v (buttN p.ps n),vE w (valvN p.ps p.drives n)]
    have hix:=fun b7=>idxDr_s p.drives (fun d=>(p.ps.getD d.1 x).name==q) 204 [] [.ptr 1 b1 0,.ptr 3 b3 0,.ptr 7 b7 0] _ (by unfold Sh;omega) fun d hd=>hp1 d hd b7
    rw[hkx2]at hix
    have hfx:(p.drives.findIdx fun d=>(p.ps.getD d.1 x).name==q)=kx:=by
     rw[List.findIdx?_eq_some_iff_findIdx_eq]at hkx2
     exact hkx2.2
    have hkl:=(List.findIdx?_eq_some_iff_getElem.1 hkx2).1
    obtain⟨x1,x2,x3⟩:=x
    simp only at hq h6 h7 hk hkx hB hnm
    subst hq
    subst h6
    rw[show (q++[c]).dropLast=q by simp,hfx,show (q++[c]).getLast? = some c by simp]at hB
    have hib:=IndexByte_fn [48,49] c.toNat
    have hbv:Go.Lib.indexByte [48,49] (c.toNat:Int).toNat.toUInt8=if c=49 then 1 else 0:=by
     rcases hc with rfl | rfl<;>decide
    rw[hbv]at hib
    simp at hnm
    simp[hdr]
    refine⟨by omega,fun b7=>(hix b7).mono ?_⟩
    rintro r H' ⟨rfl,rfl⟩
    simp
    refine V.drawX (fun t=>if t=85 then some (.fn (aI (if c=49 then 1 else 0))) else none) (by kernel_rfl) (by kernel_rfl) (by simp) ?_
    simp
    refine⟨⟨by omega,by omega⟩,by omega,hib,⟨by split<;>omega,by split<;>omega⟩,⟨by omega,by omega⟩,v,w,mput E (.int .i64 (n:Int)) (.int .i64 (2*(kx:Int)+if c=49 then 1 else 0)),?_,⟨rfl,rfl⟩,rfl,⟨rfl,?_⟩,rfl,?_⟩
    ·have:=hI.put hB
     have e:((2*kx+(if some c=some 49 then 1 else 0):Nat):Int)=2*(kx:Int)+if c=49 then 1 else 0:=by
      by_cases e:c=49<;>simp[e]
     rw[e]at this
     exact this
    ·rw[buttN_succ,if_neg (by omega)]
     simp
    ·rw[valvN_succ,if_neg]
     ·simp
     ·rw[hk]
      simp[plusK]
   ·rw[if_neg h6]at hB
    have hdv:=driven_s (s:=s.wp v w E) (h.ok.wp v w E) hdr (by omega) n
    simp[h7,h6]
    by_cases hpl:plusK x.kind.toNat=[]
    ·refine GCall.never (by simp[hpl]) (aI 0) ?_
     simp[hpl]
     refine⟨⟨by omega,by omega⟩,v,w,E,hI.keep hB,⟨rfl,rfl⟩,rfl,⟨rfl,?_⟩,rfl,?_⟩
     ·rw[buttN_succ,if_neg (by omega)]
      simp
     ·rw[valvN_succ,if_neg (by rw[hk];simp[hpl])]
      simp
    ·refine GCall.sure ⟨by simp[hpl],(hdv.mid [(3,_),(1,_)] [_,_]).mono ?_⟩ (by simp[hpl])
     rintro r H' ⟨rfl,rfl⟩
     cases hdz:drivenZ p.drives n with
     | none=>
      simp[hpl,idxI]
      refine V.drawX (fun _=>none) (by kernel_rfl) (by kernel_rfl) (by simp) ?_
      simp
      intro u
      refine⟨by omega,by kernel_rfl,⟨by omega,by omega⟩,v,u,E,hI.keep hB,⟨rfl,rfl⟩,rfl,⟨rfl,?_⟩,rfl,?_⟩
      ·rw[buttN_succ,if_neg (by omega)]
       simp
      ·rw[valvN_succ,if_pos (by rw[hk];exact⟨hpl,hdz⟩)]
       simp
     | some m=>
      simp[hpl,idxI]
      refine⟨fun hh=>by omega,⟨by omega,by omega⟩,v,w,E,hI.keep hB,⟨rfl,rfl⟩,rfl,⟨rfl,?_⟩,rfl,?_⟩
      ·rw[buttN_succ,if_neg (by omega)]
       simp
      ·rw[valvN_succ,if_neg (by rw[hdz];simp)]
       simp
 ·rintro⟨v,w,E⟩ hI
  simp only at hI
  have hI:=hI.lnV
  have hvl:p.valv.length<=64:=Nat.le_trans (valvN_len _ _ _) hl
  have hbl:p.butt.length<=64:=Nat.le_trans (buttN_len _ _) hl
  rw[show buttN p.ps p.ps.length=p.butt from rfl,show valvN p.ps p.drives p.ps.length=p.valv from rfl]
  simp[hps]
  refine V.forI (σ:=List (L×L)) p.valv.length [1,110,111] (by simp;exact rfl) (fun n _=>[(112,aI n)]) (fun n q=>(1,.box b1 [.ptr 170 s.b 0])::((s.wp v w q).hp++[bE v p.butt,vE w p.valv])) (fun n q=>LnV p n q) E hI (by simp) ⟨by simp;exact rfl,by simp⟩ ?_ ?_
  ·rintro n F hn hI
   obtain⟨i,hi⟩:∃i,p.valv[n]=i:=⟨_,rfl⟩
   have hio:p.valv[n]?=some i:=by rw[List.getElem?_eq_getElem hn,hi]
   have hfo:=first_o (s:=s) hdr hdl hbl v w F
   have hfb:p.first<=192:=by unfold Pln.first;omega
   simp[hn,hi,hio]
   refine V.drawX (fun t=>if t=123 then some (.ro (aI p.first)) else none) (by kernel_rfl) (by kernel_rfl) (by simp) ?_
   simp[hod]
   refine⟨hfo,?_⟩
   have e:((p.first+p.order.length+n:Nat):Int)=(p.first:Int)+p.order.length+n:=by omega
   have:=hI.put hio
   rw[e]at this
   exact⟨⟨by omega,by omega⟩,⟨by omega,by omega⟩,by kernel_rfl,⟨by omega,by omega⟩,this⟩
  ·rintro F hI
   simp
   exact⟨v,w,F,(subP.refl _).c _,hI⟩
theorem place_s {s:PlS}{p:Pln}(h:s.Pre p) (hbu:s.bu=.nils) (hva:s.va=.nils) (hlE:s.lE=[]) :
  CallS Tryz.prog 145 [.ptr 170 s.b 0] s.hp fun r H'=>∃s':PlS,r=.tuple []∧H'=s'.hp∧s'.At p∧s'.b=s.b:=by
 refine CallS.inv (H':=(s.wp (.slice none 0 0) (.slice none 0 0) []).hp++[bE (.slice none 0 0) [],vE (.slice none 0 0) []]) (fun x H0 hi=>?_) (fun x vs hv=>hv)
  ((((place_s0 h).frzCell (K':=fun r H'=>∃w E,r=.tuple []∧H'=({ s with bu:=aNs p.butt,va:=.own 174 w,lE:=E }:PlS).hp++[vE w p.valv]∧LnV p p.valv.length E) ?_)).frzCell ?_)
 ·have h1:Inv x ((173,.seq (.slice none 0 0) 3 1 [])::(174,.seq (.slice none 0 0) 3 1 [])::((s.wp (.slice none 0 0) (.slice none 0 0) []).hp++H0)):=by
   refine Inv.nil (t:=173) (e:=.seq (.slice none 0 0) 3 1 []) (Inv.nil (t:=174) (e:=.seq (.slice none 0 0) 3 1 []) ?_ ⟨rfl,rfl⟩) ⟨rfl,rfl⟩
   have hi2:=Inv.swap (g:=170) (H:=s.hp) (e:=.box s.b s.cells) (e':=.box s.b (s.wp (.slice none 0 0) (.slice none 0 0) []).cells) rfl (box_sat ?_) (fun b hb=>hb) hi
   ·unfold PlS.hp at hi2
    rw[hlE]at hi2
    exact hi2
   ·unfold PlS.cells
    rw[hbu,hva]
    exact Ds_c D_i (Ds_c D_i (Ds_c D_i (Ds_c D_i (Ds_c D_i (Ds_c D_i (Ds_c D_nilo (Ds_c D_nilo Ds_i)))))))
  refine h1.perm ?_
  rw[List.append_assoc]
  exact List.perm_append_comm_assoc _ [((173:Nat),Ent.seq (.slice none 0 0) 3 1 []),((174:Nat),Ent.seq (.slice none 0 0) 3 1 [])] _
 ·rintro r H' ⟨v,w,E,rfl,rfl,hE⟩
  refine⟨170,173,s.b,6,173,v,3,1,p.butt.map rN,(s.wp v w E).cells,rfl,rfl,allD_n _,rfl,w,E,rfl,?_,hE⟩
  rw[rowsD_n]
  rfl
 ·rintro r H' ⟨w,E,rfl,rfl,hE⟩
  refine⟨170,174,s.b,7,174,w,3,1,p.valv.map rN,({ s with bu:=aNs p.butt,va:=.own 174 w,lE:=E }:PlS).cells,rfl,rfl,allD_n _,rfl,{ s with bu:=aNs p.butt,va:=aNs p.valv,lE:=E },rfl,?_,⟨⟨h.ok.few,h.ok.kinds,h.ok.nets,h.ok.net,h.ok.of⟩,h.ps,h.ns,h.dr,h.dl,h.od,h.ol,rfl,rfl,hE.all⟩,rfl⟩
  rw[rowsD_n]
  rfl
section
open Go.Sort
theorem grow_invI {x:X}{H:Heap}(hi:Inv x H) (k:Nat) (os:Array Obj):x.le ⟨grow (x.w.drewN k) os,x.ok⟩∧Inv ⟨grow (x.w.drewN k) os,x.ok⟩ H:=by
 have hold:∀b,b<x.w.heap.size->(grow (x.w.drewN k) os).heap[b]?=x.w.heap[b]?:=by
  intro b hb
  simp only[grow]
  rw[Array.getElem?_append_left (by simpa [World.drewN]using hb)]
  rfl
 have hle:x.le ⟨grow (x.w.drewN k) os,x.ok⟩:=⟨fun b hb=>⟨hb,hold b (hi.bd b hb)⟩,rfl,rfl,rfl,by simp[grow,World.drewN],by simp[grow,World.drewN]⟩
 exact⟨hle,hi.step hle (fun b hb=>Nat.lt_of_lt_of_le (hi.bd b hb) hle.size) (fun b hb=>.inl hb) fun p hp b ho=>hold b (hi.own p hp b ho).1⟩
theorem pow_tabI {x:X}(h:Tabs x):Go.Lib.TabIs Tryz.prog x.w "internal/strconv.uint64pow10" .u64 Go.Lib.pow10Tab:=by
 have hm:(2,Go.Lib.pow10Tab.map fun z=>L.int .u64 z)∈tabL:=List.Mem.head _
 obtain⟨_,ty,fr,h2⟩:=h _ hm
 have hg:(Tryz.prog).globalNamed "internal/strconv.uint64pow10"=some 2:=by kernel_rfl
 unfold Go.Lib.TabIs World.var?
 rw[hg]
 simp only[Option.bind_some,h2]
 simp[plV]
theorem ItoaD_fn (n:Nat) (hn:(n:Int)<=9223372036854775807):CallFn Tryz.prog 133 [aI n] (.dat (.str (Go.Lib.decDigits n))):=by
 refine⟨⟨_,Tryz.func133,by kernel_rfl,by kernel_rfl⟩,fun x args H0 hi hd=>?_⟩
 have ha:args=#[.int .i64 n]:=by
  rcases args with⟨l⟩
  obtain⟨v,e,hv⟩:=Ds.one hd
  simp only[D,RdL]at hv
  simp only at e
  rw[e,hv]
 subst ha
 have hi0:Inv x H0:=by simpa using hi
 refine (Any.strconv_Itoa itLays n (by omega) hn x.w (pow_tabI hi.bd.tab)).mono ?_
 rintro _ _ ⟨rfl,k,os,rfl⟩
 obtain⟨h1,h2⟩:=grow_invI hi0 k os
 refine⟨⟨grow (x.w.drewN k) os,x.ok⟩,_,_,[],rfl,rfl,h1,by simpa using h2,?_,rfl,rfl⟩
 simp only[D,RdL,Go.Lib.itoa]
 rw[if_neg (by omega),Int.toNat_natCast]
end
theorem plusK_port:∀k,k<14->plusK k≠[]->plusK k∈portsK k:=by
 refine k_cases ⟨?_,?_,?_,?_,?_,?_,?_,?_,?_,?_,?_,?_,?_,?_⟩<;>decide
theorem minusK_port:∀k,k<14->minusK k≠[]->minusK k∈portsK k:=by
 refine k_cases ⟨?_,?_,?_,?_,?_,?_,?_,?_,?_,?_,?_,?_,?_,?_⟩<;>decide
theorem moved_s {s:PlS}{p:Pln}(h:s.At p) {i:Nat}(hi:i∈p.valv):CallS Tryz.prog 207 [.ptr 170 s.b 0,aI i] s.hp fun r H'=>r=.record (encS (p.movS i))∧H'=s.hp:=by
 obtain⟨hi1,hi2,_⟩:=mem_valvN.1 hi
 have hpl:=h.pl
 have hps:=h.ps
 have hkl:=h.klt i
 have hk:=h.kind hi1
 obtain⟨x,hx⟩:∃x,p.ps[i]=x:=⟨_,rfl⟩
 have hxo:p.ps[i]?=some x:=by rw[List.getElem?_eq_getElem hi1,hx]
 have hg1:=netGate_s h (port_of hi1 (plusK_port _ hkl hi2))
 have hg2:=fun hm=>netGate_s h (port_of hi1 (minusK_port _ hkl hm))
 have hpi:=Pilots_k (kindOf p.ps i) hkl
 have hit:=ItoaD_fn i (by omega)
 unfold Pln.movS
 rw[hxo]
 generalize p.gate i (plusK (kindOf p.ps i))=gp at *
 generalize p.gate i (minusK (kindOf p.ps i))=gm at *
 generalize plusK (kindOf p.ps i)=pl at *
 generalize minusK (kindOf p.ps i)=mi at *
 generalize kindOf p.ps i=k at *
 have hop:=opposite_fn gp
 refine CallS.dropP (callS_of Tryz.func207 rfl Tryz.ntmps207 (rs:=[.cell 4 63]) rfl (by kernel_rfl) (by simp) (by kernel_rfl) (K:=fun r H'=>r=.record (encS ⟨118::decN i,if k=12 then 2 else 1,gp,if k=12 then nulE else if mi≠[] then gm else notE gp,if k=12 then ((some x).map (·.delay)).getD 0 else 0,false⟩)∧subP s.hp H') ?_) (fun _ _ ⟨h1,h2⟩=>⟨_,h2,h1,rfl⟩)
 simp
 intro b4
 refine (hk.mid [(4,_)] []).mono ?_
 rintro r H' ⟨rfl,rfl⟩
 simp
 refine hpi.s ?_
 simp
 refine hit.s ?_
 simp
 refine⟨by have:=decN_len2 i;unfold decN at this;omega,(hg1.mid [(4,_)] []).mono ?_⟩
 rintro r H' ⟨rfl,rfl⟩
 simp
 intro b8
 refine (hk.mid [(8,_),(4,_)] []).mono ?_
 rintro r H' ⟨rfl,rfl⟩
 simp
 refine⟨fun hk12=>?_,fun hk12=>⟨fun hmi=>?_,fun hmi=>?_⟩⟩
 ·have hk:k=12:=by omega
  subst hk
  refine V.drawX (fun _=>none) (by kernel_rfl) (by kernel_rfl) (by simp) ?_
  simp[hps,hi1,hx,hxo]
  refine⟨by kernel_rfl,⟨rfl,?_⟩,((subP.refl _).c _).c _⟩
  simp[nulE]
 ·have hk:¬k=12:=by omega
  refine ((hg2 hmi).mid [(8,_),(4,_)] []).mono ?_
  rintro r H' ⟨rfl,rfl⟩
  simp[hk,hmi]
  exact⟨rfl,((subP.refl _).c _).c _⟩
 ·have hk:¬k=12:=by omega
  refine hop.s ?_
  generalize notE gp=ng at *
  simp[hk,hmi]
  exact⟨rfl,((subP.refl _).c _).c _⟩
abbrev rTx (t:List UInt8):List A:=[.dat (.str t)]
abbrev rSg (x:Signal):List A:=(encS x).map A.dat
abbrev rIn (n:Int):List A:=[.dat (.int .i64 n)]
structure CtV where
 vi:Value
 vs:Value
 vp:Value
 vm:Value
 I:List (List UInt8)
 S:List Signal
 P:List Int
 M:List Int
abbrev CtV.hp (q:CtV) (s:PlS) (n:Int) (b2 b3:Nat):Heap:=(61,.seq q.vi 9 1 (q.I.map rTx))::(62,.seq q.vs 63 10 (q.S.map rSg))::(63,.seq q.vp 3 1 (q.P.map rIn))::(64,.seq q.vm 3 1 (q.M.map rIn)) ::
 (3,.box b3 [aI n,.own 61 q.vi,.own 62 q.vs,.own 63 q.vp,.own 64 q.vm])::(2,.box b2 [aI 0,.nils,.nils,.nils,.nils])::s.hp
abbrev CtV.top (q:CtV) (s:PlS):Heap:=(61,.seq q.vi 9 1 (q.I.map rTx))::(62,.seq q.vs 63 10 (q.S.map rSg))::(63,.seq q.vp 3 1 (q.P.map rIn))::(64,.seq q.vm 3 1 (q.M.map rIn))::s.hp
abbrev ctE (s:PlS) (b2 b3:Nat):List (Nat×A):=[(0,.ptr 170 s.b 0),(2,.ptr 2 b2 0),(3,.ptr 3 b3 0)]
abbrev CtQ (s:PlS) (p:Pln):A->Heap->Prop:=fun r H'=>∃q:CtV,r=.agg [aI p.drives.length,.own 61 q.vi,.own 62 q.vs,.own 63 q.vp,.own 64 q.vm]∧subP (q.top s) H'∧(⟨p.drives.length,q.I,q.S,q.P,q.M⟩:Control)=p.ctl
structure Pln.D (p:Pln):Prop where
 val:∀d∈p.drives,kindOf p.ps d.2=2∨kindOf p.ps d.2=3
 ord:∀n∈p.order,n<p.nets.length
theorem control_d {s:PlS}{p:Pln}(h:s.At p) (hD:p.D) (hB:p.B) (b2 b3:Nat) (q:CtV) (hI:q.I=p.butt.map fun i=>((p.ps[i]?).map (·.name)).getD []) (hS:q.S=p.sig0) (hP:q.P=[]) (hM:q.M=[]) :
  V ⟨Tryz.prog,none,143⟩ (restC Tryz.f146 5) (hdE (ctE s b2 b3) []) (q.hp s p.drives.length b2 b3) (RetV Tryz.prog [.cell 2 26] (CtQ s p)):=by
 have hdr:=h.dr
 have hdl:=h.dl
 refine V.rest rfl ?_
 refine V.of_vcN 1 ?_
 simp[hdr]
 refine V.forI (σ:=CtV) p.drives.length [0,2,3,86,87] (by simp;exact rfl) (fun n _=>[(88,aI n)]) (fun _ q=>q.hp s p.drives.length b2 b3) (fun n q=>q.I=(p.butt.map fun i=>((p.ps[i]?).map (·.name)).getD [])∧p.pil n=(q.P,q.M,q.S)) q ⟨hI,by rw[hS,hP,hM];rfl⟩ (by simp) ⟨by simp;exact rfl,by simp⟩ ?_ ?_
 ·rintro n ⟨vi,vs,vp,vm,I,S,P,M⟩ hn ⟨hI,hJ⟩
  simp only at hI hJ
  obtain⟨d,hd⟩:∃d,p.drives[n]=d:=⟨_,rfl⟩
  have hdo:p.drives[n]?=some d:=by rw[List.getElem?_eq_getElem hn,hd]
  have hsu:=p.pil_succ hdo
  rw[hJ]at hsu
  have hkd:=hD.val d (List.mem_of_getElem? hdo)
  have hdl2:d.2<p.ps.length:=kindOf_lt (by omega)
  have hg1:=netGate_s h (i:=d.2) (t:=[49,52]) (port_of hdl2 (by rcases hkd with e | e<;>rw[e]<;>decide))
  have hg2:=fun e:kindOf p.ps d.2=2=>netGate_s h (i:=d.2) (t:=[49,50]) (port_of hdl2 (by rw[e];decide))
  have hkk:=h.kind hdl2
  have hf:=first_s h
  have hpl:=h.pl
  have hit:=ItoaD_fn d.2 (by omega)
  have hdn:=decN_len2 d.2
  have hb:=hB.pil (fun d hd=>kindOf_lt (by have:=hD.val d hd;omega)) n (by omega)
  rw[hJ]at hb
  obtain⟨a1,a2,a3,a4,a5,a6,a7⟩:=hb
  simp only at a1 a2 a3 a4 a5 a6 a7
  have hs0:p.sig0.length<=512:=by
   have:=hB.ol
   have:=hB.vl
   unfold Pln.sig0
   simp only[List.length_append,List.length_map]
   omega
  have hfl:=hB.fl
  unfold Pln.drvS at hsu
  simp only at hsu
  rw[hsu]
  simp[hn,hd,hdo]
  intro b11
  refine (hg1.mid [(11,_),(61,_),(62,_),(63,_),(64,_),(3,_),(2,_)] []).mono ?_
  rintro r H' ⟨rfl,rfl⟩
  obtain⟨g1,hg1e⟩:∃g,p.gate d.2 [49,52]=g:=⟨_,rfl⟩
  rw[hg1e]
  simp
  intro b12 u
  refine⟨by omega,(hkk.mid [(12,_),(11,_),(61,_),(62,_),(63,_),(64,_),(3,_),(2,_)] []).mono ?_⟩
  rintro r H' ⟨rfl,rfl⟩
  rcases hkd with hkd | hkd
  ·rw[if_pos hkd,if_pos hkd]
   have hg2:=hg2 hkd
   obtain⟨g2,hg2e⟩:∃g,p.gate d.2 [49,50]=g:=⟨_,rfl⟩
   rw[hg2e]at hg2 ⊢
   simp[hkd]
   refine V.drawX (fun t=>if t=113 then some (.ro (aE g2)) else none) (by kernel_rfl) (by kernel_rfl) (by simp) ?_
   simp
   refine⟨hg2,?_⟩
   simp
   intro u1
   refine⟨by omega,by kernel_rfl,⟨by omega,by omega⟩,⟨⟨vi,vs,u,u1,I,S,P++[g1.index],M++[g2.index]⟩,⟨hI,rfl,rfl,rfl⟩,?_⟩⟩
   simp
  ·rw[if_neg (by omega),if_neg (by omega)]
   simp[hkd]
   refine V.drawX (fun t=>if t=121 then some (.ro (aI p.first)) else none) (by kernel_rfl) (by kernel_rfl) (by simp) ?_
   simp
   refine⟨hf,?_⟩
   have hop:=opposite_fn g1
   have hng:p.sprS d.2=⟨119::decN d.2,0,notE g1,nulE,0,false⟩:=by unfold Pln.sprS;rw[hg1e]
   rw[hng]
   generalize notE g1=ng at *
   simp
   refine⟨⟨by omega,by omega⟩,fun u1=>⟨by omega,by kernel_rfl,?_⟩⟩
   refine V.drawX (fun t=>if t=133 then some (.fn (.dat (.str (Go.Lib.decDigits d.2)))) else if t=136 then some (.fn (aE ng)) else none) (by kernel_rfl) (by kernel_rfl) (by simp) ?_
   simp
   refine⟨hit,by unfold decN at hdn;omega,hop,fun u2=>⟨by omega,by kernel_rfl,⟨by omega,by omega⟩,⟨⟨vi,u2,u,u1,I,S++[⟨119::decN d.2,0,ng,nulE,0,false⟩],P++[g1.index],M++[(p.first:Int)+S.length]⟩,⟨hI,rfl,rfl,rfl⟩,?_⟩⟩⟩
   simp[nulE,decN]
 ·rintro⟨vi,vs,vp,vm,I,S,P,M⟩ ⟨hI,hJ⟩
  simp only at hI hJ
  simp
  refine V.of_vc ?_
  simp
  refine⟨⟨vi,vs,vp,vm,I,S,P,M⟩,rfl,?_,?_⟩
  ·exact ((((((subP.refl _).c _).c _).cc _).cc _).cc _).cc _
  ·unfold Pln.ctl
   rw[hJ,hI]
theorem control_c {s:PlS}{p:Pln}(h:s.At p) (hD:p.D) (hB:p.B) (b2 b3:Nat) (q:CtV) (hI:q.I=p.butt.map fun i=>((p.ps[i]?).map (·.name)).getD []) (hS:q.S=p.order.map p.netS) (hP:q.P=[]) (hM:q.M=[]) :
  V ⟨Tryz.prog,none,143⟩ (restC Tryz.f146 4) (hdE (ctE s b2 b3) []) (q.hp s p.drives.length b2 b3) (RetV Tryz.prog [.cell 2 26] (CtQ s p)):=by
 have hva:=h.va
 have hvl:=h.vl
 have hol:=h.ol
 refine V.rest rfl ?_
 refine V.of_vcN 1 ?_
 simp[hva]
 refine V.forI (σ:=CtV) p.valv.length [0,2,3,68,69] (by simp;exact rfl) (fun n _=>[(70,aI n)]) (fun _ q=>q.hp s p.drives.length b2 b3) (fun n q=>q.I=(p.butt.map fun i=>((p.ps[i]?).map (·.name)).getD [])∧q.S=p.order.map p.netS++(p.valv.take n).map p.movS∧q.P=[]∧q.M=[]) q ⟨hI,by simpa using hS,hP,hM⟩ (by simp) ⟨by simp;exact rfl,by simp⟩ ?_ ?_
 ·rintro n ⟨vi,vs,vp,vm,I,S,P,M⟩ hn ⟨hI,hS,hP,hM⟩
  simp only at hI hS hP hM
  obtain⟨i,hi⟩:∃i,p.valv[n]=i:=⟨_,rfl⟩
  have hio:p.valv[n]?=some i:=by rw[List.getElem?_eq_getElem hn,hi]
  have hmv:=moved_s h (List.mem_of_getElem? hio)
  have hSl:S.length<=512:=by
   rw[hS]
   simp only[List.length_append,List.length_map,List.length_take]
   omega
  rw[List.take_add_one,hio]
  obtain⟨m,hm⟩:∃m,p.movS i=m:=⟨_,rfl⟩
  rw[hm]at hmv
  have hS2:S++[m]=p.order.map p.netS++(p.valv.take n++[i]).map p.movS:=by rw[hS,List.map_append,List.append_assoc];simp[hm]
  simp only[Option.toList_some]
  rw[<- hS2]
  simp[hn,hi,hio]
  refine V.drawX (fun t=>if t=78 then some (.ro (.record (encS m))) else none) (by kernel_rfl) (by kernel_rfl) (by simp) ?_
  simp
  refine⟨hmv,fun u=>⟨by omega,by kernel_rfl,⟨by omega,by omega⟩,⟨vi,u,vp,vm,I,S++[m],P,M⟩,⟨hI,rfl,hP,hM⟩,?_⟩⟩
  simp
 ·rintro⟨vi,vs,vp,vm,I,S,P,M⟩ ⟨hI,hS,hP,hM⟩
  simp only at hI hS hP hM
  rw[List.take_length]at hS
  simp
  exact V.cutV (Hs:=CtV.hp ⟨vi,vs,vp,vm,I,S,P,M⟩ s p.drives.length b2 b3) (ctE s b2 b3) (by simp) (by simp) (V.of_rest rfl (control_d h hD hB b2 b3 ⟨vi,vs,vp,vm,I,S,P,M⟩ hI hS hP hM))
theorem control_b {s:PlS}{p:Pln}(h:s.At p) (hD:p.D) (hB:p.B) (b2 b3:Nat) (q:CtV) (hI:q.I=p.butt.map fun i=>((p.ps[i]?).map (·.name)).getD []) (hS:q.S=[]) (hP:q.P=[]) (hM:q.M=[]) :
  V ⟨Tryz.prog,none,143⟩ (restC Tryz.f146 3) (hdE (ctE s b2 b3) []) (q.hp s p.drives.length b2 b3) (RetV Tryz.prog [.cell 2 26] (CtQ s p)):=by
 have hod:=h.od
 have hol:=h.ol
 refine V.rest rfl ?_
 refine V.of_vcN 1 ?_
 simp[hod]
 refine V.forI (σ:=CtV) p.order.length [0,2,3,46,47] (by simp;exact rfl) (fun n _=>[(48,aI n)]) (fun _ q=>q.hp s p.drives.length b2 b3) (fun n q=>q.I=(p.butt.map fun i=>((p.ps[i]?).map (·.name)).getD [])∧q.S=(p.order.take n).map p.netS∧q.P=[]∧q.M=[]) q ⟨hI,by simpa using hS,hP,hM⟩ (by simp) ⟨by simp;exact rfl,by simp⟩ ?_ ?_
 ·rintro n ⟨vi,vs,vp,vm,I,S,P,M⟩ hn ⟨hI,hS,hP,hM⟩
  simp only at hI hS hP hM
  obtain⟨i,hi⟩:∃i,p.order[n]=i:=⟨_,rfl⟩
  have hio:p.order[n]?=some i:=by rw[List.getElem?_eq_getElem hn,hi]
  have him:=hD.ord i (List.mem_of_getElem? hio)
  have hfd:=fed_s h him
  have hsm:=hB.small i (List.mem_of_getElem? hio)
  have hit:=ItoaD_fn i (by omega)
  have hdn:=decN_len2 i
  have hSl:S.length<=448:=by
   rw[hS]
   simp only[List.length_map,List.length_take]
   omega
  rw[List.take_add_one,hio]
  obtain⟨x,hx⟩:∃x,p.fed i=x:=⟨_,rfl⟩
  rw[hx]at hfd
  have hS2:S++[⟨110::decN i,0,x,nulE,0,false⟩]=(p.order.take n++[i]).map p.netS:=by
   rw[hS,List.map_append,<- hx]
   rfl
  simp only[Option.toList_some]
  rw[<- hS2]
  simp[hn,hi,hio]
  refine V.drawX (fun t=>if t=55 then some (.fn (.dat (.str (Go.Lib.decDigits i)))) else if t=59 then some (.ro (aE x)) else none) (by kernel_rfl) (by kernel_rfl) (by simp) ?_
  simp
  refine⟨hit,by unfold decN at hdn;omega,hfd,fun u=>⟨by omega,by kernel_rfl,⟨by omega,by omega⟩,⟨vi,u,vp,vm,I,S++[⟨110::decN i,0,x,nulE,0,false⟩],P,M⟩,⟨hI,rfl,hP,hM⟩,?_⟩⟩
  simp[nulE,decN]
 ·rintro⟨vi,vs,vp,vm,I,S,P,M⟩ ⟨hI,hS,hP,hM⟩
  simp only at hI hS hP hM
  rw[List.take_length]at hS
  simp
  exact V.cutV (Hs:=CtV.hp ⟨vi,vs,vp,vm,I,S,P,M⟩ s p.drives.length b2 b3) (ctE s b2 b3) (by simp) (by simp) (V.of_rest rfl (control_c h hD hB b2 b3 ⟨vi,vs,vp,vm,I,S,P,M⟩ hI hS hP hM))
theorem control_a {s:PlS}{p:Pln}(h:s.At p) (hD:p.D) (hB:p.B) (b2 b3:Nat) (q:CtV) (hI:q.I=[]) (hS:q.S=[]) (hP:q.P=[]) (hM:q.M=[]) :
  V ⟨Tryz.prog,none,143⟩ (restC Tryz.f146 2) (hdE (ctE s b2 b3) []) (q.hp s p.drives.length b2 b3) (RetV Tryz.prog [.cell 2 26] (CtQ s p)):=by
 have hbu:=h.bu
 have hbl:=h.bl
 have hps:=h.ps
 refine V.rest rfl ?_
 refine V.of_vcN 1 ?_
 simp[hbu]
 refine V.forI (σ:=CtV) p.butt.length [0,2,3,22,23] (by simp;exact rfl) (fun n _=>[(24,aI n)]) (fun _ q=>q.hp s p.drives.length b2 b3) (fun n q=>q.I=((p.butt.take n).map fun i=>((p.ps[i]?).map (·.name)).getD [])∧q.S=[]∧q.P=[]∧q.M=[]) q ⟨by simpa using hI,hS,hP,hM⟩ (by simp) ⟨by simp;exact rfl,by simp⟩ ?_ ?_
 ·rintro n ⟨vi,vs,vp,vm,I,S,P,M⟩ hn ⟨hI,hS,hP,hM⟩
  simp only at hI hS hP hM
  obtain⟨i,hi⟩:∃i,p.butt[n]=i:=⟨_,rfl⟩
  have hio:p.butt[n]?=some i:=by rw[List.getElem?_eq_getElem hn,hi]
  have him:=(mem_buttN.1 (List.mem_of_getElem? hio)).1
  obtain⟨x,hx⟩:∃x,p.ps[i]=x:=⟨_,rfl⟩
  have hxo:p.ps[i]?=some x:=by rw[List.getElem?_eq_getElem him,hx]
  have hIl:I.length<=64:=by
   rw[hI]
   simp only[List.length_map,List.length_take]
   omega
  rw[List.take_add_one,hio]
  have hI2:I++[x.name]=(p.butt.take n++[i]).map fun i=>((p.ps[i]?).map (·.name)).getD []:=by
   rw[hI,List.map_append]
   simp[hxo]
  simp only[Option.toList_some]
  rw[<- hI2]
  simp[hn,hi,hio]
  refine V.drawX (fun _=>none) (by kernel_rfl) (by kernel_rfl) (by simp) ?_
  simp[hps,him,hx,hxo]
  intro u
  refine⟨by omega,by kernel_rfl,⟨by omega,by omega⟩,⟨u,vs,vp,vm,I++[x.name],S,P,M⟩,⟨rfl,hS,hP,hM⟩,?_⟩
  simp
 ·rintro⟨vi,vs,vp,vm,I,S,P,M⟩ ⟨hI,hS,hP,hM⟩
  simp only at hI hS hP hM
  rw[List.take_length]at hI
  simp
  exact V.cutV (Hs:=CtV.hp ⟨vi,vs,vp,vm,I,S,P,M⟩ s p.drives.length b2 b3) (ctE s b2 b3) (by simp) (by simp) (V.of_rest rfl (control_b h hD hB b2 b3 ⟨vi,vs,vp,vm,I,S,P,M⟩ hI hS hP hM))
theorem control_s {s:PlS}{p:Pln}(h:s.At p) (hD:p.D) (hB:p.B):CallS Tryz.prog 146 [.ptr 170 s.b 0] s.hp fun r H'=>r=aC p.ctl∧H'=s.hp:=by
 have hdr:=h.dr
 have hdl:=h.dl
 refine CallS.frzKeep (CallS.dropP (callS_cut 2 Tryz.func146 rfl Tryz.ntmps146 (rs:=[.cell 2 26]) rfl (by kernel_rfl) (by simp) (by kernel_rfl) (K:=CtQ s p) ?_) (K':=fun r H'=>∃q:CtV,r=.agg [aI p.drives.length,.own 61 q.vi,.own 62 q.vs,.own 63 q.vp,.own 64 q.vm]∧H'=q.top s∧(⟨p.drives.length,q.I,q.S,q.P,q.M⟩:Control)=p.ctl) (fun _ _ ⟨q,h1,h2,h3⟩=>⟨_,h2,q,h1,rfl,h3⟩)) ?_
 ·simp[hdr]
  intro b2 b3
  refine V.inv (H':=CtV.hp ⟨.slice none 0 0,.slice none 0 0,.slice none 0 0,.slice none 0 0,[],[],[],[]⟩ s p.drives.length b2 b3) (fun x H0 hi=>?_) (V.cutV (Hs:=CtV.hp ⟨.slice none 0 0,.slice none 0 0,.slice none 0 0,.slice none 0 0,[],[],[],[]⟩ s p.drives.length b2 b3) (ctE s b2 b3) (by simp) (by simp) (V.of_rest rfl (control_a h hD hB b2 b3 ⟨.slice none 0 0,.slice none 0 0,.slice none 0 0,.slice none 0 0,[],[],[],[]⟩ rfl rfl rfl rfl)))
  refine Inv.nil (t:=61) (e:=.seq (.slice none 0 0) 9 1 []) (Inv.nil (t:=62) (e:=.seq (.slice none 0 0) 63 10 []) (Inv.nil (t:=63) (e:=.seq (.slice none 0 0) 3 1 []) (Inv.nil (t:=64) (e:=.seq (.slice none 0 0) 3 1 []) ?_ ⟨rfl,rfl⟩) ⟨rfl,rfl⟩) ⟨rfl,rfl⟩) ⟨rfl,rfl⟩
  exact Inv.swap (g:=3) (H:=(3,.box b3 [aI p.drives.length,.nils,.nils,.nils,.nils])::(2,.box b2 [aI 0,.nils,.nils,.nils,.nils])::s.hp) (e:=.box b3 [aI p.drives.length,.nils,.nils,.nils,.nils]) (e':=.box b3 [aI p.drives.length,.own 61 (.slice none 0 0),.own 62 (.slice none 0 0),.own 63 (.slice none 0 0),.own 64 (.slice none 0 0)]) rfl (box_sat (Ds_c D_i (Ds_c D_nilo (Ds_c D_nilo (Ds_c D_nilo (Ds_c D_nilo Ds_i)))))) (fun b hb=>hb) hi
 ·rintro r H' ⟨q,rfl,rfl,hq⟩
  refine⟨[(61,_),(62,_),(63,_),(64,_)],s.hp,List.Perm.refl _,?_,?_,rfl⟩
  ·simp[frz,hget,frzs,allD,isD]
  ·rw[<- hq]
   simp[frz,hget,frzs,rowsD]
end Go.Proofs.YtafamcbdaeppoaaGreatDoor
