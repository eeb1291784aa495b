/- Texts joined by a program: Qf,Qg,Qm,Qi,Ito,Qj. -/
import Derived.Lib.ItoaNum
import Derived.Test.YtpadinblmjlggaaGreatDoorW18
import Derived.Test.YtpadinblmjlggaaGreatDoorW14
import Derived.Test.YtpadinblmjlggaaGreatDoorW12
set_option linter.unusedSimpArgs false
set_option linter.unusedVariables false
set_option maxHeartbeats 8000000
set_option maxRecDepth 10000
namespace Go.Proofs.YtpadinblmjlggaaGreatDoor
abbrev rE (x:Expr):List A:=[.dat (.int .i64 x.op),.dat (.int .i64 x.index),.dat (.sl (x.args.map encE))]
theorem rowsD_E (xs:List Expr):rowsD (xs.map rE)=xs.map encE:=by unfold rowsD;rw[List.map_map];congr 1;funext x;simp[encE_eq]
theorem allD_E (xs:List Expr):allD (xs.map rE)=true:=by simp[allD,isD]
attribute [simp] rowsD_E allD_E
theorem PlS.At.kind {s:PlS}{p:Pln}(h:s.At p) {i:Nat}(hi:i<p.ps.length):CallS Tryz.prog 52 [.ptr 170 s.b 0,aI i] s.hp fun r H'=>r=aI (kindOf p.ps i)∧H'=s.hp:=by
 rw[<- h.ps]at hi ⊢
 exact kind_s h.ok hi
theorem PlS.At.klt {s:PlS}{p:Pln}(h:s.At p) (i:Nat):kindOf p.ps i<14:=by rw[<- h.ps];exact h.ok.klt i
def Pln.posL (p:Pln) (g:Gift):List Expr:=if 1<manyK (kindOf p.ps g.part) then [if g.pos=0 then notE (varE ((p.line g.part).getD 0:Nat)) else varE ((p.line g.part).getD 0:Nat)] else []
theorem mapE (l:List Expr):List.map ((fun x=>List.map A.dat x)∘encE) l=l.map rE:=by
 congr 1
 funext x
 simp[encE_eq]
theorem term_c {s:PlS}{p:Pln}(g:Gift) (b4:Nat) (u v:Value) (Ls Ms:List Expr) (hL:Ls.length<=2) (hM:Ms.length<=2):V ⟨Tryz.prog,none,67⟩ (restC Tryz.f208 4)
  (hdE [(0,.ptr 170 s.b 0),(3,.rptr (encGf g)),(4,.ptr 4 b4 0),(5,.own 38 u),(6,.own 54 v)] []) ((54,.seq v 98 3 (Ms.map rE))::(38,.seq u 98 3 (Ls.map rE))::(4,.box b4 [aI 0,aI 0,.nils])::s.hp)
  (RetV Tryz.prog [.cell 4 98] fun r H'=>r=aE (sevE 3 (Ls++(if g.pass.all=true then Ms else [sevE 4 Ms])))∧subP s.hp H'):=by
 have h4:=several_fn 4 Ms (by omega)
 have h3:=several_fn 3 (Ls++(if g.pass.all=true then Ms else [sevE 4 Ms])) (by split<;>simp<;>omega)
 refine V.rest rfl ?_
 refine V.frz1 (τ:=54) (h:=v) (e:=98) (sz:=3) (rows:=Ms.map rE) 6 rfl rfl (allD_E _) ?_
 rw[rowsD_E]
 refine V.of_vc ?_
 simp
 refine⟨fun hall=>?_,fun hall=>?_⟩
 ·rw[if_neg (by simp[hall])]at h3 ⊢
  obtain⟨x,hx⟩:∃x,sevE 4 Ms=x:=⟨_,rfl⟩
  rw[hx]at h4 h3 ⊢
  refine h4.s ?_
  simp
  intro u'
  refine⟨by omega,h3.give (Hc:=[(38,_)]) (Hr:=(4,.box b4 [aI 0,aI 0,.nils])::s.hp) rfl (by simp[frzs,frz,encE_eq]) ?_⟩
  simp
  exact (subP.refl _).c _
 ·rw[if_pos hall]at h3 ⊢
  intro u'
  rw[mapE]
  refine⟨⟨?_,by omega⟩,h3.give (Hc:=[(38,_)]) (Hr:=(4,.box b4 [aI 0,aI 0,.nils])::s.hp) rfl (by simp[frzs,frz]) ?_⟩
  ·intro y hy
   obtain⟨x,_,rfl⟩:=List.mem_map.1 hy
   simp[encE_eq]
  ·simp
   exact (subP.refl _).c _
theorem term_b {s:PlS}{p:Pln}(h:s.At p) {g:Gift}(hsl:g.pass.src.length<=2) (hsrc:∀t∈g.pass.src,((g.part:Int),t)∈allP p.ps) (b4:Nat) (u:Value) (Ls:List Expr) (hL:Ls.length<=2):V ⟨Tryz.prog,none,67⟩ (restC Tryz.f208 3)
  (hdE [(0,.ptr 170 s.b 0),(3,.rptr (encGf g)),(4,.ptr 4 b4 0),(5,.own 38 u),(6,.nils)] []) ((38,.seq u 98 3 (Ls.map rE))::(4,.box b4 [aI 0,aI 0,.nils])::s.hp)
  (RetV Tryz.prog [.cell 4 98] fun r H'=>r=aE (sevE 3 (Ls++(if g.pass.all=true then g.pass.src.map (p.gate g.part) else [sevE 4 (g.pass.src.map (p.gate g.part))])))∧subP s.hp H'):=by
 have hgt:=fun t ht=>netGate_s h (i:=g.part) (t:=t) (hsrc t ht)
 refine V.rest rfl ?_
 refine V.of_vcN 1 ?_
 simp
 refine V.forI (σ:=Value) g.pass.src.length [0,3,4,5,41,42] (by simp;exact rfl) (fun i v=>[(6,.own 54 v),(43,aI i)]) (fun i v=>(54,.seq v 98 3 (((g.pass.src.take i).map (p.gate g.part)).map rE))::(38,.seq u 98 3 (Ls.map rE))::(4,.box b4 [aI 0,aI 0,.nils])::s.hp) (fun _ _=>True) (.slice none 0 0) trivial (by simp) ⟨by simp;exact rfl,by simp⟩ ?_ ?_
 ·rintro i v hi -
  obtain⟨t,ht⟩:∃t,g.pass.src[i]=t:=⟨_,rfl⟩
  have hto:g.pass.src[i]?=some t:=by rw[List.getElem?_eq_getElem hi,ht]
  have hg:=hgt t (List.mem_of_getElem? hto)
  rw[List.take_add_one,hto]
  have hW:(g.pass.src.take i).length<=2:=by rw[List.length_take];omega
  generalize g.pass.src.take i=W at *
  simp[hi,ht,hto]
  refine (hg.mid [(54,_),(38,_),(4,_)] []).mono ?_
  rintro r H' ⟨rfl,rfl⟩
  simp
  exact⟨by omega,by omega⟩
 ·rintro v -
  rw[List.take_length]
  simp
  refine V.cutV (Hs:=(54,.seq v 98 3 ((g.pass.src.map (p.gate g.part)).map rE))::(38,.seq u 98 3 (Ls.map rE))::(4,.box b4 [aI 0,aI 0,.nils])::s.hp) [(0,.ptr 170 s.b 0),(3,.rptr (encGf g)),(4,.ptr 4 b4 0),(5,.own 38 u),(6,.own 54 v)] (by simp) (by simp) ?_
  exact V.of_rest rfl (term_c (p:=p) g b4 u v Ls (g.pass.src.map (p.gate g.part)) hL (by simpa using hsl))
theorem term_s {s:PlS}{p:Pln}(h:s.At p) {g:Gift}(hg:g.part<p.ps.length) (hsl:g.pass.src.length<=2) (hsrc:∀t∈g.pass.src,((g.part:Int),t)∈allP p.ps) :
  CallS Tryz.prog 208 [.ptr 170 s.b 0,.record (encGf g)] s.hp fun r H'=>r=aE (p.term g)∧H'=s.hp:=by
 have hk:=h.kind hg
 have hpo:=Positions_k (kindOf p.ps g.part) (h.klt g.part)
 have hln:=h.line g.part
 have ht:p.term g=sevE 3 (p.posL g++(if g.pass.all=true then g.pass.src.map (p.gate g.part) else [sevE 4 (g.pass.src.map (p.gate g.part))])):=rfl
 rw[ht]
 have hrest:=fun b4 u Ls hL=>term_b h hsl hsrc b4 u Ls hL
 refine CallS.dropP (callS_cut 3 Tryz.func208 rfl Tryz.ntmps208 (rs:=[.cell 4 98]) rfl (by kernel_rfl) (by simp) (by kernel_rfl) (K:=fun r H'=>r=aE (sevE 3 (p.posL g++(if g.pass.all=true then g.pass.src.map (p.gate g.part) else [sevE 4 (g.pass.src.map (p.gate g.part))])))∧subP s.hp H') ?_) (fun _ _ ⟨h1,h2⟩=>⟨_,h2,h1,rfl⟩)
 generalize (if g.pass.all=true then g.pass.src.map (p.gate g.part) else [sevE 4 (g.pass.src.map (p.gate g.part))])=T at hrest ⊢
 simp
 intro b4
 refine (hk.mid [(4,_)] []).mono ?_
 rintro r H' ⟨rfl,rfl⟩
 simp
 refine hpo.s ?_
 simp
 refine⟨fun hm=>?_,fun hm=>?_⟩
 ·have hp:p.posL g=[if g.pos=0 then notE (varE ((p.line g.part).getD 0:Nat)) else varE ((p.line g.part).getD 0:Nat)]:=by
   unfold Pln.posL
   rw[if_pos (by omega)]
  obtain⟨x,hx⟩:∃x,varE ((p.line g.part).getD 0:Nat)=x:=⟨_,rfl⟩
  have hv:=variable_fn ((p.line g.part).getD 0:Nat)
  have hop:=opposite_fn x
  rw[hx]at hp hv
  refine V.drawX (fun t=>if t=29 then some (.fn (aE x)) else none) (by kernel_rfl) (by kernel_rfl) (by simp) ?_
  simp[hln]
  refine⟨?_,fun b9=>⟨by kernel_rfl,fun h0=>?_,fun h0=>?_⟩⟩
  ·cases hq:p.line g.part<;>rw[hq]at hv<;>simpa using hv
  ·refine hop.s ?_
   rw[hp,if_pos h0]
   obtain⟨y,hy⟩:∃y,notE x=y:=⟨_,rfl⟩
   rw[hy]
   simp
   intro u
   exact V.cutV (Hs:=(38,.seq u 98 3 ([y].map rE))::(4,.box b4 [aI 0,aI 0,.nils])::s.hp) [(0,.ptr 170 s.b 0),(3,.rptr (encGf g)),(4,.ptr 4 b4 0),(5,.own 38 u),(6,.nils)] (by simp) (by simp) (V.of_rest rfl (hrest b4 u [y] (by simp)))
  ·rw[hp,if_neg h0]
   simp
   intro u
   exact V.cutV (Hs:=(38,.seq u 98 3 ([x].map rE))::(4,.box b4 [aI 0,aI 0,.nils])::s.hp) [(0,.ptr 170 s.b 0),(3,.rptr (encGf g)),(4,.ptr 4 b4 0),(5,.own 38 u),(6,.nils)] (by simp) (by simp) (V.of_rest rfl (hrest b4 u [x] (by simp)))
 ·have hp:p.posL g=[]:=by
   unfold Pln.posL
   rw[if_neg (by omega)]
  rw[hp]
  exact V.cutV (Hs:=(38,.seq (.slice none 0 0) 98 3 (([]:List Expr).map rE))::(4,.box b4 [aI 0,aI 0,.nils])::s.hp) [(0,.ptr 170 s.b 0),(3,.rptr (encGf g)),(4,.ptr 4 b4 0),(5,.own 38 (.slice none 0 0)),(6,.nils)] (by simp) (by simp) (V.of_rest rfl (hrest b4 (.slice none 0 0) [] (by simp)))
def Pln.fedX (p:Pln) (x:PortZ):List Expr:=(if kindOf p.ps x.1.toNat=0 then [⟨0,1,[]⟩] else [])++(giftsZ p.ps p.drives x).map p.term
theorem Pln.fedX_len (p:Pln) (x:PortZ):(p.fedX x).length<=3:=by
 unfold Pln.fedX
 rw[List.length_append,List.length_map]
 have h1:(giftsZ p.ps p.drives x).length<=2:=by
  unfold giftsZ
  split
  ·simp
  ·exact Nat.le_trans (gvN_len _ _ _ _) (manyK_le _)
 split<;>simp<;>omega
abbrev fdE (v:Value) (l:List Expr):Nat×Ent:=(55,.seq v 98 3 (l.map rE))
abbrev fdR (p:Pln) (s:Value×List Expr) (x:PortZ) (o:Except Unit (Value×List Expr)):Prop:=∃v,o=.ok (v,s.2++p.fedX x)
theorem fd_fold (p:Pln):∀(l:List PortZ) (s:Value×List Expr) (o:Except Unit (Value×List Expr)),FoldR (fdR p) l s o->∃v,o=.ok (v,s.2++p.fedL l)
 | [],s,o,h=>⟨s.1,by rw[h];simp[Pln.fedL]⟩
 | x::l,s,o,h=>by
  obtain⟨o1,⟨v,rfl⟩,h2⟩:=h
  obtain⟨w,hw⟩:=fd_fold p l _ o h2
  refine⟨w,?_⟩
  rw[hw]
  simp[Pln.fedL,Pln.fedX]
theorem sat_last {x:X}{hh:Value}{e sz:Nat}{rows:List (List A)}{r r':List A}(hl:r'.length=r.length) (hd:∀vs,Ds x r vs->Ds x r' vs) (hs:Ent.sat x (.seq hh e sz (rows++[r]))):Ent.sat x (.seq hh e sz (rows++[r'])):=by
 have:=seq_swap (i:=rows.length) (rs:=rows++[r]) (r:=r) (r':=r') (by simp) hl hd hs
 simpa using this
theorem fed_s {s:PlS}{p:Pln}(h:s.At p) {i:Nat}(hi:i<p.nets.length) :
  CallS Tryz.prog 143 [.ptr 170 s.b 0,aI i] s.hp fun r H'=>r=aE (p.fed i)∧H'=s.hp:=by
 have hl:s.ns[i]?=some p.nets[i]:=by rw[h.ns];exact List.getElem?_eq_getElem hi
 have hpf:p.fed i=sevE 4 (p.fedL p.nets[i]):=by
  unfold Pln.fed
  rw[List.getD_eq_getElem?_getD,List.getElem?_eq_getElem hi]
  rfl
 have hnet:=h.ok.net _ (List.mem_of_getElem? hl)
 rw[hpf]
 generalize p.nets[i]=l at hl hnet ⊢
 refine CallS.dropP (callS_of Tryz.func143 rfl Tryz.ntmps143 (rs:=[.cell 4 98]) rfl (by kernel_rfl) (by simp) (by kernel_rfl) (K:=fun r H'=>r=aE (sevE 4 (p.fedL l))∧subP s.hp H') ?_) (fun _ _ ⟨h1,h2⟩=>⟨_,h2,h1,rfl⟩)
 simp
 intro b2 b4 b5
 have hg:=(gifts_s (s:=s) i).frameL (H1:=[(5,.box b5 [.nils]),(4,.box b4 [aI 0,aI 0,.nils]),(2,.box b2 [.ptr 170 s.b 0])])
 refine hg.mono ?_
 rintro r H' ⟨_,⟨bg,rfl,rfl⟩,rfl⟩
 simp
 refine V.inv (H':=fdE (.slice none 0 0) []::(5,.box b5 [.own 55 (.slice none 0 0)])::(4,.box b4 [aI 0,aI 0,.nils])::(2,.box b2 [.ptr 170 s.b 0])::gfB s bg) (fun x H0 hi=>Inv.nil (Inv.swap (g:=5) (H:=(5,.box b5 [.nils])::(4,.box b4 [aI 0,aI 0,.nils])::(2,.box b2 [.ptr 170 s.b 0])::gfB s bg) (e:=.box b5 [.nils]) (e':=.box b5 [.own 55 (.slice none 0 0)]) rfl (box_sat (Ds_c D_nilo Ds_i)) (fun b hb=>hb) hi) ⟨rfl,rfl⟩) ?_
 refine V.rangeFoldB (σ:=Value×List Expr) (δ:=Unit) (items:=l) (enc:=encGs s.ps p.drives) (B:=gfB s bg) 100 (by simp) trivial (gifts_iter h.ok h.dr (by have:=h.dl;omega) hl bg)
  (fun q=>[fdE q.1 q.2,(5,.box b5 [.own 55 q.1]),(4,.box b4 [aI 0,aI 0,.nils]),(2,.box b2 [.ptr 170 s.b 0])]) (fun _=>[]) (fun _=>none) (fun rest q=>q.2.length+3*rest.length<=1344) (fdR p) (.slice none 0 0,[]) (by have:=hnet.1;simp;omega) ⟨_,List.Sublist.refl _,List.perm_append_comm (l₁:=[fdE (.slice none 0 0) [],(5,.box b5 [.own 55 (.slice none 0 0)]),(4,.box b4 [aI 0,aI 0,.nils]),(2,.box b2 [.ptr 170 s.b 0])])⟩ (by simp[encGs]) ?_ ?_
 ·rintro lp ⟨v,Ls⟩ x rest hL hx
  simp only[List.length_cons]at hL
  have hx3:=p.fedX_len x
  obtain⟨j,q,hj,hq,hq1,hq2⟩:=mem_allN.1 (hnet.2.2 _ hx)
  obtain⟨x1,x2⟩:=x
  simp only at hq1
  subst hq1
  rw[h.ps]at hj hq
  have hk:=h.kind hj
  simp[encGs]
  intro b6
  refine (hk.mid [(6,_),(175,_)] [fdE v Ls,(5,_),(4,_),(2,_)]).mono ?_
  rintro r H' ⟨rfl,rfl⟩
  have hxa:=hnet.2.2 _ hx
  have hgp:=fun G hG t ht=>gift_port h.ok (d:=p.drives) hxa (g:=G) hG (t:=t) ht
  have hterm:∀G∈giftsZ s.ps p.drives ((j:Int),x2),CallS Tryz.prog 208 [.ptr 170 s.b 0,.record (encGf G)] s.hp fun r H'=>r=aE (p.term G)∧H'=s.hp:=fun G hG=>by
   have hm:=given_mem (gifts_mem hG)
   simp only[Int.toNat_natCast]at hm
   exact term_s h (by rw[hm.1];exact hj) (passK_srcl _ _ _ hm.2.2) (fun t ht=>by rw[<- h.ps];exact hgp G hG t ht)
  have hgl:(giftsZ s.ps p.drives ((j:Int),x2)).length<=2:=by
   unfold giftsZ
   split
   ·simp
   ·exact Nat.le_trans (gvN_len _ _ _ _) (manyK_le _)
  have hfx:p.fedX ((j:Int),x2)=(if kindOf p.ps j=0 then [⟨0,1,[]⟩] else [])++(giftsZ s.ps p.drives ((j:Int),x2)).map p.term:=by
   unfold Pln.fedX
   rw[h.ps]
   rfl
  simp only[fdR,hfx]
  generalize giftsZ s.ps p.drives ((j:Int),x2)=GS at *
  by_cases hk0:kindOf p.ps j=0
  ·rw[if_pos hk0]
   simp[hk0]
   refine V.drawXR (fun t=>none) (by kernel_rfl) (by kernel_rfl) (by kernel_rfl) (by simp) ?_
   simp
   intro u
   obtain⟨Bs,hBs⟩:∃Bs,Ls++[⟨0,1,[]⟩]=Bs:=⟨_,rfl⟩
   have hBl:Bs.length=Ls.length+1:=by rw[<- hBs];simp
   have hBr:Bs.map rE=Ls.map rE++[rE ⟨0,1,[]⟩]:=by rw[<- hBs,List.map_append];rfl
   refine⟨by omega,by omega,by kernel_rfl,?_⟩
   refine V.inv (H':=(6,.box b6 ((encPo ((j:Int),x2)).map A.dat))::(gfB s bg++[fdE u Bs,(5,.box b5 [.own 55 u]),(4,.box b4 [aI 0,aI 0,.nils]),(2,.box b2 [.ptr 170 s.b 0])])) (fun x H0 hi=>Inv.swap (g:=55) (e:=.seq u 98 3 (Ls.map rE++[[aI 0,aI 1,.nils]])) (e':=.seq u 98 3 (Bs.map rE)) (H:=(6,.box b6 ((encPo ((j:Int),x2)).map A.dat))::(gfB s bg++[(55,.seq u 98 3 (Ls.map rE++[[aI 0,aI 1,.nils]])),(5,.box b5 [.own 55 u]),(4,.box b4 [aI 0,aI 0,.nils]),(2,.box b2 [.ptr 170 s.b 0])])) rfl (fun hs=>by
    rw[hBr]
    exact sat_last (r:=[aI 0,aI 1,.nils]) rfl (Ds_c D_i (Ds_c D_i (Ds_c D_nild Ds_i))) hs) (fun b hb=>hb) hi) ?_
   rw[show Ls++([(⟨0,1,[]⟩:Expr)]++List.map p.term GS)=Bs++List.map p.term GS by rw[<- hBs];simp]
   refine V.forI (σ:=Value) GS.length [2,4,5,26,27] (by simp;exact rfl) (fun n _=>[(28,aI n)]) (fun n w=>gfB s bg++[fdE w (Bs++(GS.take n).map p.term),(5,.box b5 [.own 55 w]),(4,.box b4 [aI 0,aI 0,.nils]),(2,.box b2 [.ptr 170 s.b 0])]) (fun _ _=>True) u trivial (by simp) ⟨by simp;exact rfl,by simp⟩ ?_ ?_
   ·rintro n w hn -
    obtain⟨G,hG⟩:∃G,GS[n]=G:=⟨_,rfl⟩
    have hGo:GS[n]?=some G:=by rw[List.getElem?_eq_getElem hn,hG]
    have htm:=hterm G (List.mem_of_getElem? hGo)
    have e1:Bs++(GS.take (n+1)).map p.term=(Bs++(GS.take n).map p.term)++[p.term G]:=by
     rw[List.take_add_one,hGo]
     simp
    have hln:(Bs++(GS.take n).map p.term).length<=1350:=by
     rw[List.length_append,List.length_map,List.length_take]
     omega
    rw[e1]
    generalize p.term G=tx at *
    generalize Bs++(GS.take n).map p.term=W at *
    simp[hn,hG,hGo]
    intro b9
    refine V.drawXR (fun t=>if t=35 then some (.ro (aE tx)) else none) (by kernel_rfl) (by kernel_rfl) (by kernel_rfl) (by simp) ?_
    simp[hn,hG,hGo]
    exact⟨htm,by omega,by omega,by kernel_rfl,by omega,by omega⟩
   ·rintro w -
    rw[List.take_length]
    simp
    refine⟨.ok (w,Bs++GS.map p.term),⟨w,rfl⟩,?_,?_⟩
    ·rintro a b h
     cases h
     rw[List.length_append,List.length_map]
     omega
    ·exact (((((((((subP.refl []).c _).cc _).cc _).cc _).cc _).cc _).cc _).cc _).cc _
  ·rw[if_neg hk0]
   simp[hk0]
   refine V.forI (σ:=Value) GS.length [2,4,5,26,27] (by simp;exact rfl) (fun n _=>[(28,aI n)]) (fun n w=>gfB s bg++[fdE w (Ls++(GS.take n).map p.term),(5,.box b5 [.own 55 w]),(4,.box b4 [aI 0,aI 0,.nils]),(2,.box b2 [.ptr 170 s.b 0])]) (fun _ _=>True) v trivial (by simp) ⟨by simp;exact rfl,by simp⟩ ?_ ?_
   ·rintro n w hn -
    obtain⟨G,hG⟩:∃G,GS[n]=G:=⟨_,rfl⟩
    have hGo:GS[n]?=some G:=by rw[List.getElem?_eq_getElem hn,hG]
    have htm:=hterm G (List.mem_of_getElem? hGo)
    have e1:Ls++(GS.take (n+1)).map p.term=(Ls++(GS.take n).map p.term)++[p.term G]:=by
     rw[List.take_add_one,hGo]
     simp
    have hln:(Ls++(GS.take n).map p.term).length<=1350:=by
     rw[List.length_append,List.length_map,List.length_take]
     omega
    rw[e1]
    generalize p.term G=tx at *
    generalize Ls++(GS.take n).map p.term=W at *
    simp[hn,hG,hGo]
    intro b9
    refine V.drawXR (fun t=>if t=35 then some (.ro (aE tx)) else none) (by kernel_rfl) (by kernel_rfl) (by kernel_rfl) (by simp) ?_
    simp[hn,hG,hGo]
    exact⟨htm,by omega,by omega,by kernel_rfl,by omega,by omega⟩
   ·rintro w -
    rw[List.take_length]
    simp
    refine⟨.ok (w,Ls++GS.map p.term),⟨w,rfl⟩,?_,?_⟩
    ·rintro a b h
     cases h
     rw[List.length_append,List.length_map]
     omega
    ·exact (((((((((subP.refl []).c _).cc _).cc _).cc _).cc _).cc _).cc _).cc _).cc _
 ·intro o ho
  obtain⟨v,rfl⟩:=fd_fold p l _ o ho
  have hfl:(p.fedL l).length<=4294967296:=by
   have:∀m:List PortZ,(p.fedL m).length<=3*m.length:=by
    intro m
    induction m with
    | nil=>simp[Pln.fedL]
    | cons x m ih=>
     have h2:=p.fedX_len x
     have e:p.fedL (x::m)=p.fedX x++p.fedL m:=by simp[Pln.fedL,Pln.fedX]
     rw[e,List.length_append,List.length_cons]
     omega
   have:=this l
   have:=hnet.1
   omega
  have h4:=several_fn 4 (p.fedL l) hfl
  obtain⟨z,hz⟩:∃z,sevE 4 (p.fedL l)=z:=⟨_,rfl⟩
  rw[hz]at h4 ⊢
  simp
  refine CallS.perm (H:=fdE v (p.fedL l)::([(175,.box bg [.ptr 170 s.b 0])]++s.hp++[(5,.box b5 [.own 55 v]),(4,.box b4 [aI 0,aI 0,.nils]),(2,.box b2 [.ptr 170 s.b 0])])) ?_ (List.perm_middle (l₁:=[(175,_),_,_,_])).symm
  refine h4.give (Hc:=[fdE v (p.fedL l)]) (Hr:=[(175,.box bg [.ptr 170 s.b 0])]++s.hp++[(5,.box b5 [.own 55 v]),(4,.box b4 [aI 0,aI 0,.nils]),(2,.box b2 [.ptr 170 s.b 0])]) rfl (by simp[frzs,frz,fdE]) ?_
  simp
  exact (((((((subP.refl []).c _).c _).c _).cc _).cc _).cc _).c _
structure Pln.B (p:Pln):Prop where
 pl:p.ps.length<=64
 dl:p.drives.length<=64
 ol:p.order.length<=448
 net:∀l∈p.nets,l.length<=448
 names:∀x∈p.ps,x.name.length<=1000
 delay:∀x∈p.ps,0<=x.delay∧x.delay<=1000000
 small:∀n∈p.order,n<=448
theorem okE_mk {op n:Int}{l:List Expr}(ho:0<=op∧op<=10) (hn:0<=n∧n<=1000000) (hl:l.length<=1000000) (h:∀a∈l,OkE a):OkE ⟨op,n,l⟩:=
 ⟨_,by simp only;omega,(inR_i64 _).2 (by simp only;omega),(inR_i64 _).2 (by simp only;omega),h⟩
theorem okE_nul:OkE nulE:=okE_mk (by simp) (by simp) (by simp) (by simp)
theorem okE_sev {op:Int}(ho:0<=op∧op<=10) {l:List Expr}(hl:l.length<=1000000) (h:∀a∈l,OkE a):OkE (sevE op l):=by
 unfold sevE
 split
 ·exact okE_nul
 ·exact h _ (by simp)
 ·exact okE_mk ho (by simp) hl h
theorem okE_var {n:Nat}(hn:n<=1000000):OkE (varE (n:Int)):=okE_mk (by simp) (by omega) (by simp) (by simp)
theorem okE_not {x:Expr}(h:OkE x):OkE (notE x):=okE_mk (by simp) (by simp) (by simp) (by simpa using h)
theorem Pln.B.bl {p:Pln}(h:p.B):p.butt.length<=64:=Nat.le_trans (buttN_len _ _) h.pl
theorem Pln.B.vl {p:Pln}(h:p.B):p.valv.length<=64:=Nat.le_trans (valvN_len _ _ _) h.pl
theorem Pln.B.fl {p:Pln}(h:p.B):p.first<=192:=by
 have:=h.bl
 have:=h.dl
 unfold Pln.first
 omega
theorem gate_cases (p:Pln) (i:Nat) (t:List UInt8):p.gate i t=nulE∨∃k,k<p.order.length∧p.gate i t=varE (p.first+k:Nat):=by
 rw[Pln.gate_eq]
 unfold Pln.gateW
 split
 ·rename_i k hk
  exact .inr ⟨k,(List.findIdx?_eq_some_iff_getElem.1 hk).1,rfl⟩
 ·exact .inl rfl
theorem Pln.B.gate {p:Pln}(h:p.B) (i:Nat) (t:List UInt8):OkE (p.gate i t)∧0<=(p.gate i t).index∧(p.gate i t).index<=1000:=by
 have:=h.fl
 have:=h.ol
 rcases gate_cases p i t with e | ⟨k,hk,e⟩
 ·rw[e]
  exact⟨okE_nul,by simp[nulE],by simp[nulE]⟩
 ·rw[e]
  exact⟨okE_var (by omega),by simp only[varE];omega,by simp only[varE];omega⟩
theorem Pln.B.line {p:Pln}(h:p.B) (i:Nat):(p.line i).getD 0<=2000:=by
 have h1:=h.fl
 have h2:=h.ol
 have h3:=h.dl
 have h4:=h.bl
 have h5:=h.vl
 unfold Pln.line
 split
 ·simp
 ·rename_i x hx
  have a1:p.butt.idxOf i<=p.butt.length:=List.idxOf_le_length
  have a2:p.valv.idxOf i<=p.valv.length:=List.idxOf_le_length
  have a3:(p.drives.findIdx fun d=>(p.ps.getD d.1 x).name==x.name.dropLast)<=p.drives.length:=List.findIdx_le_length
  split
  ·simp only[Option.getD_some]
   omega
  ·split
   ·simp only[Option.getD_some]
    split<;>omega
   ·split
    ·simp only[Option.getD_some]
     omega
    ·simp
theorem Pln.B.term {p:Pln}(h:p.B) {g:Gift}(hs:g.pass.src.length<=2):OkE (p.term g):=by
 have hl:=h.line g.part
 have hv:OkE (varE ((p.line g.part).getD 0:Nat)):=okE_var (by omega)
 have hm:∀a∈g.pass.src.map (p.gate g.part),OkE a:=fun a ha=>by
  obtain⟨t,_,rfl⟩:=List.mem_map.1 ha
  exact (h.gate _ _).1
 unfold Pln.term
 refine okE_sev (by simp) ?_ ?_
 ·rw[List.length_append]
  have h1:(if 1<manyK (kindOf p.ps g.part) then [if g.pos=0 then notE (varE ((p.line g.part).getD 0:Nat)) else varE ((p.line g.part).getD 0:Nat)] else []).length<=1:=by split<;>simp
  have h2:(if g.pass.all=true then g.pass.src.map (p.gate g.part) else [sevE 4 (g.pass.src.map (p.gate g.part))]).length<=2:=by
   split
   ·rw[List.length_map];exact hs
   ·simp
  omega
 ·intro a ha
  rcases List.mem_append.1 ha with ha | ha
  ·split at ha
   ·simp only[List.mem_singleton]at ha
    subst ha
    split
    ·exact okE_not hv
    ·exact hv
   ·simp at ha
  ·split at ha
   ·exact hm a ha
   ·simp only[List.mem_singleton]at ha
    subst ha
    exact okE_sev (by simp) (by rw[List.length_map];omega) hm
theorem gifts_src {ps:List Prt}{d:List Drv}{x:PortZ}{g:Gift}(h:g∈giftsZ ps d x):g.pass.src.length<=2:=passK_srcl _ _ _ (given_mem (gifts_mem h)).2.2
theorem fedL_len (p:Pln):∀l:List PortZ,(p.fedL l).length<=3*l.length
 | []=>by simp[Pln.fedL]
 | x::l=>by
  have h1:=fedL_len p l
  have h2:=p.fedX_len x
  have e:p.fedL (x::l)=p.fedX x++p.fedL l:=by simp[Pln.fedL,Pln.fedX]
  rw[e,List.length_append,List.length_cons]
  omega
theorem Pln.B.fed {p:Pln}(h:p.B) (i:Nat):OkE (p.fed i):=by
 unfold Pln.fed
 have hl:(p.nets.getD i []).length<=448:=by
  rw[List.getD_eq_getElem?_getD]
  cases e:p.nets[i]? with
  | none=>simp
  | some l=>exact h.net l (List.mem_of_getElem? e)
 have h1:=fedL_len p (p.nets.getD i [])
 refine okE_sev (by simp) (by omega) fun a ha=>?_
 unfold Pln.fedL at ha
 rw[List.mem_flatMap]at ha
 obtain⟨x,_,ha⟩:=ha
 rcases List.mem_append.1 ha with ha | ha
 ·split at ha
  ·simp only[List.mem_singleton]at ha
   subst ha
   exact okE_mk (by simp) (by simp) (by simp) (by simp)
  ·simp at ha
 ·obtain⟨g,hg,rfl⟩:=List.mem_map.1 ha
  exact h.term (gifts_src hg)
theorem okS_mk {nm:List UInt8}{k:Int}{x y:Expr}{d:Int}{b:Bool}(hn:nm.length<=1000000) (hk:0<=k∧k<=10) (hx:OkE x) (hy:OkE y) (hd:0<=d∧d<=1000000):OkS ⟨nm,k,x,y,d,b⟩:=
 ⟨by simp only[Sh];omega,by simp only[I64];omega,hx,hy,by simp only[I64];omega⟩
theorem Pln.B.netS {p:Pln}(h:p.B) {n:Nat}(hn:n∈p.order):OkS (p.netS n):=by
 have:=decN_len2 n
 have:=h.small n hn
 exact okS_mk (by simp only[List.length_cons];omega) (by simp) (h.fed n) okE_nul (by simp)
theorem Pln.B.movS {p:Pln}(h:p.B) {i:Nat}(hi:i∈p.valv):OkS (p.movS i):=by
 have h1:=decN_len2 i
 have h2:=(mem_valvN.1 hi).1
 have h3:=h.pl
 unfold Pln.movS
 refine okS_mk (by simp only[List.length_cons];omega) (by split<;>simp) (h.gate _ _).1 ?_ ?_
 ·split
  ·exact okE_nul
  ·split
   ·exact (h.gate _ _).1
   ·exact okE_not (h.gate _ _).1
 ·split
  ·rw[List.getElem?_eq_getElem h2]
   exact h.delay _ (List.getElem_mem h2)
  ·simp
theorem Pln.pil_succ (p:Pln) {n:Nat}{d:Drv}(hd:p.drives[n]?=some d):p.pil (n+1)=p.drvS (p.pil n) d:=by
 unfold Pln.pil
 rw[List.take_add_one,hd,List.foldl_append]
 rfl
theorem Pln.B.pil {p:Pln}(h:p.B) (hv:∀d∈p.drives,d.2<p.ps.length):∀n,n<=p.drives.length->(p.pil n).1.length=n∧(p.pil n).2.1.length=n∧p.sig0.length<=(p.pil n).2.2.length∧(p.pil n).2.2.length<=p.sig0.length+n ∧
  (∀z∈(p.pil n).1,0<=z∧z<=2000)∧(∀z∈(p.pil n).2.1,0<=z∧z<=2000)∧∀x∈(p.pil n).2.2,OkS x
 | 0,_=>by
  refine⟨rfl,rfl,Nat.le_refl _,Nat.le_refl _,by simp[Pln.pil],by simp[Pln.pil],fun x hx=>?_⟩
  have hx2:x∈p.order.map p.netS++p.valv.map p.movS:=hx
  rcases List.mem_append.1 hx2 with hx2 | hx2
  ·obtain⟨n,hn,rfl⟩:=List.mem_map.1 hx2
   exact h.netS hn
  ·obtain⟨n,hn,rfl⟩:=List.mem_map.1 hx2
   exact h.movS hn
 | n+1,hn=>by
  obtain⟨a1,a2,a3,a4,a5,a6,a7⟩:=Pln.B.pil h hv n (by omega)
  obtain⟨d,hd⟩:∃d,p.drives[n]?=some d:=⟨_,List.getElem?_eq_getElem (by omega)⟩
  have hdv:=hv d (List.mem_of_getElem? hd)
  have hs0:p.sig0.length<=512:=by
   have:=h.ol
   have:=h.vl
   unfold Pln.sig0
   simp only[List.length_append,List.length_map]
   omega
  have hfl:=h.fl
  have hdl:=h.dl
  have hpl:=h.pl
  have g1:=h.gate d.2 [49,52]
  have g2:=h.gate d.2 [49,50]
  have hdn:=decN_len2 d.2
  rw[p.pil_succ hd]
  unfold Pln.drvS
  simp only[List.length_append,List.length_singleton,List.mem_append,List.mem_singleton]
  refine⟨by omega,by omega,?_,?_,?_,?_,?_⟩
  ·split
   ·exact a3
   ·simp only[List.length_append,List.length_singleton];omega
  ·split
   ·omega
   ·simp only[List.length_append,List.length_singleton];omega
  ·rintro z (hz | rfl)
   ·exact a5 z hz
   ·omega
  ·rintro z (hz | rfl)
   ·exact a6 z hz
   ·split<;>omega
  ·intro x hx
   split at hx
   ·exact a7 x hx
   ·rcases List.mem_append.1 hx with hx | hx
    ·exact a7 x hx
    ·simp only[List.mem_singleton]at hx
     subst hx
     exact okS_mk (by simp only[List.length_cons];omega) (by simp) (okE_not g1.1) okE_nul (by simp)
theorem Pln.B.okC {p:Pln}(h:p.B) (hv:∀d∈p.drives,d.2<p.ps.length):OkC p.ctl:=by
 obtain⟨a1,a2,a3,a4,a5,a6,a7⟩:=h.pil hv p.drives.length (Nat.le_refl _)
 have hs0:p.sig0.length<=512:=by
  have:=h.ol
  have:=h.vl
  unfold Pln.sig0
  simp only[List.length_append,List.length_map]
  omega
 have hdl:=h.dl
 have hbl:=h.bl
 refine⟨?_,?_,?_,?_,a7,?_,?_,fun z hz=>?_,fun z hz=>?_⟩
 ·show I64 (p.drives.length:Int)
  simp only[I64];omega
 ·show Sh (p.butt.map _)
  unfold Sh;rw[List.length_map];omega
 ·intro s hs
  obtain⟨i,hi,rfl⟩:=List.mem_map.1 (show s∈p.butt.map fun i=>((p.ps[i]?).map (·.name)).getD [] from hs)
  unfold Sh
  cases e:p.ps[i]? with
  | none=>simp
  | some x=>
   have:=h.names x (List.mem_of_getElem? e)
   simp only[Option.map_some,Option.getD_some]
   omega
 ·show Sh (p.pil p.drives.length).2.2
  unfold Sh;omega
 ·show Sh (p.pil p.drives.length).1
  unfold Sh;omega
 ·show Sh (p.pil p.drives.length).2.1
  unfold Sh;omega
 ·have:=a5 z hz
  simp only[I64];omega
 ·have:=a6 z hz
  simp only[I64];omega
structure PlS.Pre (s:PlS) (p:Pln):Prop where
 ok:s.OK
 ps:s.ps=p.ps
 ns:s.ns=p.nets
 dr:s.dr=.dat (.sl (p.drives.map encDr))
 dl:p.drives.length<=64
 dm:∀d∈p.drives,d.1<p.ps.length
 od:s.od=aNs p.order
 ol:p.order.length<=448
 names:∀x∈p.ps,x.name.length<=1000
 lim:∀x∈p.ps,x.kind=6->(∃q c,x.name=q++[c]∧(c=48∨c=49)∧∃k,p.drives.findIdx? (fun d=>(p.ps.getD d.1 x).name==q)=some k)
theorem place1_s {s:PlS}{p:Pln}(h1:s.ps=p.ps) (hl:p.ps.length<=64) {x:Prt}{q:List UInt8}{c:UInt8}(hx:x.name=q++[c]) (hq:q.length<=1000) {d:Drv}(hd:d.1<p.ps.length) (b1 b3 b7:Nat) :
  CallS Tryz.prog 140 [.record (encDr d),.ptr 1 b1 0,.ptr 3 b3 0,.ptr 7 b7 0] ((7,.box b7 [aI q.length])::(3,.box b3 ((encPa x).map A.dat))::(1,.box b1 [.ptr 170 s.b 0])::s.hp) fun r H'=>
   r=aB ((p.ps.getD d.1 x).name==q)∧H'=(7,.box b7 [aI q.length])::(3,.box b3 ((encPa x).map A.dat))::(1,.box b1 [.ptr 170 s.b 0])::s.hp:=by
 obtain⟨y,hy⟩:∃y,p.ps[d.1]=y:=⟨_,rfl⟩
 have hyo:p.ps[d.1]?=some y:=by rw[List.getElem?_eq_getElem hd,hy]
 have hyd:p.ps.getD d.1 x=y:=by rw[List.getD_eq_getElem?_getD,hyo];rfl
 rw[hyd]
 obtain⟨y1,y2,y3⟩:=y
 obtain⟨x1,x2,x3⟩:=x
 simp only at hx
 subst hx
 refine callS_of Tryz.func140 rfl Tryz.ntmps140 (rs:=[.tmp 5]) rfl (by kernel_rfl) (by simp) (by kernel_rfl) ?_
 simp
 refine V.drawX (fun _=>none) (by kernel_rfl) (by kernel_rfl) (by simp) ?_
 simp[h1,hd,hy,hyo]
abbrev PlS.wp (s:PlS) (v w:Value) (E:List (L×L)):PlS:={ s with bu:=.own 173 v,va:=.own 174 w,lE:=E }
abbrev bE (v:Value) (l:List Nat):Nat×Ent:=(173,.seq v 3 1 (l.map rN))
abbrev vE (v:Value) (l:List Nat):Nat×Ent:=(174,.seq v 3 1 (l.map rN))
theorem PlS.OK.wp {s:PlS}(h:s.OK) (v w:Value) (E:List (L×L)):(s.wp v w E).OK:=⟨h.few,h.kinds,h.nets,h.net,h.of⟩
theorem first_o {s:PlS}{p:Pln}(h1:s.dr=.dat (.sl (p.drives.map encDr))) (h3:p.drives.length<=64) (h4:p.butt.length<=64) (v w:Value) (E:List (L×L)) :
  CallS Tryz.prog 53 [.ptr 170 s.b 0] ((s.wp v w E).hp++[bE v p.butt]) fun r H'=>r=aI p.first∧H'=(s.wp v w E).hp++[bE v p.butt]:=by
 unfold Pln.first
 refine callS_of Tryz.func53 rfl Tryz.ntmps53 (rs:=[.tmp 2]) rfl (by kernel_rfl) (by simp) (by kernel_rfl) ?_
 simp
 refine V.drawX (fun _=>none) (by kernel_rfl) (by kernel_rfl) (by simp) ?_
 simp[h1]
 omega
theorem place_s0 {s:PlS}{p:Pln}(h:s.Pre p) :
  CallS Tryz.prog 86 [.ptr 170 s.b 0] ((s.wp (.slice none 0 0) (.slice none 0 0) []).hp++[bE (.slice none 0 0) [],vE (.slice none 0 0) []]) fun r H'=>∃v w E,r=.tuple []∧H'=(s.wp v w E).hp++[bE v p.butt,vE w p.valv]∧LnV p p.valv.length E:=by
 have hl:p.ps.length<=64:=by rw[<- h.ps];exact h.ok.few
 have hps:=h.ps
 have hdr:=h.dr
 have hdl:=h.dl
 have hod:=h.od
 have hol:=h.ol
 refine CallS.dropP (callS_of Tryz.func86 rfl Tryz.ntmps86 (rs:=[]) rfl (by kernel_rfl) (by simp) (by kernel_rfl) (K:=fun r H'=>∃v w E,r=.tuple []∧subP ((s.wp v w E).hp++[bE v p.butt,vE w p.valv]) H'∧LnV p p.valv.length E) ?_) (fun _ _ ⟨v,w,E,h1,h2,h3⟩=>⟨_,h2,v,w,E,h1,rfl,h3⟩)
 simp
 intro b1
 simp[hps]
 refine V.forI (σ:=Value×Value×List (L×L)) p.ps.length [1,15,16] (by simp;exact rfl) (fun n _=>[(17,aI n)]) (fun n q=>(1,.box b1 [.ptr 170 s.b 0])::((s.wp q.1 q.2.1 q.2.2).hp++[bE q.1 (buttN p.ps n),vE q.2.1 (valvN p.ps p.drives n)])) (fun n q=>LnB p n q.2.2) (.slice none 0 0,.slice none 0 0,[]) (LnB.zero p) (by simp) ⟨by simp[hps];exact rfl,by simp[buttN,valvN]⟩ ?_ ?_
 ·rintro n ⟨v,w,E⟩ hn hI
  simp only at hI
  obtain⟨x,hx⟩:∃x,p.ps[n]=x:=⟨_,rfl⟩
  have hxo:p.ps[n]?=some x:=by rw[List.getElem?_eq_getElem hn,hx]
  have hxm:=List.mem_of_getElem? hxo
  have hnm:=h.names x hxm
  have hkx:=h.ok.kinds x (by rw[hps];exact hxm)
  have hk:kindOf p.ps n=x.kind.toNat:=kindOf_at hxo
  have hpk:=Pilots_k x.kind.toNat (by omega)
  rw[show ((x.kind.toNat:Nat):Int)=x.kind from by omega]at hpk
  have hB:p.lineB n=if x.kind=7 then some (2*p.drives.length+p.butt.idxOf n)
   else if x.kind=6 then some (2*(p.drives.findIdx fun d=>(p.ps.getD d.1 x).name==x.name.dropLast)+(if x.name.getLast? = some 49 then 1 else 0)) else none:=by
   unfold Pln.lineB
   rw[hxo]
  have hbl:=buttN_len p.ps n
  have hvl:=valvN_len p.ps p.drives n
  simp[hn,hps,hx,hxo]
  intro b3
  refine hpk.s ?_
  simp
  by_cases h7:x.kind=7
  ·rw[if_pos h7]at hB
   have hbx:=butt_idx (p:=p) (i:=n) (by omega) hn
   rw[hbx]at hB
   simp[h7]
   refine V.drawX (fun _=>none) (by kernel_rfl) (by kernel_rfl) (by simp) ?_
   simp[hdr]
   refine⟨by omega,by omega,?_⟩
   refine V.drawX (fun _=>none) (by kernel_rfl) (by kernel_rfl) (by simp) ?_
   simp
   intro u
   refine⟨by omega,by kernel_rfl,⟨by omega,by omega⟩,u,w,mput E (.int .i64 (n:Int)) (.int .i64 (2*(p.drives.length:Int)+(buttN p.ps n).length)),?_,⟨rfl,rfl⟩,rfl,⟨rfl,?_⟩,rfl,?_⟩
   ·have:=hI.put hB
    simpa using this
   ·rw[buttN_succ,if_pos (by omega)]
    simp
   ·rw[valvN_succ,if_neg]
    ·simp
    ·rw[hk,h7]
     simp[plusK]
  ·rw[if_neg h7]at hB
   by_cases h6:x.kind=6
   ·rw[if_pos h6]at hB
    obtain⟨q,c,hq,hc,kx,hkx2⟩:=h.lim x hxm h6
    have hp1:=fun (d:Drv) (hd:d∈p.drives) (b7:Nat)=>(place1_s (s:=s.wp v w E) hps hl hq (by rw[hq]at hnm;simp at hnm;omega) (h.dm d hd) b1 b3 b7).mid [] [bE v (buttN p.ps n),vE w (valvN p.ps p.drives n)]
    have hix:=fun b7=>idxDr_s p.drives (fun d=>(p.ps.getD d.1 x).name==q) 140 [] [.ptr 1 b1 0,.ptr 3 b3 0,.ptr 7 b7 0] _ (by unfold Sh;omega) fun d hd=>hp1 d hd b7
    rw[hkx2]at hix
    have hfx:(p.drives.findIdx fun d=>(p.ps.getD d.1 x).name==q)=kx:=by
     rw[List.findIdx?_eq_some_iff_findIdx_eq]at hkx2
     exact hkx2.2
    have hkl:=(List.findIdx?_eq_some_iff_getElem.1 hkx2).1
    obtain⟨x1,x2,x3⟩:=x
    simp only at hq h6 h7 hk hkx hB hnm
    subst hq
    subst h6
    rw[show (q++[c]).dropLast=q by simp,hfx,show (q++[c]).getLast? = some c by simp]at hB
    have hib:=IndexByte_fn [48,49] c.toNat
    have hbv:Go.Lib.indexByte [48,49] (c.toNat:Int).toNat.toUInt8=if c=49 then 1 else 0:=by
     rcases hc with rfl | rfl<;>decide
    rw[hbv]at hib
    simp at hnm
    simp[hdr]
    refine⟨by omega,fun b7=>(hix b7).mono ?_⟩
    rintro r H' ⟨rfl,rfl⟩
    simp
    refine V.drawX (fun t=>if t=85 then some (.fn (aI (if c=49 then 1 else 0))) else none) (by kernel_rfl) (by kernel_rfl) (by simp) ?_
    simp
    refine⟨⟨by omega,by omega⟩,by omega,hib,⟨by split<;>omega,by split<;>omega⟩,⟨by omega,by omega⟩,v,w,mput E (.int .i64 (n:Int)) (.int .i64 (2*(kx:Int)+if c=49 then 1 else 0)),?_,⟨rfl,rfl⟩,rfl,⟨rfl,?_⟩,rfl,?_⟩
    ·have:=hI.put hB
     have e:((2*kx+(if some c=some 49 then 1 else 0):Nat):Int)=2*(kx:Int)+if c=49 then 1 else 0:=by
      by_cases e:c=49<;>simp[e]
     rw[e]at this
     exact this
    ·rw[buttN_succ,if_neg (by omega)]
     simp
    ·rw[valvN_succ,if_neg]
     ·simp
     ·rw[hk]
      simp[plusK]
   ·rw[if_neg h6]at hB
    have hdv:=driven_s (s:=s.wp v w E) (h.ok.wp v w E) hdr (by omega) n
    simp[h7,h6]
    by_cases hpl:plusK x.kind.toNat=[]
    ·refine GCall.never (by simp[hpl]) (aI 0) ?_
     simp[hpl]
     refine⟨⟨by omega,by omega⟩,v,w,E,hI.keep hB,⟨rfl,rfl⟩,rfl,⟨rfl,?_⟩,rfl,?_⟩
     ·rw[buttN_succ,if_neg (by omega)]
      simp
     ·rw[valvN_succ,if_neg (by rw[hk];simp[hpl])]
      simp
    ·refine GCall.sure ⟨by simp[hpl],(hdv.mid [(3,_),(1,_)] [_,_]).mono ?_⟩ (by simp[hpl])
     rintro r H' ⟨rfl,rfl⟩
     cases hdz:drivenZ p.drives n with
     | none=>
      simp[hpl,idxI]
      refine V.drawX (fun _=>none) (by kernel_rfl) (by kernel_rfl) (by simp) ?_
      simp
      intro u
      refine⟨by omega,by kernel_rfl,⟨by omega,by omega⟩,v,u,E,hI.keep hB,⟨rfl,rfl⟩,rfl,⟨rfl,?_⟩,rfl,?_⟩
      ·rw[buttN_succ,if_neg (by omega)]
       simp
      ·rw[valvN_succ,if_pos (by rw[hk];exact⟨hpl,hdz⟩)]
       simp
     | some m=>
      simp[hpl,idxI]
      refine⟨fun hh=>by omega,⟨by omega,by omega⟩,v,w,E,hI.keep hB,⟨rfl,rfl⟩,rfl,⟨rfl,?_⟩,rfl,?_⟩
      ·rw[buttN_succ,if_neg (by omega)]
       simp
      ·rw[valvN_succ,if_neg (by rw[hdz];simp)]
       simp
 ·rintro⟨v,w,E⟩ hI
  simp only at hI
  have hI:=hI.lnV
  have hvl:p.valv.length<=64:=Nat.le_trans (valvN_len _ _ _) hl
  have hbl:p.butt.length<=64:=Nat.le_trans (buttN_len _ _) hl
  rw[show buttN p.ps p.ps.length=p.butt from rfl,show valvN p.ps p.drives p.ps.length=p.valv from rfl]
  simp[hps]
  refine V.forI (σ:=List (L×L)) p.valv.length [1,110,111] (by simp;exact rfl) (fun n _=>[(112,aI n)]) (fun n q=>(1,.box b1 [.ptr 170 s.b 0])::((s.wp v w q).hp++[bE v p.butt,vE w p.valv])) (fun n q=>LnV p n q) E hI (by simp) ⟨by simp;exact rfl,by simp⟩ ?_ ?_
  ·rintro n F hn hI
   obtain⟨i,hi⟩:∃i,p.valv[n]=i:=⟨_,rfl⟩
   have hio:p.valv[n]?=some i:=by rw[List.getElem?_eq_getElem hn,hi]
   have hfo:=first_o (s:=s) hdr hdl hbl v w F
   have hfb:p.first<=192:=by unfold Pln.first;omega
   simp[hn,hi,hio]
   refine V.drawX (fun t=>if t=123 then some (.ro (aI p.first)) else none) (by kernel_rfl) (by kernel_rfl) (by simp) ?_
   simp[hod]
   refine⟨hfo,?_⟩
   have e:((p.first+p.order.length+n:Nat):Int)=(p.first:Int)+p.order.length+n:=by omega
   have:=hI.put hio
   rw[e]at this
   exact⟨⟨by omega,by omega⟩,⟨by omega,by omega⟩,by kernel_rfl,⟨by omega,by omega⟩,this⟩
  ·rintro F hI
   simp
   exact⟨v,w,F,(subP.refl _).c _,hI⟩
theorem place_s {s:PlS}{p:Pln}(h:s.Pre p) (hbu:s.bu=.nils) (hva:s.va=.nils) (hlE:s.lE=[]) :
  CallS Tryz.prog 86 [.ptr 170 s.b 0] s.hp fun r H'=>∃s':PlS,r=.tuple []∧H'=s'.hp∧s'.At p∧s'.b=s.b:=by
 refine CallS.inv (H':=(s.wp (.slice none 0 0) (.slice none 0 0) []).hp++[bE (.slice none 0 0) [],vE (.slice none 0 0) []]) (fun x H0 hi=>?_) (fun x vs hv=>hv)
  ((((place_s0 h).frzCell (K':=fun r H'=>∃w E,r=.tuple []∧H'=({ s with bu:=aNs p.butt,va:=.own 174 w,lE:=E }:PlS).hp++[vE w p.valv]∧LnV p p.valv.length E) ?_)).frzCell ?_)
 ·have h1:Inv x ((173,.seq (.slice none 0 0) 3 1 [])::(174,.seq (.slice none 0 0) 3 1 [])::((s.wp (.slice none 0 0) (.slice none 0 0) []).hp++H0)):=by
   refine Inv.nil (t:=173) (e:=.seq (.slice none 0 0) 3 1 []) (Inv.nil (t:=174) (e:=.seq (.slice none 0 0) 3 1 []) ?_ ⟨rfl,rfl⟩) ⟨rfl,rfl⟩
   have hi2:=Inv.swap (g:=170) (H:=s.hp) (e:=.box s.b s.cells) (e':=.box s.b (s.wp (.slice none 0 0) (.slice none 0 0) []).cells) rfl (box_sat ?_) (fun b hb=>hb) hi
   ·unfold PlS.hp at hi2
    rw[hlE]at hi2
    exact hi2
   ·unfold PlS.cells
    rw[hbu,hva]
    exact Ds_c D_i (Ds_c D_i (Ds_c D_i (Ds_c D_i (Ds_c D_i (Ds_c D_i (Ds_c D_nilo (Ds_c D_nilo Ds_i)))))))
  refine h1.perm ?_
  rw[List.append_assoc]
  exact List.perm_append_comm_assoc _ [((173:Nat),Ent.seq (.slice none 0 0) 3 1 []),((174:Nat),Ent.seq (.slice none 0 0) 3 1 [])] _
 ·rintro r H' ⟨v,w,E,rfl,rfl,hE⟩
  refine⟨170,173,s.b,6,173,v,3,1,p.butt.map rN,(s.wp v w E).cells,rfl,rfl,allD_n _,rfl,w,E,rfl,?_,hE⟩
  rw[rowsD_n]
  rfl
 ·rintro r H' ⟨w,E,rfl,rfl,hE⟩
  refine⟨170,174,s.b,7,174,w,3,1,p.valv.map rN,({ s with bu:=aNs p.butt,va:=.own 174 w,lE:=E }:PlS).cells,rfl,rfl,allD_n _,rfl,{ s with bu:=aNs p.butt,va:=aNs p.valv,lE:=E },rfl,?_,⟨⟨h.ok.few,h.ok.kinds,h.ok.nets,h.ok.net,h.ok.of⟩,h.ps,h.ns,h.dr,h.dl,h.od,h.ol,rfl,rfl,hE.all⟩,rfl⟩
  rw[rowsD_n]
  rfl
section
open Go.Sort
theorem grow_invI {x:X}{H:Heap}(hi:Inv x H) (k:Nat) (os:Array Obj):x.le ⟨grow (x.w.drewN k) os,x.ok⟩∧Inv ⟨grow (x.w.drewN k) os,x.ok⟩ H:=by
 have hold:∀b,b<x.w.heap.size->(grow (x.w.drewN k) os).heap[b]?=x.w.heap[b]?:=by
  intro b hb
  simp only[grow]
  rw[Array.getElem?_append_left (by simpa [World.drewN]using hb)]
  rfl
 have hle:x.le ⟨grow (x.w.drewN k) os,x.ok⟩:=⟨fun b hb=>⟨hb,hold b (hi.bd b hb)⟩,rfl,rfl,rfl,by simp[grow,World.drewN],by simp[grow,World.drewN]⟩
 exact⟨hle,hi.step hle (fun b hb=>Nat.lt_of_lt_of_le (hi.bd b hb) hle.size) (fun b hb=>.inl hb) fun p hp b ho=>hold b (hi.own p hp b ho).1⟩
theorem pow_tabI {x:X}(h:Tabs x):Go.Lib.TabIs Tryz.prog x.w "internal/strconv.uint64pow10" .u64 Go.Lib.pow10Tab:=by
 have hm:(2,Go.Lib.pow10Tab.map fun z=>L.int .u64 z)∈tabL:=List.Mem.head _
 obtain⟨_,ty,fr,h2⟩:=h _ hm
 have hg:(Tryz.prog).globalNamed "internal/strconv.uint64pow10"=some 2:=by kernel_rfl
 unfold Go.Lib.TabIs World.var?
 rw[hg]
 simp only[Option.bind_some,h2]
 simp[plV]
theorem ItoaD_fn (n:Nat) (hn:(n:Int)<=9223372036854775807):CallFn Tryz.prog 142 [aI n] (.dat (.str (Go.Lib.decDigits n))):=by
 refine⟨⟨_,Tryz.func142,by kernel_rfl,by kernel_rfl⟩,fun x args H0 hi hd=>?_⟩
 have ha:args=#[.int .i64 n]:=by
  rcases args with⟨l⟩
  obtain⟨v,e,hv⟩:=Ds.one hd
  simp only[D,RdL]at hv
  simp only at e
  rw[e,hv]
 subst ha
 have hi0:Inv x H0:=by simpa using hi
 refine (Any.strconv_Itoa itLays n (by omega) hn x.w (pow_tabI hi.bd.tab)).mono ?_
 rintro _ _ ⟨rfl,k,os,rfl⟩
 obtain⟨h1,h2⟩:=grow_invI hi0 k os
 refine⟨⟨grow (x.w.drewN k) os,x.ok⟩,_,_,[],rfl,rfl,h1,by simpa using h2,?_,rfl,rfl⟩
 simp only[D,RdL,Go.Lib.itoa]
 rw[if_neg (by omega),Int.toNat_natCast]
end
theorem plusK_port:∀k,k<14->plusK k≠[]->plusK k∈portsK k:=by
 refine k_cases ⟨?_,?_,?_,?_,?_,?_,?_,?_,?_,?_,?_,?_,?_,?_⟩<;>decide
theorem minusK_port:∀k,k<14->minusK k≠[]->minusK k∈portsK k:=by
 refine k_cases ⟨?_,?_,?_,?_,?_,?_,?_,?_,?_,?_,?_,?_,?_,?_⟩<;>decide
theorem moved_s {s:PlS}{p:Pln}(h:s.At p) {i:Nat}(hi:i∈p.valv):CallS Tryz.prog 144 [.ptr 170 s.b 0,aI i] s.hp fun r H'=>r=.record (encS (p.movS i))∧H'=s.hp:=by
 obtain⟨hi1,hi2,_⟩:=mem_valvN.1 hi
 have hpl:=h.pl
 have hps:=h.ps
 have hkl:=h.klt i
 have hk:=h.kind hi1
 obtain⟨x,hx⟩:∃x,p.ps[i]=x:=⟨_,rfl⟩
 have hxo:p.ps[i]?=some x:=by rw[List.getElem?_eq_getElem hi1,hx]
 have hg1:=netGate_s h (port_of hi1 (plusK_port _ hkl hi2))
 have hg2:=fun hm=>netGate_s h (port_of hi1 (minusK_port _ hkl hm))
 have hpi:=Pilots_k (kindOf p.ps i) hkl
 have hit:=ItoaD_fn i (by omega)
 unfold Pln.movS
 rw[hxo]
 generalize p.gate i (plusK (kindOf p.ps i))=gp at *
 generalize p.gate i (minusK (kindOf p.ps i))=gm at *
 generalize plusK (kindOf p.ps i)=pl at *
 generalize minusK (kindOf p.ps i)=mi at *
 generalize kindOf p.ps i=k at *
 have hop:=opposite_fn gp
 refine CallS.dropP (callS_of Tryz.func144 rfl Tryz.ntmps144 (rs:=[.cell 4 100]) rfl (by kernel_rfl) (by simp) (by kernel_rfl) (K:=fun r H'=>r=.record (encS ⟨118::decN i,if k=12 then 2 else 1,gp,if k=12 then nulE else if mi≠[] then gm else notE gp,if k=12 then ((some x).map (·.delay)).getD 0 else 0,false⟩)∧subP s.hp H') ?_) (fun _ _ ⟨h1,h2⟩=>⟨_,h2,h1,rfl⟩)
 simp
 intro b4
 refine (hk.mid [(4,_)] []).mono ?_
 rintro r H' ⟨rfl,rfl⟩
 simp
 refine hpi.s ?_
 simp
 refine hit.s ?_
 simp
 refine⟨by have:=decN_len2 i;unfold decN at this;omega,(hg1.mid [(4,_)] []).mono ?_⟩
 rintro r H' ⟨rfl,rfl⟩
 simp
 intro b8
 refine (hk.mid [(8,_),(4,_)] []).mono ?_
 rintro r H' ⟨rfl,rfl⟩
 simp
 refine⟨fun hk12=>?_,fun hk12=>⟨fun hmi=>?_,fun hmi=>?_⟩⟩
 ·have hk:k=12:=by omega
  subst hk
  refine V.drawX (fun _=>none) (by kernel_rfl) (by kernel_rfl) (by simp) ?_
  simp[hps,hi1,hx,hxo]
  refine⟨by kernel_rfl,⟨rfl,?_⟩,((subP.refl _).c _).c _⟩
  simp[nulE]
 ·have hk:¬k=12:=by omega
  refine ((hg2 hmi).mid [(8,_),(4,_)] []).mono ?_
  rintro r H' ⟨rfl,rfl⟩
  simp[hk,hmi]
  exact⟨rfl,((subP.refl _).c _).c _⟩
 ·have hk:¬k=12:=by omega
  refine hop.s ?_
  generalize notE gp=ng at *
  simp[hk,hmi]
  exact⟨rfl,((subP.refl _).c _).c _⟩
end Go.Proofs.YtpadinblmjlggaaGreatDoor
