/- Texts joined by a program: Oz,Oza,Ozb,Sdl,Qb,Qc,Qd,Qe,Qh,Qf,Qg,Qm,Qi,Ito,Qj,Qk,Qo,Ke,Kf,Kg,Kh,Ki,Kj,Ku,Kv,Kw,Wa,Qn. -/
import Derived.Shelf.Slices.Delete
import Derived.Test.YtafamcbdaeppoaaGreatDoorProg
import Derived.KernelRfl
import Derived.Lib.ItoaNum
import Derived.Test.YtafamcbdaeppoaaGreatDoorF27
import Derived.Test.YtafamcbdaeppoaaGreatDoorF16
import Derived.Test.YtafamcbdaeppoaaGreatDoorF26
import Derived.Test.YtafamcbdaeppoaaGreatDoorF23
import Derived.Test.YtafamcbdaeppoaaGreatDoorF17
import Derived.Test.YtafamcbdaeppoaaGreatDoorF11
import Derived.Test.YtafamcbdaeppoaaGreatDoorF21
import Derived.Test.YtafamcbdaeppoaaGreatDoorF25
set_option linter.unusedSimpArgs false
set_option linter.unusedVariables false
set_option maxHeartbeats 8000000
set_option maxRecDepth 100000
namespace Go.Proofs.YtafamcbdaeppoaaGreatDoor
section
section
variable {c:Control}
def cirW (c:Control):Cir:=cirOf (dM c).parts (pipesM (dM c))
def pinZ (c:Control) (q:Pin):PortZ:=portZ (portL (dM c).parts q)
def posW (c:Control) (s:State):List Int:=(dM c).parts.map fun p=>placeI (onM c (gatesP c s) p)
def gvW (c:Control) (x:PortZ):PortZ:=match (wholeM c).joins.find? fun z=>pinZ c z.2==x with
 | some z=>pinZ c z.1
 | none=>x
theorem cirW_right (hc:checkC c=0) (hm:manyM (dM c)=false):CirR (cirW c):=cirR_circ (circ_right hc hm)
theorem cirW_zero (hc:checkC c=0) (hm:manyM (dM c)=false):cirE (cirW c)=0:=cirE_circ (circ_right hc hm)
theorem part_index (hc:checkC c=0) {p:Made}(hp:p∈(wholeM c).parts):∃i:Nat,i<(cirW c).parts.length∧(dM c).parts[i]?=some p∧kindOf (cirW c).parts i=p.kind.toNat∧∀t,pinZ c ⟨p.name,t⟩=((i:Int),t):=by
 obtain⟨q,h1,h2,h3,_⟩:=pos_at hc (k:=p.kind) (t:=p.name) (List.mem_map.2 ⟨p,hp,rfl⟩)
 have hq:=List.mem_of_getElem? h1
 have e:=name_inj (dM_names hc) hq ((dM_w hc).2 hp) h3
 subst e
 have hlt:=(List.getElem?_eq_some_iff.1 h1).1
 refine⟨_,by simpa [cirW,cirOf]using hlt,h1,?_,fun t=>rfl⟩
 unfold kindOf cirW cirOf
 simp only[List.getElem?_map,h1,Option.map_some,partZ]
theorem posN_W {s:State}{i:Nat}{p:Made}(h:(dM c).parts[i]?=some p):posN (posW c s) i=if onM c (gatesP c s) p=true then 1 else 0:=by
 unfold posN posW
 rw[List.getD_eq_getElem?_getD,List.getElem?_map,h]
 simp only[Option.map_some,Option.getD_some,placeI]
 split<;>rfl
theorem posW_two {s:State}:∀i,i<(cirW c).parts.length->posN (posW c s) i<2:=fun i hi=>by
 have hi:i<(dM c).parts.length:=by simpa [cirW,cirOf]using hi
 rw[posN_W (List.getElem?_eq_getElem hi)]
 split<;>omega
theorem take_inj (hc:checkC c=0) {w z:Pin×Pin}(hw:w∈(wholeM c).joins) (hz:z∈(wholeM c).joins) (h:w.2=z.2):w=z:=by
 have hn:=(whole_tak hc).nod
 unfold consL at hn
 obtain⟨i,hi,rfl⟩:=List.getElem_of_mem hw
 obtain⟨j,hj,rfl⟩:=List.getElem_of_mem hz
 rw[List.Nodup,List.pairwise_iff_getElem]at hn
 rcases Nat.lt_trichotomy i j with hl | rfl | hl
 ·exact absurd (by rw[List.getElem_map,List.getElem_map];exact h) (hn i j (by simpa using hi) (by simpa using hj) hl)
 ·rfl
 ·exact absurd (by rw[List.getElem_map,List.getElem_map];exact h.symm) (hn j i (by simpa using hj) (by simpa using hi) hl)
theorem pinZ_inj (hc:checkC c=0) {p q:Pin}{k l:Int}(hp:(k,p.part)∈(wholeM c).parts.map knOf) (hq:(l,q.part)∈(wholeM c).parts.map knOf) (h:pinZ c p=pinZ c q):p=q:=by
 unfold pinZ portZ at h
 simp only[Prod.mk.injEq]at h
 exact portL_inj hc hp hq (Prod.ext (Int.ofNat.inj h.1) h.2)
theorem gv_out (hc:checkC c=0) {q:Pin}(hq:OutP ((wholeM c).parts.map knOf) q):gvW c (pinZ c q)=pinZ c q:=by
 obtain⟨hJ,_⟩:=whole_t (inC_of hc)
 unfold gvW
 cases hf:(wholeM c).joins.find? fun z=>pinZ c z.2==pinZ c q with
 | none=>rfl
 | some w=>
  exfalso
  have hw:=List.mem_of_find?_eq_some hf
  have he:=List.find?_some hf
  rw[beq_iff_eq]at he
  obtain⟨_,l,hl,_⟩:=hJ w hw
  obtain⟨k,hk,_⟩:=id hq
  have:=pinZ_inj hc hl hk he
  rw[<- this]at hq
  exact out_not_in hc hq (hJ w hw).2
theorem gv_in (hc:checkC c=0) {z:Pin×Pin}(hz:z∈(wholeM c).joins):gvW c (pinZ c z.2)=pinZ c z.1:=by
 obtain⟨hJ,_⟩:=whole_t (inC_of hc)
 unfold gvW
 cases hf:(wholeM c).joins.find? fun w=>pinZ c w.2==pinZ c z.2 with
 | none=>
  have:=List.find?_eq_none.1 hf z hz
  simp at this
 | some w=>
  have hw:=List.mem_of_find?_eq_some hf
  have he:=List.find?_some hf
  rw[beq_iff_eq]at he
  obtain⟨_,l,hl,_⟩:=hJ w hw
  obtain⟨_,k,hk,_⟩:=hJ z hz
  rw[take_inj hc hw hz (pinZ_inj hc hl hk he)]
theorem pass_outB:((List.range 14).all fun k=>k==3||(List.range 2).all fun n=>(passK k n).all fun y=>(outsK ((k:Nat):Int)).contains y.to)=true:=by decide
theorem pass_out (k:Nat) (hk:k<14) (h3:k≠3) (n:Nat) (hn:n<2):∀y∈passK k n,y.to∈outsK (k:Nat):=fun y hy=>by
 have h:=List.all_eq_true.1 pass_outB k (List.mem_range.2 hk)
 rw[Bool.or_eq_true,beq_iff_eq]at h
 rcases h with h | h
 ·exact absurd h h3
 ·have h:=List.all_eq_true.1 (List.all_eq_true.1 h n (List.mem_range.2 hn)) y hy
  simpa using h
theorem gear_not3 {p:Made}(h:GearK c p):p.kind≠3:=by cases h<;>simp only<;>decide
theorem giv_out (hc:checkC c=0) {x:PortZ}(h:GivZ (cirW c).parts x):∃q,OutP ((wholeM c).parts.map knOf) q∧x=pinZ c q:=by
 obtain⟨i,hi,h1,h2⟩:=h
 have hi':i<(dM c).parts.length:=by simpa [cirW,cirOf]using hi
 have hp0:=List.getElem?_eq_getElem hi'
 generalize (dM c).parts[i]=p at hp0
 have hp:=(dM_w hc).1 (List.mem_of_getElem? hp0)
 obtain⟨j,_,hj,hk,hpin⟩:=part_index hc hp
 have hij:i=j:=by
  have hn:=dM_names hc
  obtain⟨a1,a2⟩:=List.getElem?_eq_some_iff.1 hp0
  obtain⟨b1,b2⟩:=List.getElem?_eq_some_iff.1 hj
  rw[List.Nodup,List.pairwise_iff_getElem]at hn
  rcases Nat.lt_trichotomy i j with hl | e | hl
  ·exact absurd (by rw[List.getElem_map,List.getElem_map,a2,b2]) (hn i j (by simpa using a1) (by simpa using b1) hl)
  ·exact e
  ·exact absurd (by rw[List.getElem_map,List.getElem_map,a2,b2]) (hn j i (by simpa using b1) (by simpa using a1) hl)
 subst hij
 have hg:=dM_k hc (List.mem_of_getElem? hp0)
 obtain⟨n,n1,n2,_⟩:=gear_part hc hg
 have hn3:=gear_not3 hg
 refine⟨⟨p.name,x.2⟩,⟨p.kind,List.mem_map.2 ⟨p,hp,rfl⟩,?_⟩,?_⟩
 ·rw[hk,n1,Int.toNat_natCast]at h2
  rw[n1]
  rcases h2 with⟨e,e2⟩|⟨m,y,hm,hy,e2⟩
  ·subst e
   show x.2∈outsK 0
   rw[e2]
   decide
  ·show x.2∈outsK n
   rw[e2]
   exact pass_out n n2 (by omega) m hm y hy
 ·rw[hpin]
  exact Prod.ext h1 rfl
theorem gv_ok (hc:checkC c=0):GvZ (cirW c) (gvW c):=by
 obtain⟨hJ,_⟩:=whole_t (inC_of hc)
 refine⟨fun x hx=>?_,fun x hx=>?_⟩
 ·obtain⟨y,hy,rfl⟩:=List.mem_map.1 hx
  obtain⟨z,hz,rfl⟩:=List.mem_map.1 ((sortB_perm earlierP _).mem_iff.1 hy)
  have a1:=gv_in hc hz
  have a2:=gv_out hc (hJ z hz).1
  unfold pinZ at a1 a2
  rcases pipeN_cases (portL (dM c).parts z.1) (portL (dM c).parts z.2) with e | e<;>rw[e]
  ·exact a2.trans a1.symm
  ·exact a1.trans a2.symm
 ·obtain⟨q,hq,rfl⟩:=giv_out hc hx
  exact gv_out hc hq
theorem join_net (hc:checkC c=0) (hm:manyM (dM c)=false) {z:Pin×Pin}(hz:z∈(wholeM c).joins):netW (netsZ (cirW c)) (pinZ c z.1)=netW (netsZ (cirW c)) (pinZ c z.2):=by
 have hr:=cirW_right hc hm
 have hy:pipeN (portL (dM c).parts z.1) (portL (dM c).parts z.2)∈pipesM (dM c):=(sortB_perm earlierP _).mem_iff.2 (List.mem_map.2 ⟨z,hz,rfl⟩)
 have hx:(portZ (pipeN (portL (dM c).parts z.1) (portL (dM c).parts z.2)).1,portZ (pipeN (portL (dM c).parts z.1) (portL (dM c).parts z.2)).2)∈(cirW c).pipes:=List.mem_map.2 ⟨_,hy,rfl⟩
 have:=net_pipe hr hx
 unfold pinZ
 rcases pipeN_cases (portL (dM c).parts z.1) (portL (dM c).parts z.2) with e | e<;>rw[e]at this
 ·exact this
 ·exact this.symm
theorem tel_no {J:List (Pin×Pin)}{Ps:List Made}{on:Made->Bool}{q:Pin}{b:Bool}(h:Tel J Ps on q b) (hq:q=noPin):b=false:=by
 cases h with
 | no=>rfl
 | sup=>exact absurd hq (by decide)
 | plain p=>exact absurd hq (pin_ne (by simp))
 | mem p=>exact absurd hq (pin_ne (by simp))
 | neg p=>exact absurd hq (pin_ne (by simp))
 | two p=>exact absurd hq (pin_ne (by simp))
theorem gv_self (hc:checkC c=0) {p:Made}(hp:p∈(wholeM c).parts) {i:Nat}(hpin:∀t,pinZ c ⟨p.name,t⟩=((i:Int),t)) {t:List UInt8}(hno:∀z∈(wholeM c).joins,z.2≠⟨p.name,t⟩):gvW c ((i:Int),t)=((i:Int),t):=by
 unfold gvW
 cases hfd:(wholeM c).joins.find? fun z=>pinZ c z.2==((i:Int),t) with
 | none=>rfl
 | some w=>
  exfalso
  have hw:=List.mem_of_find?_eq_some hfd
  have he:=List.find?_some hfd
  rw[beq_iff_eq,<- hpin t]at he
  obtain⟨hJ,_⟩:=whole_t (inC_of hc)
  obtain⟨_,l,hl,_⟩:=hJ w hw
  exact hno w hw (pinZ_inj hc hl (List.mem_map.2 ⟨p,hp,rfl⟩) he)
theorem fed_prs (hc:checkC c=0) (hm:manyM (dM c)=false) {s:State}{p:Made}(hp:p∈(wholeM c).parts) {i:Nat}(hi:i<(cirW c).parts.length) (hki:kindOf (cirW c).parts i=p.kind.toNat) (hpin:∀t,pinZ c ⟨p.name,t⟩=((i:Int),t))
  {q:Pin}{a:Bool}{t:List UInt8}(hq:TelW c s q a) (ih:q≠noPin->(Prs (cirW c).parts (netsZ (cirW c)) (posW c s) (netW (netsZ (cirW c)) (pinZ c q))↔a=true)) (hf:Fed (wholeM c).joins q ⟨p.name,t⟩)
  (ht:t∈portsK p.kind.toNat) (h0:p.kind.toNat≠0) (hno:∀n,n<2->∀y∈passK p.kind.toNat n,t≠y.to):Prs (cirW c).parts (netsZ (cirW c)) (posW c s) (netW (netsZ (cirW c)) ((i:Int),t))↔a=true:=by
 by_cases e:q=noPin
 ·have ea:=tel_no hq e
  rw[ea]
  have hnone:=hf.2 e
  have hport:((i:Int),t)∈allP (cirW c).parts:=port_of hi (by rw[hki];exact ht)
  have hself:=gv_self hc hp hpin hnone
  have hn:=prs_none (cirW_right hc hm) (gv_ok hc) (posW_two (c:=c) (s:=s)) hport (by
   rw[hself]
   rintro⟨j,hj,h1,h2⟩
   have h1:(i:Int)=j:=h1
   have:i=j:=by omega
   subst this
   rw[hki]at h2
   rcases h2 with⟨h3,_⟩|⟨n,y,hn,hy,h3⟩
   ·exact h0 h3
   ·exact hno n hn y hy h3)
  exact⟨fun h=>absurd h hn,fun h=>nomatch h⟩
 ·have hj:=hf.1 e
  have hn:=join_net hc hm hj
  rw[hpin t]at hn
  rw[<- hn]
  exact ih e
theorem tel_prs (hc:checkC c=0) (hm:manyM (dM c)=false) {s:State}{q:Pin}{b:Bool}(h:TelW c s q b):q≠noPin->(Prs (cirW c).parts (netsZ (cirW c)) (posW c s) (netW (netsZ (cirW c)) (pinZ c q))↔b=true):=by
 have hr:=cirW_right hc hm
 have hgv:=gv_ok hc
 have hp2:=posW_two (c:=c) (s:=s)
 have hsup:Prs (cirW c).parts (netsZ (cirW c)) (posW c s) (netW (netsZ (cirW c)) (pinZ c supPin)):=by
  obtain⟨p,hp,hk,hn⟩:=kn_part (whole_fullT (inC_of hc).act).sup
  obtain⟨i,hi,_,hki,hpin⟩:=part_index hc hp
  have:=hpin [49]
  rw[hn]at this
  rw[this]
  exact .sup i hi (by rw[hki,hk];rfl)
 have hair:∀p:Made,(supPin,(⟨p.name,[49]⟩:Pin))∈(wholeM c).joins->Prs (cirW c).parts (netsZ (cirW c)) (posW c s) (netW (netsZ (cirW c)) (pinZ c ⟨p.name,[49]⟩)):=fun p hj=>by
  have:=join_net hc hm hj
  rw[<- this]
  exact hsup
 have hgiv:∀p∈(wholeM c).parts,∀t,t∈outsK p.kind->p.kind≠0->∀i:Nat,i<(cirW c).parts.length->kindOf (cirW c).parts i=p.kind.toNat->(∃n y,n<2∧y∈passK p.kind.toNat n∧t=y.to)->GivZ (cirW c).parts ((i:Int),t):=fun p hp t ht h0 i hi hki ⟨n,y,hn,hy,e⟩=>⟨i,hi,rfl,.inr ⟨n,y,hn,by rw[hki];exact hy,e⟩⟩
 induction h with
 | no=>exact fun h=>absurd rfl h
 | sup=>exact fun _=>⟨fun _=>rfl,fun _=>hsup⟩
 | plain p hp hk hj=>
  intro _
  obtain⟨i,hi,hpi,hki,hpin⟩:=part_index hc hp
  have ha:=hair p hj
  rw[hpin]at ha ⊢
  have hpass:passK p.kind.toNat (posN (posW c s) i)=if onM c (gatesP c s) p=true then [⟨[50],[[49]],false⟩] else []:=by
   rw[posN_W hpi]
   rcases hk with e | e | e<;>rw[e]<;>cases onM c (gatesP c s) p<;>rfl
  have hg:GivZ (cirW c).parts ((i:Int),[50]):=⟨i,hi,rfl,.inr ⟨1,⟨[50],[[49]],false⟩,by omega,by rw[hki];rcases hk with e | e | e<;>rw[e]<;>decide,rfl⟩⟩
  rw[prs_give hr hgv hp2 hg,hki,hpass]
  cases onM c (gatesP c s) p
  ·simp
  ·simp[ha]
 | mem p hp hk hv hj=>
  intro _
  obtain⟨i,hi,hpi,hki,hpin⟩:=part_index hc hp
  have ha:=hair p hj
  rw[hpin]at ha ⊢
  have hpass:passK p.kind.toNat (posN (posW c s) i)=if onM c (gatesP c s) p=true then [⟨[52],[[49]],false⟩] else [⟨[50],[[49]],false⟩]:=by
   rw[posN_W hpi,hk]
   cases onM c (gatesP c s) p<;>rfl
  have hg:GivZ (cirW c).parts ((i:Int),[52]):=⟨i,hi,rfl,.inr ⟨1,⟨[52],[[49]],false⟩,by omega,by rw[hki,hk];decide,rfl⟩⟩
  rw[prs_give hr hgv hp2 hg,hki,hpass]
  cases onM c (gatesP c s) p
  ·simp
  ·simp[ha]
 | neg p hp hk hj=>
  intro _
  obtain⟨i,hi,hpi,hki,hpin⟩:=part_index hc hp
  have ha:=hair p hj
  rw[hpin]at ha ⊢
  have hpass:passK p.kind.toNat (posN (posW c s) i)=if onM c (gatesP c s) p=true then [] else [⟨[50],[[49]],false⟩]:=by
   rw[posN_W hpi,hk]
   cases onM c (gatesP c s) p<;>rfl
  have hg:GivZ (cirW c).parts ((i:Int),[50]):=⟨i,hi,rfl,.inr ⟨0,⟨[50],[[49]],false⟩,by omega,by rw[hki,hk];decide,rfl⟩⟩
  rw[prs_give hr hgv hp2 hg,hki,hpass]
  cases onM c (gatesP c s) p
  ·simp[ha]
  ·simp
 | two p hp hk q r a b hq hr2 j1 j2 ih1 ih2=>
  intro _
  obtain⟨i,hi,hpi,hki,hpin⟩:=part_index hc hp
  have k1:=fed_prs hc hm hp hi hki hpin hq ih1 j1 (by rcases hk with e | e<;>rw[e]<;>decide) (by rcases hk with e | e<;>rw[e]<;>decide) (by rcases hk with e | e<;>rw[e]<;>decide)
  have k2:=fed_prs hc hm hp hi hki hpin hr2 ih2 j2 (by rcases hk with e | e<;>rw[e]<;>decide) (by rcases hk with e | e<;>rw[e]<;>decide) (by rcases hk with e | e<;>rw[e]<;>decide)
  rw[hpin]
  have hpass:passK p.kind.toNat (posN (posW c s) i)=[⟨[50],[[49],[49,49]],p.kind==9⟩]:=by
   rcases hk with e | e<;>rw[e]<;>rfl
  have hg:GivZ (cirW c).parts ((i:Int),[50]):=⟨i,hi,rfl,.inr ⟨0,⟨[50],[[49],[49,49]],p.kind==9⟩,by omega,by rw[hki];rcases hk with e | e<;>rw[e]<;>decide,rfl⟩⟩
  rw[prs_give hr hgv hp2 hg,hki,hpass]
  have hk0:p.kind.toNat≠0:=by rcases hk with e | e<;>rw[e]<;>decide
  simp only[List.mem_singleton,exists_eq_left,hk0,false_and,false_or,true_and,List.mem_cons,List.not_mem_nil,or_false,forall_eq_or_imp,forall_eq,exists_eq_or_imp,k1,k2]
  rcases hk with e | e
  ·rw[e];simp
  ·rw[e];simp
end
end
theorem only_in {pa l pb:List Made}{ja js jb:List (Pin×Pin)}(ha:∀z∈ja,z.2.part∈nms pa∨∃a,z.2.part=86::letterT a) (hb:∀z∈jb,z.2.part∈nms pb∨∃a,z.2.part=86::letterT a) (hnd:(nms (pa++l++pb)).Nodup)
  {z:Pin×Pin}(hz:z∈ja++js++jb) (hp:z.2.part∈nms l) (hv:∀a,z.2.part≠86::letterT a):z∈js:=by
 simp only[nms,List.map_append]at hnd
 obtain⟨n1,_,n3⟩:=List.nodup_append.1 hnd
 obtain⟨_,_,n6⟩:=List.nodup_append.1 n1
 rcases List.mem_append.1 hz with hz | hz
 ·rcases List.mem_append.1 hz with hz | hz
  ·rcases ha z hz with h | ⟨a,h⟩
   ·exact absurd rfl (n6 _ h _ hp)
   ·exact absurd h (hv a)
  ·exact hz
 ·rcases hb z hz with h | ⟨a,h⟩
  ·exact absurd rfl (n3 _ (List.mem_append_right _ hp) _ h)
  ·exact absurd h (hv a)
theorem own_not_v {c:Control}{i a:Nat}:ownT c i≠86::letterT a:=fun e=>by
 unfold ownT at e
 simp only[List.cons.injEq]at e
 have:=e.1
 split at this<;>exact absurd this (by decide)
def mW (c:Control) (i:Nat):Mk:=(List.range i).foldl (sigM c) ((List.range c.signals.length).foldl (gateM c) (machineM c))
theorem mW_succ (c:Control) (i:Nat):mW c (i+1)=sigM c (mW c i) i:=by
 unfold mW
 rw[List.range_succ,List.foldl_append]
 rfl
theorem mW_grow (c:Control) (i:Nat):GrowM (machineM c) (mW c i):=(GrowM.fold (gateM_grow c) _ _).trans (GrowM.fold (sigM_grow c) _ _)
theorem sigs_gates (c:Control):∀n m,((List.range n).foldl (sigM c) m).gates=m.gates:=fun n=>by
 induction n with
 | zero=>exact fun m=>rfl
 | succ n ih=>
  intro m
  rw[List.range_succ,List.foldl_append]
  simp only[List.foldl_cons,List.foldl_nil]
  rw[<- ih m]
  generalize (List.range n).foldl (sigM c) m=m'
  unfold sigM
  cases c.signals[n]? with
  | none=>rfl
  | some x=>
   dsimp only
   split
   ·rfl
   ·split<;>rfl
theorem pils_gates (c:Control):∀n m,((List.range n).foldl (pilM c) m).gates=m.gates∧((List.range n).foldl (pilM c) m).parts=m.parts:=fun n=>by
 induction n with
 | zero=>exact fun m=>⟨rfl,rfl⟩
 | succ n ih=>
  intro m
  rw[List.range_succ,List.foldl_append]
  simp only[List.foldl_cons,List.foldl_nil]
  exact⟨(ih m).1,(ih m).2⟩
theorem mW_gates (c:Control) (i:Nat):(mW c i).gates=(wholeM c).gates:=by
 unfold wholeM mW
 rw[(pils_gates c _ _).1,sigs_gates,sigs_gates]
theorem mW_rest {c:Control}{i:Nat}(hi:i<c.signals.length):GrowM (sigM c (mW c i) i) (wholeM c):=by
 have h0:∀n,i<n->GrowM (sigM c (mW c i) i) (mW c n):=by
  intro n
  induction n with
  | zero=>intro h;omega
  | succ n ih=>
   intro h
   rw[mW_succ]
   rcases Nat.lt_or_ge i n with h1 | h1
   ·exact (ih h1).trans (sigM_grow c _ n)
   ·obtain rfl:i=n:=by omega
    exact .refl _
 exact (h0 _ hi).trans (GrowM.fold (pilM_grow c) _ _)
theorem step_only {c:Control}(hc:checkC c=0) {i:Nat}(hi:i<c.signals.length) {l:List Made}{js:List (Pin×Pin)}(e1:(sigM c (mW c i) i).parts=(mW c i).parts++l) (e2:(sigM c (mW c i) i).joins=(mW c i).joins++js) :
  (nms l).Nodup∧(∀p∈l,p∈(wholeM c).parts)∧(∀z∈js,z∈(wholeM c).joins)∧∀z∈(wholeM c).joins,z.2.part∈nms l->(∀a,z.2.part≠86::letterT a)->z∈js:=by
 have hnd:=whole_names hc
 have hmf:=machine_feed c
 obtain⟨l2,js2,f1,f2,f3⟩:=mW_rest hi
 obtain⟨l0,js0,g1,g2,g3⟩:=mW_grow c i
 rw[e1]at f1
 rw[e2]at f2
 rw[f1]at hnd
 have hma:∀z∈(mW c i).joins,z.2.part∈nms (mW c i).parts∨∃a,z.2.part=86::letterT a:=fun z hz=>by
  rw[g2]at hz
  rw[g1,nms,List.map_append]
  rcases List.mem_append.1 hz with hz | hz
  ·exact .inl (List.mem_append_left _ (hmf.2 z hz))
  ·rcases g3.take z hz with h | h
   ·exact .inl (List.mem_append_right _ h)
   ·exact .inr h
 have hstep:=hnd
 simp only[List.map_append]at hstep
 obtain⟨n1,_,_⟩:=List.nodup_append.1 hstep
 obtain⟨_,n2,_⟩:=List.nodup_append.1 n1
 refine⟨n2,fun p hp=>by rw[f1];simp[hp],fun z hz=>by rw[f2];simp[hz],fun z hz hp hv=>?_⟩
 rw[f2]at hz
 exact only_in hma f3.take (l:=l) hnd hz hp hv
abbrev onD (c:Control) (i:Nat) (x:Signal):Dl:=exprD false (portM c (wholeM c).gates) i x.on (mW c i).number
abbrev offD (c:Control) (i:Nat) (x:Signal):Dl:=exprD false (portM c (wholeM c).gates) i x.off (onD c i x).num
theorem memory_joins {c:Control}{i:Nat}{x:Signal}(hx:c.signals[i]?=some x) (hk:x.kind=1) :
  (sigM c (mW c i) i).joins=(mW c i).joins++(joinD supPin ⟨ownT c i,[49]⟩++(onD c i x).joins++joinD (onD c i x).pin ⟨ownT c i,[49,52]⟩++(offD c i x).joins++joinD (offD c i x).pin ⟨ownT c i,[49,50]⟩):=by
 unfold onD offD onD
 rw[<- mW_gates c i]
 unfold sigM
 rw[hx]
 dsimp only
 rw[if_pos hk]
 simp[Mk.to,Mk.app,Mk.join,Mk.feed,Mk.add,Mk.sig,Mk.expr]
theorem timer_joins {c:Control}{i:Nat}{x:Signal}(hx:c.signals[i]?=some x) (hk:x.kind=2) :
  (sigM c (mW c i) i).joins=(mW c i).joins++(joinD supPin ⟨ownT c i,[49]⟩++(onD c i x).joins++joinD (onD c i x).pin ⟨ownT c i,[49,50]⟩):=by
 unfold onD
 rw[<- mW_gates c i]
 unfold sigM
 rw[hx]
 dsimp only
 rw[if_neg (by omega),if_pos hk]
 simp[Mk.to,Mk.app,Mk.join,Mk.feed,Mk.add,Mk.sig,Mk.expr]
theorem memory_in {c:Control}(hc:checkC c=0) {i:Nat}{x:Signal}(hx:c.signals[i]?=some x) (hk:x.kind=1) :
  (sigM c (mW c i) i).parts=(mW c i).parts++([⟨2,ownT c i,0,i,none,-1,firstC c+i⟩]++(onD c i x).parts++(offD c i x).parts) ∧
   InW (wholeM c).joins (wholeM c).parts (onD c i x).parts (onD c i x).joins∧(nms (onD c i x).parts).Nodup ∧
   InW (wholeM c).joins (wholeM c).parts (offD c i x).parts (offD c i x).joins∧(nms (offD c i x).parts).Nodup ∧
   Fed (wholeM c).joins (onD c i x).pin ⟨ownT c i,[49,52]⟩∧Fed (wholeM c).joins (offD c i x).pin ⟨ownT c i,[49,50]⟩:=by
 have hi:=(List.getElem?_eq_some_iff.1 hx).1
 have hmg:=mW_gates c i
 have hl1:=fun s (h:s∈nms (onD c i x).parts) a=>expr_letter h a
 have hl2:=fun s (h:s∈nms (offD c i x).parts) a=>expr_letter h a
 have e2:=memory_joins hx hk
 have e1:(sigM c (mW c i) i).parts=(mW c i).parts++([⟨2,ownT c i,0,i,none,-1,firstC c+i⟩]++(onD c i x).parts++(offD c i x).parts):=by
  unfold onD offD onD
  rw[<- hmg]
  unfold sigM
  rw[hx]
  dsimp only
  rw[if_pos hk]
  simp[Mk.to,Mk.app,Mk.join,Mk.feed,Mk.add,Mk.sig,Mk.expr]
 have c1:=expr_c (portM c (wholeM c).gates) i x.on (mW c i).number
 have c2:=expr_c (portM c (wholeM c).gates) i x.off (onD c i x).num
 obtain⟨hnd,hps,hjs,hin⟩:=step_only hc hi e1 e2
 refine⟨e1,?_⟩
 clear e1 e2
 change (nms (onD c i x).parts).Nodup->ConsOK (nms (onD c i x).parts) (onD c i x).joins at c1
 change (nms (offD c i x).parts).Nodup->ConsOK (nms (offD c i x).parts) (offD c i x).joins at c2
 generalize offD c i x=d2 at *
 generalize onD c i x=d1 at *
 have hstep:=hnd
 simp only[nms,List.map_append,List.map_cons,List.map_nil]at hstep
 obtain⟨n3,n4,n5⟩:=List.nodup_append.1 hstep
 obtain⟨_,n6,n7⟩:=List.nodup_append.1 n3
 have t1:=(c1 n6).take
 have t2:=(c2 n4).take
 have ho1:ownT c i∉nms d1.parts:=fun h=>n7 _ (by simp) _ h rfl
 have ho2:ownT c i∉nms d2.parts:=fun h=>n5 _ (List.mem_append_left _ (by simp)) _ h rfl
 have hd12:∀s,s∈nms d1.parts->s∉nms d2.parts:=fun s h1 h2=>n5 _ (List.mem_append_right _ h1) _ h2 rfl
 have hin:∀z∈(wholeM c).joins,(z.2.part=ownT c i∨z.2.part∈nms d1.parts∨z.2.part∈nms d2.parts)->z∈joinD supPin ⟨ownT c i,[49]⟩++d1.joins++joinD d1.pin ⟨ownT c i,[49,52]⟩++d2.joins++joinD d2.pin ⟨ownT c i,[49,50]⟩:=fun z hz hp=>by
  refine hin z hz ?_ ?_
  ·simp only[nms,List.map_append,List.map_cons,List.map_nil,List.mem_append,List.mem_singleton]
   rcases hp with h | h | h
   ·exact .inl (.inl h)
   ·exact .inl (.inr h)
   ·exact .inr h
  ·intro a e
   rcases hp with h | h | h
   ·rw[h]at e;exact own_not_v e
   ·exact hl1 _ h a e
   ·exact hl2 _ h a e
 refine⟨⟨fun p hp=>hps p (by simp[hp]),fun z hz=>hjs z (by simp[hz]),fun z hz hp=>?_⟩,n6,⟨fun p hp=>hps p (by simp[hp]),fun z hz=>hjs z (by simp[hz]),fun z hz hp=>?_⟩,n4,⟨fun h=>?_,fun h z hz e=>?_⟩,⟨fun h=>?_,fun h z hz e=>?_⟩⟩
 ·have:=hin z hz (.inr (.inl hp))
  simp only[List.mem_append]at this
  rcases this with (((h | h) | h) | h) | h
  ·rw[(joinD_take h).1]at hp;exact absurd hp ho1
  ·exact h
  ·rw[(joinD_take h).1]at hp;exact absurd hp ho1
  ·exact absurd (t2 z h) (hd12 _ hp)
  ·rw[(joinD_take h).1]at hp;exact absurd hp ho1
 ·have:=hin z hz (.inr (.inr hp))
  simp only[List.mem_append]at this
  rcases this with (((h | h) | h) | h) | h
  ·rw[(joinD_take h).1]at hp;exact absurd hp ho2
  ·exact absurd hp (hd12 _ (t1 z h))
  ·rw[(joinD_take h).1]at hp;exact absurd hp ho2
  ·exact h
  ·rw[(joinD_take h).1]at hp;exact absurd hp ho2
 ·have:=joinD_mem h (pin_ne (s:=ownT c i) (t:=[49,52]) (by simp))
  exact hjs _ (by simp[this])
 ·have:=hin z hz (.inl (by rw[e]))
  simp only[List.mem_append]at this
  rcases this with (((h' | h') | h') | h') | h'
  ·rw[(joinD_take h').1]at e;simp at e
  ·have:=t1 z h';rw[e]at this;exact ho1 this
  ·exact (joinD_take h').2 h
  ·have:=t2 z h';rw[e]at this;exact ho2 this
  ·rw[(joinD_take h').1]at e;simp at e
 ·have:=joinD_mem h (pin_ne (s:=ownT c i) (t:=[49,50]) (by simp))
  exact hjs _ (by simp[this])
 ·have:=hin z hz (.inl (by rw[e]))
  simp only[List.mem_append]at this
  rcases this with (((h' | h') | h') | h') | h'
  ·rw[(joinD_take h').1]at e;simp at e
  ·have:=t1 z h';rw[e]at this;exact ho1 this
  ·rw[(joinD_take h').1]at e;simp at e
  ·have:=t2 z h';rw[e]at this;exact ho2 this
  ·exact (joinD_take h').2 h
theorem timer_in {c:Control}(hc:checkC c=0) {i:Nat}{x:Signal}(hx:c.signals[i]?=some x) (hk:x.kind=2) :
  (sigM c (mW c i) i).parts=(mW c i).parts++([⟨12,ownT c i,x.delay,i,none,-1,firstC c+i⟩]++(onD c i x).parts) ∧
   InW (wholeM c).joins (wholeM c).parts (onD c i x).parts (onD c i x).joins∧(nms (onD c i x).parts).Nodup:=by
 have hi:=(List.getElem?_eq_some_iff.1 hx).1
 have hmg:=mW_gates c i
 have hl1:=fun s (h:s∈nms (onD c i x).parts) a=>expr_letter h a
 have e2:=timer_joins hx hk
 have e1:(sigM c (mW c i) i).parts=(mW c i).parts++([⟨12,ownT c i,x.delay,i,none,-1,firstC c+i⟩]++(onD c i x).parts):=by
  unfold onD
  rw[<- hmg]
  unfold sigM
  rw[hx]
  dsimp only
  rw[if_neg (by omega),if_pos hk]
  simp[Mk.to,Mk.app,Mk.join,Mk.feed,Mk.add,Mk.sig,Mk.expr]
 obtain⟨hnd,hps,hjs,hin⟩:=step_only hc hi e1 e2
 refine⟨e1,?_⟩
 clear e1 e2
 generalize onD c i x=d1 at *
 have hstep:=hnd
 simp only[nms,List.map_append,List.map_cons,List.map_nil]at hstep
 obtain⟨_,n6,n7⟩:=List.nodup_append.1 hstep
 have ho1:ownT c i∉nms d1.parts:=fun h=>n7 _ (by simp) _ h rfl
 refine⟨⟨fun p hp=>hps p (by simp[hp]),fun z hz=>hjs z (by simp[hz]),fun z hz hp=>?_⟩,n6⟩
 have:=hin z hz (by simp only[nms,List.map_append,List.mem_append];exact .inr hp) (fun a e=>hl1 _ hp a e)
 simp only[List.mem_append]at this
 rcases this with (h | h) | h
 ·rw[(joinD_take h).1]at hp;exact absurd hp ho1
 ·exact h
 ·rw[(joinD_take h).1]at hp;exact absurd hp ho1
def OwnT (J:List (Pin×Pin)) (Ps:List Made) (on:Made->Bool) (vs:List Bool) (p:Made):Prop:=
 (p.kind=5∧∃q y,p.arg=some y∧Fed J q ⟨p.name,[49,48]⟩∧Tel J Ps on q (evalE y vs))∨((p.kind=8∨p.kind=9)∧∃b,Tel J Ps on ⟨p.name,[50]⟩ b)
theorem joinD_give {a b:Pin}{z:Pin×Pin}(h:z∈joinD a b):z.1=a:=by
 unfold joinD at h
 split at h
 ·cases h
 ·rw[List.mem_singleton.1 h]
theorem twin_own {J:List (Pin×Pin)}{Ps:List Made}{on:Made->Bool}{vs:List Bool}{sg kind:Int}(hk:kind=8∨kind=9) {letter:UInt8}:∀(l:List (Pin×Bool)) (d:Dl) (a:Bool),(∀z∈l,Tel J Ps on z.1 z.2)->Tel J Ps on d.pin a->((∀p∈d.parts,OwnT J Ps on vs p)∧∀z∈d.joins,∃b,Tel J Ps on z.1 b) ->
  InW J Ps ((l.map (·.1)).foldl (twinD sg kind letter) d).parts ((l.map (·.1)).foldl (twinD sg kind letter) d).joins->ConsOK (nms d.parts) d.joins->(nms ((l.map (·.1)).foldl (twinD sg kind letter) d).parts).Nodup ->
  (∀p∈((l.map (·.1)).foldl (twinD sg kind letter) d).parts,OwnT J Ps on vs p)∧∀z∈((l.map (·.1)).foldl (twinD sg kind letter) d).joins,∃b,Tel J Ps on z.1 b
 | [],d,a,_,_,h,_,_,_=>h
 | (p,b)::l,d,a,hl,h,ho,hW,hc,hn=>by
  rw[List.map_cons,List.foldl_cons]at hW hn ⊢
  obtain⟨l2,js,e1,e2,e3⟩:=twin_later (sg:=sg) (kind:=kind) (letter:=letter) (l.map (·.1)) (twinD sg kind letter d p)
  have hW2:=hW
  have hn2:=hn
  rw[e1,e2]at hW2
  rw[e1]at hn2
  obtain⟨f1,f2⟩:=twin_fed e3 hW2 hc hn2
  have hx:(⟨kind,letter::numT d.num,0,sg,none,-1,-1⟩:Made)∈Ps:=hW2.parts _ (by simp[twinD])
  have ht:=Tel.two (J:=J) (Ps:=Ps) (on:=on) _ hx hk d.pin p a b h (hl (p,b) (by simp)) f1 f2
  have hnd:(nms (twinD sg kind letter d p).parts).Nodup:=by
   rw[nms,List.map_append]at hn2
   exact (List.nodup_append.1 hn2).1
  refine twin_own hk l (twinD sg kind letter d p) _ (fun z hz=>hl z (by simp[hz])) ht ⟨fun x hx=>?_,fun z hz=>?_⟩ hW (twin_c (sg:=sg) (kind:=kind) (letter:=letter) [p] hc hnd) hn
  ·have hx:x∈d.parts++[(⟨kind,letter::numT d.num,0,sg,none,-1,-1⟩:Made)]:=hx
   rcases List.mem_append.1 hx with hx | hx
   ·exact ho.1 x hx
   ·rw[List.mem_singleton.1 hx]
    exact .inr ⟨hk,_,ht⟩
  ·have hz:z∈d.joins++joinD d.pin ⟨letter::numT d.num,[49]⟩++joinD p ⟨letter::numT d.num,[49,49]⟩:=hz
   rcases List.mem_append.1 hz with hz | hz
   ·rcases List.mem_append.1 hz with hz | hz
    ·exact ho.2 z hz
    ·rw[joinD_give hz]
     exact⟨_,h⟩
   ·rw[joinD_give hz]
    exact⟨_,hl (p,b) (by simp)⟩
mutual
theorem expr_own {J:List (Pin×Pin)}{Ps:List Made}{on:Made->Bool}{vs:List Bool}{n:Int}(hon:∀p∈Ps,∀y,p.arg=some y->on p=evalE y vs) (pf:Int->Pin) (sg:Int):∀(x:Expr) (k:Nat),RightE n x->(∀v∈varsE x,Tel J Ps on (pf v) (vs.getD v.toNat false)) ->
  InW J Ps (exprD false pf sg x k).parts (exprD false pf sg x k).joins->(nms (exprD false pf sg x k).parts).Nodup->(∀p∈(exprD false pf sg x k).parts,OwnT J Ps on vs p)∧∀z∈(exprD false pf sg x k).joins,∃b,Tel J Ps on z.1 b
 | ⟨op,ix,args⟩,k,hr,hv,hW,hn=>by
  have h:=args_own (J:=J) hon pf sg args k hr.args
  have htel:=args_tel (J:=J) hon pf sg args k hr.args
  have hca:=args_c pf sg args k
  have hlen:=argsD_len false pf sg args k
  have hnode:=hr.node
  unfold nodeR at hnode
  rw[varsE]at hv
  rw[exprD_eq]at hW hn ⊢
  dsimp only at hW hn hnode ⊢
  have hva:∀v∈varsL args,Tel J Ps on (pf v) (vs.getD v.toNat false):=fun v hm=>hv v (List.mem_append.2 (.inr hm))
  split at hnode
  ·cases hnode
  ·rename_i hop
   by_cases h0:op=0
   ·rw[if_pos h0]
    exact⟨fun _ h=>(nomatch h),fun _ h=>(nomatch h)⟩
   ·rw[if_neg h0]
    rw[if_neg h0]at hW hn
    by_cases h1:op=1
    ·rw[if_pos h1]
     exact⟨fun _ h=>(nomatch h),fun _ h=>(nomatch h)⟩
    ·rw[if_neg h1]
     rw[if_neg h1]at hW hn
     have h2:=h hva
     have ht2:=htel hva
     by_cases h2':op=2
     ·rw[if_pos h2']
      rw[if_pos h2']at hW hn
      have hl1:args.length=1:=by
       simp only[h2',show ¬(2:Int)<=1 by decide,if_true,if_false]at hnode
       split at hnode
       ·cases hnode
       ·rename_i hk;omega
      obtain⟨y,rfl⟩:∃y,args=[y]:=by
       rcases args with _ | ⟨y,_ | ⟨z,l⟩⟩<;>simp only[List.length_nil,List.length_cons]at hl1<;>try omega
       exact⟨y,rfl⟩
      generalize argsD false pf sg [y] k=r at *
      obtain⟨r1,r2,r3,r4⟩:=r
      simp only[List.head?_cons,notsD,notD]at hW hn ⊢
      dsimp only at hca h2 ht2 hlen
      obtain⟨q,rfl⟩:∃q,r4=[q]:=by
       rcases r4 with _ | ⟨q,_ | ⟨z,l⟩⟩<;>simp only[List.length_nil,List.length_cons]at hlen<;>try omega
       exact⟨q,rfl⟩
      have hnn:=hn
      rw[nms,List.map_append]at hnn
      obtain⟨m1,_,m3⟩:=List.nodup_append.1 hnn
      have hnot:(78::numT r3)∉nms r1:=fun h=>m3 _ h _ (by simp) rfl
      have hc1:=hca m1
      rw[List.append_assoc]at hW
      have hair:airD false (⟨78::numT r3,[49]⟩:Pin)=joinD supPin ⟨78::numT r3,[49]⟩:=by unfold airD;rw[if_neg (by decide)]
      rw[hair]at hW
      simp only[List.headD_cons]at hW
      have hWa:InW J Ps r1 r2:=hW.left (fun z hz=>by
       rcases List.mem_append.1 hz with hz | hz
       ·rw[(joinD_take hz).1];simp[nms]
       ·rw[(joinD_take hz).1];simp[nms]) hn
      have h3:=h2 hWa m1
      have ht3:=ht2 hWa m1 (q,evalE y vs) (by simp[evalL])
      refine⟨fun p hp=>?_,fun z hz=>?_⟩
      ·rcases List.mem_append.1 hp with hp | hp
       ·exact h3.1 p hp
       rw[List.mem_singleton.1 hp]
       refine .inl ⟨rfl,q,y,rfl,⟨fun hq=>?_,fun hq z hz e=>?_⟩,ht3⟩
       ·exact hW.joins _ (List.mem_append_right _ (List.mem_append_right _ (joinD_mem hq (pin_ne (by simp)))))
       ·have:=hW.only z hz (by rw[e,nms,List.map_append];simp)
        rcases List.mem_append.1 this with h | h
        ·have:=hc1.take z h
         rw[e]at this
         exact hnot this
        ·rcases List.mem_append.1 h with h | h
         ·rw[(joinD_take h).1]at e
          simp at e
         ·exact (joinD_take h).2 hq
      ·rcases List.mem_append.1 hz with hz | hz
       ·rcases List.mem_append.1 hz with hz | hz
        ·exact h3.2 z hz
        ·rw[hair]at hz
         rw[joinD_give hz]
         exact⟨_,.sup⟩
       ·rw[joinD_give hz]
        exact⟨_,ht3⟩
     ·rw[if_neg h2']
      rw[if_neg h2']at hW hn
      have hl2:2<=args.length:=by
       simp only[h2',show ¬op<=1 by omega,if_false]at hnode
       split at hnode
       ·cases hnode
       ·rename_i hk;omega
      have hel:=evalL_len vs args
      generalize hbs:evalL args vs=bs at *
      generalize argsD false pf sg args k=r at *
      obtain⟨r1,r2,r3,r4⟩:=r
      dsimp only at hca h2 ht2 hlen
      rcases r4 with _ | ⟨p,ps⟩
      ·simp only[List.length_nil]at hlen;omega
      ·rcases bs with _ | ⟨b,bs⟩
       ·simp only[List.length_nil]at hel;omega
       ·have hzl:ps.length=bs.length:=by simp only[List.length_cons]at hlen hel;omega
        obtain⟨z1,z2⟩:=zip_snd hzl
        simp only[foldD]at hW hn ⊢
        rw[<- z1]at hW hn ⊢
        obtain⟨l,js,e1,e2,e3⟩:=twin_later (sg:=sg) (kind:=if op=3 then 9 else 8) (letter:=if op=3 then 80 else 81) ((ps.zip bs).map (·.1)) ⟨r1,r2,r3,p⟩
        have hW1:=hW
        have hn1:=hn
        rw[e1,e2]at hW1
        rw[e1]at hn1
        have hWa:=hW1.left e3 hn1
        have hna:(nms r1).Nodup:=by
         rw[nms,List.map_append]at hn1
         exact (List.nodup_append.1 hn1).1
        have h3:=ht2 hWa hna
        simp only[List.zip_cons_cons,List.mem_cons]at h3
        exact twin_own (J:=J) (Ps:=Ps) (on:=on) (sg:=sg) (kind:=if op=3 then 9 else 8) (by split<;>simp) (letter:=if op=3 then 80 else 81) (ps.zip bs) ⟨r1,r2,r3,p⟩ b (fun z hz=>h3 z (.inr hz)) (h3 (p,b) (.inl rfl)) (h2 hWa hna) hW (hca hna) hn
theorem args_own {J:List (Pin×Pin)}{Ps:List Made}{on:Made->Bool}{vs:List Bool}{n:Int}(hon:∀p∈Ps,∀y,p.arg=some y->on p=evalE y vs) (pf:Int->Pin) (sg:Int):∀(xs:List Expr) (k:Nat),(∀x∈xs,RightE n x)->(∀v∈varsL xs,Tel J Ps on (pf v) (vs.getD v.toNat false)) ->
  InW J Ps (argsD false pf sg xs k).parts (argsD false pf sg xs k).joins->(nms (argsD false pf sg xs k).parts).Nodup->(∀p∈(argsD false pf sg xs k).parts,OwnT J Ps on vs p)∧∀z∈(argsD false pf sg xs k).joins,∃b,Tel J Ps on z.1 b
 | [],k,_,_,_,_=>by simp[argsD]
 | x::xs,k,hr,hv,hW,hn=>by
  rw[varsL]at hv
  rw[argsD]at hW hn ⊢
  dsimp only at hW hn ⊢
  have hnn:=hn
  rw[nms,List.map_append]at hnn
  obtain⟨n1,n2,_⟩:=List.nodup_append.1 hnn
  have t1:=(expr_c pf sg x k n1).take
  have t2:=(args_c pf sg xs (exprD false pf sg x k).num n2).take
  have a:=expr_own hon pf sg x k (hr x (by simp)) (fun v h=>hv v (by simp[h])) (hW.left t2 hn) n1
  have b:=args_own (J:=J) hon pf sg xs (exprD false pf sg x k).num (fun y hy=>hr y (by simp[hy])) (fun v h=>hv v (by simp[h])) (hW.right t1 hn) n2
  refine⟨fun z hz=>?_,fun z hz=>?_⟩
  ·rcases List.mem_append.1 hz with hz | hz
   ·exact a.1 z hz
   ·exact b.1 z hz
  ·rcases List.mem_append.1 hz with hz | hz
   ·exact a.2 z hz
   ·exact b.2 z hz
end
def GivJ (c:Control) (s:State) (z:Pin×Pin):Prop:=
 (∃b,TelW c s z.1 b)∨∃a:Nat,(a:Int)<c.actuators∧(z=(⟨86::letterT a,[50]⟩,⟨letterT a,[50]⟩)∨z=(⟨86::letterT a,[52]⟩,⟨letterT a,[52]⟩))
def OwnK (p:Made):Prop:=p.kind=5∨p.kind=8∨p.kind=9
def OwnM (c:Control) (s:State) (m:Mk):Prop:=
 (∀p∈m.parts,OwnK p->OwnT (wholeM c).joins (wholeM c).parts (onM c (gatesP c s)) (valuesOf (gatesP c s)) p)∧∀z∈m.joins,GivJ c s z
theorem OwnM.app {c:Control}{s:State}{m m':Mk}(h:OwnM c s m) {l:List Made}{js:List (Pin×Pin)}(e1:m'.parts=m.parts++l) (e2:m'.joins=m.joins++js)
  (h1:∀p∈l,OwnK p->OwnT (wholeM c).joins (wholeM c).parts (onM c (gatesP c s)) (valuesOf (gatesP c s)) p) (h2:∀z∈js,GivJ c s z):OwnM c s m':=by
 refine⟨fun p hp hk=>?_,fun z hz=>?_⟩
 ·rw[e1]at hp
  rcases List.mem_append.1 hp with hp | hp
  ·exact h.1 p hp hk
  ·exact h1 p hp hk
 ·rw[e2]at hz
  rcases List.mem_append.1 hz with hz | hz
  ·exact h.2 z hz
  ·exact h2 z hz
theorem giv_sup {c:Control}{s:State}{t:Pin}:∀z∈joinD supPin t,GivJ c s z:=fun z hz=>by
 refine .inl ⟨true,?_⟩
 rw[joinD_give hz]
 exact .sup
theorem giv_tel {c:Control}{s:State}{q t:Pin}{b:Bool}(h:TelW c s q b):∀z∈joinD q t,GivJ c s z:=fun z hz=>by
 refine .inl ⟨b,?_⟩
 rw[joinD_give hz]
 exact h
theorem machine_kinds (c:Control):∀p∈(machineM c).parts,¬OwnK p:=by
 have h1:∀n:Nat,∀q∈((List.range n).foldl actM ((⟨[],[],0,-1,[]⟩:Mk).add 0 [83] 0 (-1))).parts.map knOf,¬(q.1=5∨q.1=8∨q.1=9):=by
  intro n
  induction n with
  | zero=>
   intro q hq
   simp only[List.range_zero,List.foldl_nil,Mk.add,List.nil_append,List.map_cons,List.map_nil,List.mem_singleton]at hq
   subst hq
   simp[knOf]
  | succ n ih=>
   intro q hq
   rw[List.range_succ,List.foldl_append]at hq
   simp only[List.foldl_cons,List.foldl_nil]at hq
   rw[act_kn]at hq
   rcases List.mem_append.1 hq with hq | hq
   ·exact ih q hq
   ·simp only[List.mem_cons,List.not_mem_nil,or_false]at hq
    rcases hq with rfl | rfl | rfl | rfl<;>simp
 have h2:∀n m,(∀p∈(m:Mk).parts,¬OwnK p)->∀p∈((List.range n).foldl (inM c) m).parts,¬OwnK p:=by
  intro n
  induction n with
  | zero=>exact fun m h=>h
  | succ n ih=>
   intro m h p hp
   rw[List.range_succ,List.foldl_append]at hp
   have ih:=ih m h
   generalize (List.range n).foldl (inM c) m=m' at *
   simp only[List.foldl_cons,List.foldl_nil,inM,Mk.feed,Mk.join,Mk.add]at hp
   rcases List.mem_append.1 hp with hp | hp
   ·exact ih p hp
   ·rw[List.mem_singleton.1 hp];unfold OwnK;simp
 exact h2 _ _ fun p hp=>h1 _ (knOf p) (List.mem_map.2 ⟨p,hp,rfl⟩)
theorem machine_give {c:Control}(h0:0<=c.actuators) (s:State):∀z∈(machineM c).joins,GivJ c s z:=by
 have h1:∀n:Nat,(n:Int)<=c.actuators->∀z∈((List.range n).foldl actM ((⟨[],[],0,-1,[]⟩:Mk).add 0 [83] 0 (-1))).joins,GivJ c s z:=by
  intro n
  induction n with
  | zero=>exact fun _ z hz=>nomatch hz
  | succ n ih=>
   intro hn z hz
   have ih:=ih (by omega)
   rw[List.range_succ,List.foldl_append]at hz
   generalize (List.range n).foldl actM ((⟨[],[],0,-1,[]⟩:Mk).add 0 [83] 0 (-1))=m at *
   simp only[List.foldl_cons,List.foldl_nil]at hz
   have e:(actM m n).joins=m.joins++actJ n:=by
    unfold actM actJ
    simp[Mk.join,Mk.feed,Mk.add,Mk.valve]
   rw[e]at hz
   rcases List.mem_append.1 hz with hz | hz
   ·exact ih z hz
   ·unfold actJ at hz
    simp only[List.mem_append]at hz
    rcases hz with hz | hz | hz | hz | hz
    ·exact giv_sup z hz
    ·exact giv_sup z hz
    ·exact giv_sup z hz
    ·exact .inr ⟨n,by omega,.inl (Prod.ext (joinD_give hz) (joinD_take hz).1)⟩
    ·exact .inr ⟨n,by omega,.inr (Prod.ext (joinD_give hz) (joinD_take hz).1)⟩
 have h2:∀n m,(∀z∈(m:Mk).joins,GivJ c s z)->∀z∈((List.range n).foldl (inM c) m).joins,GivJ c s z:=by
  intro n
  induction n with
  | zero=>exact fun m h=>h
  | succ n ih=>
   intro m h z hz
   rw[List.range_succ,List.foldl_append]at hz
   have ih:=ih m h
   generalize (List.range n).foldl (inM c) m=m' at *
   simp only[List.foldl_cons,List.foldl_nil,inM,Mk.feed,Mk.join,Mk.add]at hz
   rcases List.mem_append.1 hz with hz | hz
   ·exact ih z hz
   ·exact giv_sup z hz
 exact h2 _ _ (h1 _ (by omega))
theorem whole_own {c:Control}(hc:checkC c=0) {s:State}(hR:rightC c s=0):OwnM c s (wholeM c):=by
 have hf:=fine_of hc
 have hon:=on_arg hc hR
 have hin:=inC_of hc
 have hline:∀ {x:Expr},checkE x (countC c)=0->∀v∈varsE x,TelW c s (portM c (wholeM c).gates v) ((valuesOf (gatesP c s)).getD v.toNat false):=fun hk v hv=>lines_tel hc hR (vars_check hk v hv)
 have hgat:∀n,n<=c.signals.length->OwnM c s ((List.range n).foldl (gateM c) (machineM c)):=by
  intro n
  induction n with
  | zero=>exact fun _=>⟨fun p hp hk=>absurd hk (machine_kinds c p hp),machine_give hin.act s⟩
  | succ n ih=>
   intro hn
   have hx:=List.getElem?_eq_getElem (show n<c.signals.length by omega)
   generalize c.signals[n]=x at hx
   rw[List.range_succ,List.foldl_append]
   simp only[List.foldl_cons,List.foldl_nil]
   have ih:=ih (by omega)
   by_cases hg:kindAt c n=0
   ·obtain⟨hW,hnd⟩:=gate_in hc (by omega) hg hx
    have hkx:kindAt c n=x.kind:=by unfold kindAt;rw[Int.toNat_natCast,hx];rfl
    have hck:=hf.on hx
    have hvk:=vars_check hck.1
    have hlt:=late_not hf hx (by rw[<- hkx];exact hg)
    have hgt:=gates_tel hc hR n (by omega)
    have hfc:firstC c=2*c.actuators+c.inputs.length:=rfl
    have hcn:countC c=2*c.actuators+c.inputs.length+c.signals.length:=rfl
    have hact:=hf.act
    generalize (List.range n).foldl (gateM c) (machineM c)=m at *
    have ho:=expr_own (n:=countC c) hon (portM c m.gates) n x.on m.number (right_of_check hck.1).1 (fun v hv=>by
     refine port_tel hc hR (hvk v hv) fun h1 h2=>?_
     have hj2:=(hlt v hv).resolve_right (by simpa using h2)
     have:=hgt (v-firstC c).toNat (by omega) (by rw[show (((v-firstC c).toNat:Nat):Int)=v-firstC c by omega];exact h2)
     rw[show firstC c+(((v-firstC c).toNat:Nat):Int)=v by omega]at this
     exact this) hW hnd
    refine ih.app (l:=(exprD false (portM c m.gates) n x.on m.number).parts) (js:=(exprD false (portM c m.gates) n x.on m.number).joins) ?_ ?_ (fun p hp _=>ho.1 p hp) fun z hz=>.inl (ho.2 z hz)
    ·unfold gateM
     rw[if_pos hg,hx]
     rfl
    ·unfold gateM
     rw[if_pos hg,hx]
     rfl
   ·unfold gateM
    rw[if_neg hg]
    exact ih
 have hsig:∀n,n<=c.signals.length->OwnM c s (mW c n):=by
  intro n
  induction n with
  | zero=>exact fun _=>hgat _ (Nat.le_refl _)
  | succ n ih=>
   intro hn
   have hx:=List.getElem?_eq_getElem (show n<c.signals.length by omega)
   generalize c.signals[n]=x at hx
   rw[mW_succ]
   have ih:=ih (by omega)
   have hck:=on_check hc hx
   by_cases h1:x.kind=1
   ·obtain⟨e,w1,n1,w2,n2,_⟩:=memory_in hc hx h1
    have e2:=memory_joins hx h1
    have o1:=expr_own (n:=countC c) hon _ _ x.on _ (right_of_check hck.1).1 (hline hck.1) w1 n1
    have o2:=expr_own (n:=countC c) hon _ _ x.off _ (right_of_check (hck.2 h1)).1 (hline (hck.2 h1)) w2 n2
    have t1:=expr_tel (n:=countC c) hon _ _ x.on _ (right_of_check hck.1).1 (hline hck.1) w1 n1
    have t2:=expr_tel (n:=countC c) hon _ _ x.off _ (right_of_check (hck.2 h1)).1 (hline (hck.2 h1)) w2 n2
    refine ih.app e e2 (fun p hp hk=>?_) fun z hz=>?_
    ·simp only[List.mem_append]at hp
     rcases hp with (hp | hp) | hp
     ·rw[List.mem_singleton.1 hp]at hk
      unfold OwnK at hk
      simp at hk
     ·exact o1.1 p hp
     ·exact o2.1 p hp
    ·simp only[List.mem_append]at hz
     rcases hz with (((hz | hz) | hz) | hz) | hz
     ·exact giv_sup z hz
     ·exact .inl (o1.2 z hz)
     ·exact giv_tel t1 z hz
     ·exact .inl (o2.2 z hz)
     ·exact giv_tel t2 z hz
   ·by_cases h2:x.kind=2
    ·obtain⟨e,w1,n1⟩:=timer_in hc hx h2
     have e2:=timer_joins hx h2
     have o1:=expr_own (n:=countC c) hon _ _ x.on _ (right_of_check hck.1).1 (hline hck.1) w1 n1
     have t1:=expr_tel (n:=countC c) hon _ _ x.on _ (right_of_check hck.1).1 (hline hck.1) w1 n1
     refine ih.app e e2 (fun p hp hk=>?_) fun z hz=>?_
     ·rcases List.mem_append.1 hp with hp | hp
      ·rw[List.mem_singleton.1 hp]at hk
       unfold OwnK at hk
       simp at hk
      ·exact o1.1 p hp
     ·simp only[List.mem_append]at hz
      rcases hz with (hz | hz) | hz
      ·exact giv_sup z hz
      ·exact .inl (o1.2 z hz)
      ·exact giv_tel t1 z hz
    ·have e:(sigM c (mW c n) n)=(mW c n).sig n:=by
      unfold sigM
      rw[hx]
      dsimp only
      rw[if_neg h1,if_neg h2]
     rw[e]
     exact ih
 have hpil:∀n:Nat,(n:Int)<=c.actuators->OwnM c s ((List.range n).foldl (pilM c) (mW c c.signals.length)):=by
  intro n
  induction n with
  | zero=>exact fun _=>hsig _ (Nat.le_refl _)
  | succ n ih=>
   intro hn
   have hg:=(pils_gates c n (mW c c.signals.length)).1
   rw[mW_gates]at hg
   rw[List.range_succ,List.foldl_append]
   have ih:=ih (by omega)
   generalize (List.range n).foldl (pilM c) (mW c c.signals.length)=m at *
   simp only[List.foldl_cons,List.foldl_nil]
   obtain⟨p1,p2⟩:=hin.pil n (by omega)
   refine ih.app (l:=[]) (js:=joinD (portM c m.gates (c.plus.getD n 0)) ⟨86::letterT n,[49,52]⟩++joinD (portM c m.gates (c.minus.getD n 0)) ⟨86::letterT n,[49,50]⟩) (by simp[pilM,Mk.join]) (by simp[pilM,Mk.join]) (fun p hp=>nomatch hp) fun z hz=>?_
   rw[hg]at hz
   rcases List.mem_append.1 hz with hz | hz
   ·exact giv_tel (lines_tel hc hR p1) z hz
   ·exact giv_tel (lines_tel hc hR p2) z hz
 exact hpil _ (by have:=hin.act;omega)

section
open Go.Sort Go.Lib
structure KeptI (zs:List Int) (p:Int->Bool) (j i:Nat) (cur:List Int):Prop where
 len:cur.length=zs.length
 lt:i<j
 le:j<=zs.length
 pre:cur.take i=(zs.take j).filter fun n=>!p n
 post:cur.drop j=zs.drop j
end
structure OrdI (ps:List Prt) (d:List Drv) (nets:List (List PortZ)) (n:Nat) (order rest:List Nat):Prop where
 ord:order=orderN ps d nets n
 rst:rest=restZ ps nets order
 len:order.length=n
 all:n+rest.length=manyC ps nets


theorem nodup_range (n:Nat):(List.range n).Nodup:=List.nodup_range
abbrev rE (x:Expr):List A:=[.dat (.int .i64 x.op),.dat (.int .i64 x.index),.dat (.sl (x.args.map encE))]
theorem rowsD_E (xs:List Expr):rowsD (xs.map rE)=xs.map encE:=by unfold rowsD;rw[List.map_map];congr 1;funext x;simp[encE_eq]
theorem allD_E (xs:List Expr):allD (xs.map rE)=true:=by simp[allD,isD]
attribute [simp] rowsD_E allD_E

structure Pln.B (p:Pln):Prop where
 pl:p.ps.length<=64
 dl:p.drives.length<=64
 ol:p.order.length<=448
 net:∀l∈p.nets,l.length<=448
 names:∀x∈p.ps,x.name.length<=1000
 delay:∀x∈p.ps,0<=x.delay∧x.delay<=1000000
 small:∀n∈p.order,n<=448

section
open Go.Sort
end

structure CtV where
 vi:Value
 vs:Value
 vp:Value
 vm:Value
 I:List (List UInt8)
 S:List Signal
 P:List Int
 M:List Int
structure Pln.D (p:Pln):Prop where
 val:∀d∈p.drives,kindOf p.ps d.2=2∨kindOf p.ps d.2=3
 ord:∀n∈p.order,n<p.nets.length










structure NsOK (ns:List (List PortZ)) (all:List PortZ):Prop where
 few:ns.length<=448
 net:∀l∈ns,l.length<=448∧l≠[]∧∀p∈l,p∈all
 of:∀p∈all,netW ns p<ns.length

end Go.Proofs.YtafamcbdaeppoaaGreatDoor
