/- Texts joined by a program: Ob,Og,Dc,Dd,De. -/
import Derived.Test.YtafamcbdaeppoaaGreatDoorE17
import Derived.Test.YtafamcbdaeppoaaGreatDoorE16
import Derived.Test.YtafamcbdaeppoaaGreatDoorE12
import Derived.Test.YtafamcbdaeppoaaGreatDoorE11
set_option linter.unusedSimpArgs false
set_option linter.unusedVariables false
set_option maxHeartbeats 8000000
set_option maxRecDepth 10000
namespace Go.Proofs.YtafamcbdaeppoaaGreatDoor
structure Psg where
 part:Nat
 to:Nat
 src:List Nat
 all:Bool
 deriving DecidableEq
def psgsI (ps:List Prt) (nets:List (List PortZ)) (pos:List Int) (i:Nat):List Psg:=(passK (kindOf ps i) (posN pos i)).map fun y=>⟨i,netW nets ((i:Int),y.to),y.src.map fun t=>netW nets ((i:Int),t),y.all⟩
def psgsN (ps:List Prt) (nets:List (List PortZ)) (pos:List Int) (n:Nat):List Psg:=(List.range n).flatMap (psgsI ps nets pos)
def flowsZ (st:List Int) (y:Psg):Bool:=if y.all=true then y.src.all fun n=>st.getD n 0==2 else y.src.any fun n=>st.getD n 0==2
def airZ (st:List Int) (y:Psg):Bool:=y.src.any fun n=>st.getD n 0==1
def swStep (v:Int) (tk:List Int->Psg->Bool) (q:List Int×Bool) (y:Psg):List Int×Bool:=if q.1.getD y.to 0=0∧tk q.1 y=true then (q.1.set y.to v,true) else q
def sweep (v:Int) (tk:List Int->Psg->Bool) (l:List Psg) (st:List Int):List Int×Bool:=l.foldl (swStep v tk) (st,false)
def closeZ (v:Int) (tk:List Int->Psg->Bool) (l:List Psg):Nat->List Int->List Int
 | 0,st=>st
 | n+1,st=>if (sweep v tk l st).2=true then closeZ v tk l n (sweep v tk l st).1 else (sweep v tk l st).1
def zeros (st:List Int):Nat:=st.countP (·==0)
def supStep (ps:List Prt) (nets:List (List PortZ)) (st:List Int) (i:Nat):List Int:=if kindOf ps i=0 then st.set (netW nets ((i:Int),[49])) 2 else st
def supN (ps:List Prt) (nets:List (List PortZ)) (n:Nat):List Int:=(List.range n).foldl (supStep ps nets) (List.replicate nets.length 0)
def opStep (nets:List (List PortZ)) (i:Nat) (st:List Int) (t:List UInt8):List Int:=if st.getD (netW nets ((i:Int),t)) 0=0 then st.set (netW nets ((i:Int),t)) 1 else st
def opN (ps:List Prt) (nets:List (List PortZ)) (pos:List Int) (st:List Int) (n:Nat):List Int:=(List.range n).foldl (fun s i=>(openK (kindOf ps i) (posN pos i)).foldl (opStep nets i) s) st
def pressedZ (ps:List Prt) (nets:List (List PortZ)) (pos:List Int):List Int:=closeZ 2 flowsZ (psgsN ps nets pos ps.length) (nets.length+1) (supN ps nets ps.length)
def statesZ (ps:List Prt) (nets:List (List PortZ)) (pos:List Int):List Int:=closeZ 1 airZ (psgsN ps nets pos ps.length) (nets.length+1) (opN ps nets pos (pressedZ ps nets pos) ps.length)
theorem getD_set {st:List Int}{i n:Nat}{v:Int}:(st.set i v).getD n 0=if i=n∧i<st.length then v else st.getD n 0:=by
 rw[List.getD_eq_getElem?_getD,List.getD_eq_getElem?_getD,List.getElem?_set]
 by_cases h:i=n
 ·subst h
  by_cases h2:i<st.length
  ·simp[h2]
  ·simp[h2]
 ·simp[h]
theorem sw_true (v:Int) (tk:List Int->Psg->Bool):∀(l:List Psg) (st:List Int),(l.foldl (swStep v tk) (st,true)).2=true
 | [],_=>rfl
 | y::l,st=>by
  rw[List.foldl_cons]
  unfold swStep
  split
  ·exact sw_true v tk l _
  ·exact sw_true v tk l _
theorem sw_false (v:Int) (tk:List Int->Psg->Bool):∀(l:List Psg) (st:List Int),(sweep v tk l st).2=false->(sweep v tk l st).1=st∧∀y∈l,¬(st.getD y.to 0=0∧tk st y=true)
 | [],st,_=>⟨rfl,by simp⟩
 | y::l,st,h=>by
  unfold sweep at h ⊢
  rw[List.foldl_cons]at h ⊢
  by_cases hc:st.getD y.to 0=0∧tk st y=true
  ·have e:swStep v tk (st,false) y=(st.set y.to v,true):=by unfold swStep;rw[if_pos hc]
   rw[e,sw_true]at h
   cases h
  ·have e:swStep v tk (st,false) y=(st,false):=by unfold swStep;rw[if_neg hc]
   rw[e]at h ⊢
   obtain⟨h1,h2⟩:=sw_false v tk l st h
   refine⟨h1,fun z hz=>?_⟩
   rcases List.mem_cons.1 hz with rfl | hz
   ·exact hc
   ·exact h2 z hz
theorem sw_inv {v:Int}{tk:List Int->Psg->Bool}(P:List Int->Prop):∀(l:List Psg) (q:List Int×Bool),(∀st y,y∈l->P st->st.getD y.to 0=0->tk st y=true->P (st.set y.to v))->P q.1->P (l.foldl (swStep v tk) q).1
 | [],_,_,h=>h
 | y::l,q,hs,h=>by
  rw[List.foldl_cons]
  refine sw_inv P l _ (fun st z hz=>hs st z (List.mem_cons_of_mem _ hz)) ?_
  unfold swStep
  split
  ·rename_i hc
   exact hs q.1 y (by simp) h hc.1 hc.2
  ·exact h
theorem close_inv {v:Int}{tk:List Int->Psg->Bool}(P:List Int->Prop) {l:List Psg}(hs:∀st y,y∈l->P st->st.getD y.to 0=0->tk st y=true->P (st.set y.to v)):∀(n:Nat) (st:List Int),P st->P (closeZ v tk l n st)
 | 0,_,h=>h
 | n+1,st,h=>by
  have h1:P (sweep v tk l st).1:=sw_inv P l (st,false) hs h
  unfold closeZ
  split
  ·exact close_inv P hs n _ h1
  ·exact h1
theorem zeros_set {st:List Int}{i:Nat}{v:Int}(hi:i<st.length) (h0:st.getD i 0=0) (hv:v≠0):zeros (st.set i v)+1=zeros st:=by
 unfold zeros
 induction st generalizing i with
 | nil=>simp at hi
 | cons x l ih=>
  cases i with
  | zero=>
   have h0:x=0:=by simpa using h0
   subst h0
   simp[hv]
  | succ i=>
   have hi:i<l.length:=by simpa using hi
   have h0:l.getD i 0=0:=by simpa using h0
   have:=ih hi h0
   rw[List.set_cons_succ,List.countP_cons,List.countP_cons]
   omega
theorem sw_zeros {v:Int}(hv:v≠0) {tk:List Int->Psg->Bool}{N:Nat}:∀(l:List Psg) (q:List Int×Bool),(∀y∈l,y.to<N)->q.1.length=N->(l.foldl (swStep v tk) q).1.length=N∧zeros (l.foldl (swStep v tk) q).1+(if (l.foldl (swStep v tk) q).2=true then 1 else 0)<=zeros q.1+(if q.2=true then 1 else 0)
 | [],q,_,h=>⟨h,Nat.le_refl _⟩
 | y::l,q,hl,h=>by
  rw[List.foldl_cons]
  have hq:(swStep v tk q y).1.length=N∧zeros (swStep v tk q y).1+(if (swStep v tk q y).2=true then 1 else 0)<=zeros q.1+(if q.2=true then 1 else 0):=by
   unfold swStep
   split
   ·rename_i hc
    have:=zeros_set (by rw[h];exact hl y (by simp)) hc.1 hv
    refine⟨by rw[List.length_set];exact h,?_⟩
    simp only[if_true]
    omega
   ·exact⟨h,Nat.le_refl _⟩
  obtain⟨h1,h2⟩:=sw_zeros hv l _ (fun z hz=>hl z (List.mem_cons_of_mem _ hz)) hq.1
  exact⟨h1,Nat.le_trans h2 hq.2⟩
theorem sweep_zeros {v:Int}(hv:v≠0) {tk:List Int->Psg->Bool}{N:Nat}{l:List Psg}{st:List Int}(hl:∀y∈l,y.to<N) (h:st.length=N):(sweep v tk l st).1.length=N∧zeros (sweep v tk l st).1+(if (sweep v tk l st).2=true then 1 else 0)<=zeros st:=by
 exact sw_zeros hv (tk:=tk) l (st,false) hl h
theorem close_len {v:Int}{tk:List Int->Psg->Bool}{l:List Psg}(n:Nat) (st:List Int):(closeZ v tk l n st).length=st.length:=
 close_inv (fun s=>s.length=st.length) (fun s y _ h _ _=>by rw[List.length_set];exact h) n st rfl
theorem close_end {v:Int}(hv:v≠0) {tk:List Int->Psg->Bool}{N:Nat}{l:List Psg}(hl:∀y∈l,y.to<N):∀(n:Nat) (st:List Int),st.length=N->zeros st<n->∀y∈l,¬((closeZ v tk l n st).getD y.to 0=0∧tk (closeZ v tk l n st) y=true)
 | 0,_,_,h=>absurd h (Nat.not_lt_zero _)
 | n+1,st,hN,h=>by
  obtain⟨h1,h2⟩:=sweep_zeros hv (tk:=tk) hl hN
  unfold closeZ
  cases e:(sweep v tk l st).2 with
  | true=>
   rw[e]at h2
   simp only[if_true]at h2 ⊢
   exact close_end hv hl n _ h1 (by omega)
  | false=>
   obtain⟨h3,h4⟩:=sw_false v tk l st e
   simp only[Bool.false_eq_true,if_false]
   rw[h3]
   exact h4
theorem zeros_le (st:List Int):zeros st<=st.length:=List.countP_le_length
theorem mem_psgs {ps:List Prt}{nets:List (List PortZ)}{pos:List Int}{n:Nat}{z:Psg}:z∈psgsN ps nets pos n↔∃i y,i<n∧y∈passK (kindOf ps i) (posN pos i)∧z=⟨i,netW nets ((i:Int),y.to),y.src.map fun t=>netW nets ((i:Int),t),y.all⟩:=by
 unfold psgsN psgsI
 constructor
 ·intro h
  obtain⟨i,hi,h2⟩:=List.mem_flatMap.1 h
  obtain⟨y,hy,rfl⟩:=List.mem_map.1 h2
  exact⟨i,y,List.mem_range.1 hi,hy,rfl⟩
 ·rintro⟨i,y,hi,hy,rfl⟩
  exact List.mem_flatMap.2 ⟨i,List.mem_range.2 hi,List.mem_map.2 ⟨y,hy,rfl⟩⟩
theorem net_lt {c:Cir}(hr:CirR c) {i:Nat}{t:List UInt8}(hi:i<c.parts.length) (ht:t∈portsK (kindOf c.parts i)):netW (netsZ c) ((i:Int),t)<(netsZ c).length:=by
 obtain⟨l,hl,_⟩:=netW_some hr (port_of hi ht)
 exact (List.getElem?_eq_some_iff.1 hl).1
theorem psgs_lt {c:Cir}(hr:CirR c) {pos:List Int}(hp:∀i,i<c.parts.length->posN pos i<2):∀z∈psgsN c.parts (netsZ c) pos c.parts.length,z.to<(netsZ c).length∧∀n∈z.src,n<(netsZ c).length:=fun z hz=>by
 obtain⟨i,y,hi,hy,rfl⟩:=mem_psgs.1 hz
 have hk:=(pass_to hy).2.2.2.2.2
 refine⟨net_lt hr hi (pass_port _ hk _ (hp i hi) y hy),fun n hn=>?_⟩
 obtain⟨t,ht,rfl⟩:=List.mem_map.1 hn
 exact net_lt hr hi (passK_src hk (hp i hi) hy ht)
theorem supN_succ (ps:List Prt) (nets:List (List PortZ)) (n:Nat):supN ps nets (n+1)=supStep ps nets (supN ps nets n) n:=by
 unfold supN
 rw[List.range_succ,List.foldl_append]
 rfl
theorem supN_len (ps:List Prt) (nets:List (List PortZ)):∀n,(supN ps nets n).length=nets.length
 | 0=>by simp[supN]
 | n+1=>by
  rw[supN_succ]
  unfold supStep
  split
  ·rw[List.length_set];exact supN_len ps nets n
  ·exact supN_len ps nets n
theorem supN_at {c:Cir}(hr:CirR c):∀n,n<=c.parts.length->(∀k,(supN c.parts (netsZ c) n).getD k 0=0∨(supN c.parts (netsZ c) n).getD k 0=2)∧(∀k,(supN c.parts (netsZ c) n).getD k 0=2↔∃i,i<n∧kindOf c.parts i=0∧k=netW (netsZ c) ((i:Int),[49]))
 | 0,_=>by
  have e:∀k,(supN c.parts (netsZ c) 0).getD k 0=0:=fun k=>by
   unfold supN
   rw[List.range_zero,List.foldl_nil,List.getD_eq_getElem?_getD,List.getElem?_replicate]
   split<;>rfl
  exact⟨fun k=>.inl (e k),fun k=>⟨fun h=>(by rw[e k]at h;cases h),fun ⟨i,hi,_⟩=>(by omega)⟩⟩
 | n+1,hn=>by
  obtain⟨h1,h2⟩:=supN_at hr n (by omega)
  rw[supN_succ]
  unfold supStep
  by_cases hk:kindOf c.parts n=0
  ·rw[if_pos hk]
   have hlt:=net_lt hr (i:=n) (t:=[49]) (by omega) (by rw[hk];simp[portsK])
   rw[<- supN_len c.parts (netsZ c) n]at hlt
   refine⟨fun k=>?_,fun k=>?_⟩
   ·rw[getD_set]
    split
    ·exact .inr rfl
    ·exact h1 k
   ·rw[getD_set]
    by_cases e:netW (netsZ c) ((n:Int),[49])=k
    ·rw[if_pos ⟨e,hlt⟩]
     exact⟨fun _=>⟨n,by omega,hk,e.symm⟩,fun _=>rfl⟩
    ·rw[if_neg (fun h=>e h.1),h2 k]
     constructor
     ·rintro⟨i,hi,h3⟩
      exact⟨i,by omega,h3⟩
     ·rintro⟨i,hi,h3,h4⟩
      by_cases e2:i=n
      ·subst e2
       exact absurd h4.symm e
      ·exact⟨i,by omega,h3,h4⟩
  ·rw[if_neg hk]
   refine⟨h1,fun k=>?_⟩
   rw[h2 k]
   constructor
   ·rintro⟨i,hi,h3⟩
    exact⟨i,by omega,h3⟩
   ·rintro⟨i,hi,h3,h4⟩
    by_cases e2:i=n
    ·subst e2
     exact absurd h3 hk
    ·exact⟨i,by omega,h3,h4⟩
theorem pressed_prs {c:Cir}(hr:CirR c) {pos:List Int}(hp:∀i,i<c.parts.length->posN pos i<2):∀k,(pressedZ c.parts (netsZ c) pos).getD k 0=2↔Prs c.parts (netsZ c) pos k:=by
 have hlt:=psgs_lt hr hp
 obtain⟨s1,s2⟩:=supN_at hr c.parts.length (Nat.le_refl _)
 have sl:=supN_len c.parts (netsZ c) c.parts.length
 have hsnd:∀k,(pressedZ c.parts (netsZ c) pos).getD k 0=2->Prs c.parts (netsZ c) pos k:=by
  unfold pressedZ
  refine close_inv (fun st=>∀k,st.getD k 0=2->Prs c.parts (netsZ c) pos k) (fun st z hz h h0 ht k hk=>?_) _ _ fun k hk=>?_
  ·rw[getD_set]at hk
   split at hk
   ·rename_i e
    rw[<- e.1]
    obtain⟨i,y,hi,hy,rfl⟩:=mem_psgs.1 hz
    unfold flowsZ at ht
    simp only at ht ⊢
    by_cases ha:y.all=true
    ·rw[if_pos ha,List.all_map,List.all_eq_true]at ht
     exact .all i y hi hy ha fun t ht2=>h _ (by simpa using ht t ht2)
    ·rw[if_neg ha,List.any_map,List.any_eq_true]at ht
     obtain⟨t,ht2,h3⟩:=ht
     exact .any i y t hi hy ht2 (by simpa using ha) (h _ (by simpa using h3))
   ·exact h k hk
  ·obtain⟨i,hi,h3,rfl⟩:=(s2 k).1 hk
   exact .sup i hi h3
 have hstay:∀k,(supN c.parts (netsZ c) c.parts.length).getD k 0=2->(pressedZ c.parts (netsZ c) pos).getD k 0=2:=fun k hk=>by
  unfold pressedZ
  refine close_inv (fun st=>st.getD k 0=2) (fun st z hz h h0 ht=>?_) _ _ hk
  rw[getD_set]
  split
  ·rfl
  ·exact h
 have htwo:∀k,(pressedZ c.parts (netsZ c) pos).getD k 0=0∨(pressedZ c.parts (netsZ c) pos).getD k 0=2:=by
  unfold pressedZ
  refine close_inv (fun st=>∀k,st.getD k 0=0∨st.getD k 0=2) (fun st z hz h h0 ht k=>?_) _ _ s1
  rw[getD_set]
  split
  ·exact .inr rfl
  ·exact h k
 have hend:∀z∈psgsN c.parts (netsZ c) pos c.parts.length,¬((pressedZ c.parts (netsZ c) pos).getD z.to 0=0∧flowsZ (pressedZ c.parts (netsZ c) pos) z=true):=by
  unfold pressedZ
  exact close_end (by decide) (fun z hz=>(hlt z hz).1) _ _ sl (by have:=zeros_le (supN c.parts (netsZ c) c.parts.length);omega)
 refine fun k=>⟨hsnd k,fun h=>?_⟩
 induction h with
 | sup i hi hk=>exact hstay _ ((s2 _).2 ⟨i,hi,hk,rfl⟩)
 | all i y hi hy ha hs ih=>
  rcases htwo (netW (netsZ c) ((i:Int),y.to)) with e | e
  ·exact absurd ⟨e,by
    unfold flowsZ
    simp only
    rw[if_pos ha,List.all_map,List.all_eq_true]
    exact fun t ht=>by simpa using ih t ht⟩ (hend _ (mem_psgs.2 ⟨i,y,hi,hy,rfl⟩))
  ·exact e
 | any i y t hi hy ht ha hs ih=>
  rcases htwo (netW (netsZ c) ((i:Int),y.to)) with e | e
  ·exact absurd ⟨e,by
    unfold flowsZ
    simp only
    rw[if_neg (by simp[ha]),List.any_map,List.any_eq_true]
    exact⟨t,ht,by simpa using ih⟩⟩ (hend _ (mem_psgs.2 ⟨i,y,hi,hy,rfl⟩))
  ·exact e
theorem op_keep (nets:List (List PortZ)) (i k:Nat):∀(l:List (List UInt8)) (st:List Int),(l.foldl (opStep nets i) st).getD k 0=2↔st.getD k 0=2
 | [],_=>Iff.rfl
 | t::l,st=>by
  rw[List.foldl_cons,op_keep nets i k l]
  unfold opStep
  split
  ·rename_i h0
   rw[getD_set]
   split
   ·rename_i e
    rw[<- e.1,h0]
    decide
   ·rfl
  ·rfl
theorem opN_keep (ps:List Prt) (nets:List (List PortZ)) (pos st:List Int) (k:Nat):∀n,(opN ps nets pos st n).getD k 0=2↔st.getD k 0=2
 | 0=>Iff.rfl
 | n+1=>by
  unfold opN
  rw[List.range_succ,List.foldl_append,List.foldl_cons,List.foldl_nil,op_keep]
  exact opN_keep ps nets pos st k n
theorem states_prs {c:Cir}(hr:CirR c) {pos:List Int}(hp:∀i,i<c.parts.length->posN pos i<2) (k:Nat):(statesZ c.parts (netsZ c) pos).getD k 0=2↔Prs c.parts (netsZ c) pos k:=by
 refine Iff.trans ?_ ((opN_keep c.parts (netsZ c) pos (pressedZ c.parts (netsZ c) pos) k c.parts.length).trans (pressed_prs hr hp k))
 unfold statesZ
 refine close_inv (fun st=>st.getD k 0=2↔(opN c.parts (netsZ c) pos (pressedZ c.parts (netsZ c) pos) c.parts.length).getD k 0=2) (fun st z hz h h0 ht=>?_) _ _ Iff.rfl
 rw[<- h,getD_set]
 split
 ·rename_i e
  rw[<- e.1,h0]
  decide
 ·rfl
theorem op_len (nets:List (List PortZ)) (i:Nat):∀(l:List (List UInt8)) (st:List Int),(l.foldl (opStep nets i) st).length=st.length
 | [],_=>rfl
 | t::l,st=>by
  rw[List.foldl_cons,op_len nets i l]
  unfold opStep
  split
  ·rw[List.length_set]
  ·rfl
theorem opN_len (ps:List Prt) (nets:List (List PortZ)) (pos st:List Int):∀n,(opN ps nets pos st n).length=st.length
 | 0=>rfl
 | n+1=>by
  unfold opN
  rw[List.range_succ,List.foldl_append,List.foldl_cons,List.foldl_nil,op_len]
  exact opN_len ps nets pos st n
theorem pressed_len (ps:List Prt) (nets:List (List PortZ)) (pos:List Int):(pressedZ ps nets pos).length=nets.length:=by
 unfold pressedZ
 rw[close_len,supN_len]
theorem states_len (ps:List Prt) (nets:List (List PortZ)) (pos:List Int):(statesZ ps nets pos).length=nets.length:=by
 unfold statesZ
 rw[close_len,opN_len,pressed_len]
abbrev encPg (y:Psg):List L:=[.int .i64 (y.part:Int),.int .i64 (y.to:Int),.sl (y.src.map encN),.bool y.all]
abbrev rPg (y:Psg):List A:=(encPg y).map A.dat
theorem rowsD_Pg (xs:List Psg):rowsD (xs.map rPg)=xs.map encPg:=by unfold rowsD;rw[List.map_map];rfl
theorem allD_Pg (xs:List Psg):allD (xs.map rPg)=true:=by simp[allD,isD]
attribute [simp] rowsD_Pg allD_Pg
theorem psgsN_succ (ps:List Prt) (nets:List (List PortZ)) (pos:List Int) (n:Nat):psgsN ps nets pos (n+1)=psgsN ps nets pos n++psgsI ps nets pos n:=by
 unfold psgsN
 rw[List.range_succ,List.flatMap_append]
 simp
theorem psgsN_len (ps:List Prt) (nets:List (List PortZ)) (pos:List Int):∀n,(psgsN ps nets pos n).length<=n
 | 0=>by simp[psgsN]
 | n+1=>by
  have h:=psgsN_len ps nets pos n
  have h2:=passK_len (kindOf ps n) (posN pos n)
  rw[psgsN_succ,List.length_append]
  unfold psgsI
  rw[List.length_map]
  omega
def PosOK (ps:List Prt) (pos:List Int):Prop:=pos.length=ps.length∧∀i,i<ps.length->0<=pos.getD i 0∧pos.getD i 0<manyK (kindOf ps i)
theorem presE_pos {c:Cir}{pos:List Int}(h:presE c pos=0):cirE c=0∧PosOK c.parts pos:=by
 unfold presE at h
 split at h
 ·rename_i h0;exact absurd h h0
 ·rename_i h0
  split at h
  ·cases h
  ·rename_i h1
   split at h
   ·rename_i h2
    refine⟨Classical.not_not.1 h0,Classical.not_not.1 h1,fun i hi=>?_⟩
    have:=List.all_eq_true.1 h2 i (List.mem_range.2 hi)
    unfold posOkB at this
    simpa using this
   ·cases h
theorem PosOK.at {ps:List Prt}{pos:List Int}(h:PosOK ps pos) {i:Nat}(hi:i<ps.length):pos[i]?=some (posN pos i:Int)∧posN pos i<manyK (kindOf ps i)∧posN pos i<2:=by
 obtain⟨h1,h2⟩:=h
 have h3:=h2 i hi
 have h4:pos[i]?=some pos[i]:=List.getElem?_eq_getElem (by omega)
 have h5:pos.getD i 0=pos[i]:=by rw[List.getD_eq_getElem?_getD,h4];rfl
 unfold posN
 rw[h5]at h3 ⊢
 refine⟨by rw[h4];congr 1;omega,by omega,?_⟩
 rcases many_two (kindOf ps i) with e | e<;>omega
abbrev pgE (g:Value) (l:List Psg):Nat×Ent:=(71,.seq g 195 4 (l.map rPg))
theorem passages_s {s:PuS}(h:s.OK) {pos:List Int}(hp:PosOK s.ps pos) :
  CallS Tryz.prog 122 [.ptr 170 s.b 0,aIs pos] s.hp fun r H'=>r=.dat (.sl ((psgsN s.ps s.ns pos s.ps.length).map encPg))∧H'=s.hp:=by
 have hfew:=h.few
 have hpl:=hp.1
 refine CallS.frzTop (τ:=71) (e:=195) (sz:=4) (rows:=(psgsN s.ps s.ns pos s.ps.length).map rPg) (allD_Pg _) (rowsD_Pg _) (callS_of Tryz.func122 rfl Tryz.ntmps122 (rs:=[.tmp 4]) rfl (by kernel_rfl) (by simp) (by kernel_rfl) ?_)
 simp
 refine V.forI (σ:=Value) s.ps.length [0,1,4,19,20] (by simp;exact rfl) (fun i g=>[(5,.own 71 g),(21,aI i)]) (fun i g=>pgE g (psgsN s.ps s.ns pos i)::s.hp) (fun _ _=>True) (.slice none 0 0) trivial (by simp) ⟨by simp;exact rfl,by simp[psgsN]⟩ ?_ ?_
 ·rintro i g hi -
  obtain⟨p,hpp⟩:∃p,s.ps[i]=p:=⟨_,rfl⟩
  have hpo:s.ps[i]?=some p:=by rw[List.getElem?_eq_getElem hi,hpp]
  obtain⟨q1,q2,q3⟩:=hp.at hi
  obtain⟨hil,q4⟩:=List.getElem?_eq_some_iff.1 q1
  have hk:=kindOf_at hpo
  have hkn:=h.kinds p (List.mem_of_getElem? hpo)
  have hpk:=Passes_k p.kind.toNat (by omega) (posN pos i) (by rw[<- hk];exact q2)
  rw[show ((p.kind.toNat:Nat):Int)=p.kind from by omega]at hpk
  have hsrc:∀y∈passK p.kind.toNat (posN pos i),y.src.length<=2∧((i:Int),y.to)∈allP s.ps∧∀t∈y.src,((i:Int),t)∈allP s.ps:=fun y hy=>by
   rw[<- hk]at hy
   have hk14:=(pass_to hy).2.2.2.2.2
   exact⟨passK_srcl _ _ y hy,port_of hi (pass_port _ hk14 _ q3 y hy),fun t ht=>port_of hi (passK_src hk14 q3 hy ht)⟩
  have hpi:psgsI s.ps s.ns pos i=(passK p.kind.toNat (posN pos i)).map fun y=>⟨i,netW s.ns ((i:Int),y.to),y.src.map fun t=>netW s.ns ((i:Int),t),y.all⟩:=by
   unfold psgsI
   rw[hk]
  have hpl1:=passK_len p.kind.toNat (posN pos i)
  have hnl:=psgsN_len s.ps s.ns pos i
  rw[psgsN_succ,hpi]
  generalize psgsN s.ps s.ns pos i=W at *
  generalize passK p.kind.toNat (posN pos i)=Y at *
  have hFl:(Y.map fun y=>(⟨i,netW s.ns ((i:Int),y.to),y.src.map fun t=>netW s.ns ((i:Int),t),y.all⟩:Psg)).length=Y.length:=List.length_map _
  have hFj:∀(j:Nat) (y:PassP),Y[j]?=some y->(Y.map fun y=>(⟨i,netW s.ns ((i:Int),y.to),y.src.map fun t=>netW s.ns ((i:Int),t),y.all⟩:Psg))[j]?=some (⟨i,netW s.ns ((i:Int),y.to),y.src.map fun t=>netW s.ns ((i:Int),t),y.all⟩:Psg):=fun j y h=>by rw[List.getElem?_map,h];rfl
  generalize (Y.map fun y=>(⟨i,netW s.ns ((i:Int),y.to),y.src.map fun t=>netW s.ns ((i:Int),t),y.all⟩:Psg))=F at *
  simp[hi,hpp,hpo]
  intro b7
  refine V.drawX (fun t=>if t=33 then some (.fn (.tuple [.dat (.sl (Y.map encPs')),aI 0])) else none) (by kernel_rfl) (by kernel_rfl) (by simp) ?_
  simp[hil,q1,q4]
  refine⟨hpk,?_⟩
  simp
  refine V.forV (σ:=Value) Y.length [0,1,4,6,7,19,20,21,36,37] (by simp;exact rfl) (fun j g=>[(5,.own 71 g),(38,aI j)]) (fun j g=>pgE g (W++F.take j)::(7,.box b7 ((encPa p).map A.dat))::s.hp) (fun _ _=>True) g trivial (by simp) ⟨by simp;exact rfl,by simp⟩ ?_ ?_
  ·rintro j g hj -
   obtain⟨y,hy⟩:∃y,Y[j]=y:=⟨_,rfl⟩
   have hyo:Y[j]?=some y:=by rw[List.getElem?_eq_getElem hj,hy]
   obtain⟨y1,y2,y3⟩:=hsrc y (List.mem_of_getElem? hyo)
   have hnet:=puNet_s h y2
   have hnt:=fun t ht=>puNet_s h (y3 t ht)
   rw[List.take_add_one,hFj j y hyo]
   have hUl:(W++F.take j).length<=100:=by rw[List.length_append,List.length_take];omega
   rw[<- List.append_assoc]
   generalize W++F.take j=U at *
   obtain⟨N,hN⟩:∃N,netW s.ns ((i:Int),y.to)=N:=⟨_,rfl⟩
   rw[hN]at hnet ⊢
   refine V.seqV (V.of_vc ?_)
   simp[hj]
   refine V.seqV (V.condV ?_)
   simp
   refine V.of_vc ?_
   simp
   refine V.seqV (V.blockV (V.of_vcN 3 ?_))
   simp[hj,hy,hyo]
   intro b11
   refine V.drawX (fun t=>if t=47 then some (.ro (aI N)) else none) (by kernel_rfl) (by kernel_rfl) (by simp) ?_
   simp
   refine⟨hnet,?_⟩
   simp
   intro b12
   refine⟨by kernel_rfl,?_⟩
   refine V.inv (H':=(90,.seq (.slice none 0 0) 3 1 [])::(12,.box b12 [aI i,aI N,.own 90 (.slice none 0 0),aB y.all])::(11,.box b11 [aT y.to,aTs y.src,aB y.all])::pgE g U::(7,.box b7 ((encPa p).map A.dat))::s.hp) (fun x H0 hi=>?_) ?_
   ·have h1:=Inv.swap (g:=12) (e:=.box b12 [aI i,aI N,.nils,aB y.all]) (e':=.box b12 [aI i,aI N,.own 90 (.slice none 0 0),aB y.all]) rfl (box_sat (Ds_c D_i (Ds_c D_i (Ds_c D_nilo (Ds_c D_i Ds_i))))) (fun b hb=>hb) hi
    exact Inv.nil h1 ⟨rfl,rfl⟩
   have hZl:(y.src.map fun t=>netW s.ns ((i:Int),t)).length=y.src.length:=List.length_map _
   have hZj:∀(n:Nat) (t:List UInt8),y.src[n]?=some t->(y.src.map fun t=>netW s.ns ((i:Int),t))[n]?=some (netW s.ns ((i:Int),t)):=fun n t h=>by rw[List.getElem?_map,h];rfl
   generalize (y.src.map fun t=>netW s.ns ((i:Int),t))=Z at *
   refine V.forI (σ:=Value) y.src.length [0,1,4,5,6,7,11,12,19,20,21,36,37,38,52,53] (by simp;exact rfl) (fun n _=>[(54,aI n)]) (fun n v=>(90,.seq v 3 1 ((Z.take n).map rN))::(12,.box b12 [aI i,aI N,.own 90 v,aB y.all])::(11,.box b11 [aT y.to,aTs y.src,aB y.all])::pgE g U::(7,.box b7 ((encPa p).map A.dat))::s.hp) (fun _ _=>True) (.slice none 0 0) trivial (by simp) ⟨by simp;exact rfl,by simp⟩ ?_ ?_
   ·rintro n v hn -
    obtain⟨t,ht⟩:∃t,y.src[n]=t:=⟨_,rfl⟩
    have hto:y.src[n]?=some t:=by rw[List.getElem?_eq_getElem hn,ht]
    have hnt:=hnt t (List.mem_of_getElem? hto)
    have hzn:=hZj n t hto
    obtain⟨M,hM⟩:∃M,netW s.ns ((i:Int),t)=M:=⟨_,rfl⟩
    rw[hM]at hnt hzn
    rw[List.take_add_one,hzn]
    have hZ:(Z.take n).length<=2:=by rw[List.length_take];omega
    generalize Z.take n=Y2 at *
    simp[hn,ht,hto]
    refine V.drawX (fun t=>if t=63 then some (.ro (aI M)) else none) (by kernel_rfl) (by kernel_rfl) (by simp) ?_
    simp
    refine⟨hnt,?_⟩
    simp
    exact⟨by omega,by kernel_rfl,by omega,by omega⟩
   ·rintro v -
    rw[List.take_of_length_le (by omega:Z.length<=y.src.length)]
    simp
    refine V.ofG ?_
    refine Gh.frzBox (g:=12) (τ:=90) (j:=2) (t:=90) rfl rfl (by simp[allD,isD]) rfl ?_
    refine Gh.here ?_
    refine V.of_vc ?_
    simp
    intro u
    refine⟨by omega,V.of_vc ?_⟩
    simp
    refine⟨⟨by omega,by omega⟩,Gh.here ?_⟩
    simp
  ·rintro g -
   simp
   exact⟨⟨by omega,by omega⟩,List.take_of_length_le (by rw[List.length_map];omega)⟩
 ·rintro g -
  simp
  exact subP.refl _
abbrev chkBox (b r:Nat) (c:Control):Nat×Ent:=(32,.box b [.dat (.int .i64 c.actuators),.dat (.sl (c.inputs.map encT)),.dat (.sl (c.signals.map encS)),.dat (.sl (c.plus.map encI)),.dat (.sl (c.minus.map encI)),.map 30 r,
 .fn 238 [.ptr 32 b 0] [],.fn 239 [.ptr 32 b 0] [],.fn 240 [.ptr 32 b 0] []])
abbrev chkMap (r:Nat) (names:List (List UInt8)):Nat×Ent:=(30,.map r .string (mapOf names))
theorem cname_s (b r:Nat) (c:Control) (s:List UInt8) (hs:Sh s) (names:List (List UInt8)) (hn:names.length<=1000000):CallS Tryz.prog 242 [.ptr 32 b 0,aT s] [chkBox b r c,chkMap r names]
  fun rr H'=>rr=aI (nameE s names)∧H'=[chkBox b r c,chkMap r (if nameE s names=0 then names++[s] else names)]:=by
 refine CallS.dropP (callS_of Tryz.func242 rfl Tryz.ntmps242 (rs:=[.tmp 4]) rfl (by kernel_rfl) (by simp) (by kernel_rfl) (K:=fun rr H'=>rr=aI (nameE s names)∧subP [chkBox b r c,chkMap r (if nameE s names=0 then names++[s] else names)] H') ?_) ?_
 ·cases s with
  | nil=>
   simp[reads]
   refine GCall.fn (aB false) (by simp) ?_
   simp[nameE,wordS,subP.refl]
  | cons b0 s'=>
   simp[reads]
   refine GCall.fn (aB (!(b0::s').all partB)) (fun h=>⟨h,?_⟩) ?_
   ·rw[<- all_bad]
    exact ContainsFuncS_fn (b0::s') hs badR (by intro r h;simp[badR];omega) _ [] [] (fun r h0 h1=>by simpa using badR_fn r h0 h1)
   ·simp[reads]
    have hlen:(b0::s').length=s'.length+1:=rfl
    refine⟨fun h=>?_,fun h1 h2 h3 h4=>?_⟩
    ·have e:nameE (b0::s') names=3:=by
      rw[nameE,if_pos]
      simp[wordS]
      intro g1 g2 g3
      rcases h with (h | h) | h | h
      ·omega
      ·omega
      ·rw[h]at g3;cases g3
      ·exact h
     simp[e,subP.refl]
    ·have hw:wordS (b0::s')=true:=by
      simp[wordS]
      exact⟨⟨by omega,by omega⟩,h3,h4⟩
     refine⟨fun h5=>?_,fun h5=>⟨fun h6=>?_,fun h6=>?_⟩⟩
     ·have e:nameE (b0::s') names=17:=by simp[nameE,hw];omega
      simp[e,subP.refl]
     ·rw[mget_of]at h6
      have hm:(b0::s')∈names:=by
       simp[List.findIdx?_isSome]at h6
       exact h6
      have e:nameE (b0::s') names=7:=by simp[nameE,hw,hm];omega
      simp[e,subP.refl]
     ·rw[mget_of]at h6
      have hm:(b0::s')∉names:=by
       simp at h6
       intro hm
       exact h6 _ hm rfl
      have e:nameE (b0::s') names=0:=by simp[nameE,hw,hm];omega
      refine V.draw (fun _=>none) (by kernel_rfl) (by kernel_rfl) (by simp) ?_
      simp[e]
      rw[mput_of hm]
      exact subP.refl _
 ·rintro rr H' ⟨h1,h2⟩
  exact⟨_,h2,h1,rfl⟩
mutual
def varsE:Expr->List Int
 | ⟨op,ix,args⟩=>(if op=1 then [ix] else [])++varsL args
def varsL:List Expr->List Int
 | []=>[]
 | x::xs=>varsE x++varsL xs
end
theorem varsE_eq (x:Expr):varsE x=(if x.op=1 then [x.index] else [])++varsL x.args:=by cases x;simp[varsE]
theorem varsL_mem {n:Int}{y:Expr}(hn:n∈varsE y):∀ {l:List Expr},y∈l->n∈varsL l
 | [],h=>by simp at h
 | z::l,h=>by
  simp only[varsL,List.mem_append]
  rcases List.mem_cons.1 h with rfl | h
  ·exact .inl hn
  ·exact .inr (varsL_mem hn h)
theorem visitV_s {σ:Type}{b3 b4:Nat}{f:FuncId}{first caps:List A}{Hc:σ->Heap}{step:σ->Int->σ}:∀(N:Nat) (x:Expr),SizeOf.sizeOf x<N->OkE x->∀(s:σ),
  (∀s,∀n∈varsE x,CallS Tryz.prog f (first++aI n::caps) (Hc s) fun _ H'=>H'=Hc (step s n)) ->
  CallS Tryz.prog 367 [aE x,.ptr 3 b3 0,.ptr 4 b4 0] ((4,.box b4 [.fn 367 [] [.ptr 3 b3 0,.ptr 4 b4 0]])::(3,.box b3 [.fn f first caps])::rt 1000 (Hc s))
   fun _ H'=>H'=(4,.box b4 [.fn 367 [] [.ptr 3 b3 0,.ptr 4 b4 0]])::(3,.box b3 [.fn f first caps])::rt 1000 (Hc ((varsE x).foldl step s))
 | 0,_,h,_,_,_=>absurd h (Nat.not_lt_zero _)
 | N+1,x,hN,hx,s,hf=>by
  refine CallS.dropP (callS_of Tryz.func367 rfl Tryz.ntmps367 (rs:=[]) rfl (by kernel_rfl) (by simp) (by kernel_rfl) (K:=fun _ H'=>subP ((4,.box b4 [.fn 367 [] [.ptr 3 b3 0,.ptr 4 b4 0]])::(3,.box b3 [.fn f first caps])::rt 1000 (Hc ((varsE x).foldl step s))) H') ?_) (fun _ _ h=>⟨_,h,rfl⟩)
  have hset:∃s1:σ,s1=(if x.op=1 then step s x.index else s)∧(varsL x.args).foldl step s1=(varsE x).foldl step s:=by
   refine⟨_,rfl,?_⟩
   rw[varsE_eq]
   by_cases h:x.op=1<;>simp[h]
  obtain⟨s1,hs1,he⟩:=hset
  by_cases hop:x.op=1
  all_goals simp[hop]
  ·rw[if_pos hop]at hs1
   refine ((hf s x.index (by rw[varsE_eq];simp[hop])).rt'.c1.c1).mono ?_
   rintro r H' ⟨_,⟨_,⟨H1,rfl,rfl⟩,rfl⟩,rfl⟩
   rw[<- hs1]
   simp
   refine V.for' [2,14,15] (fun p=>[(16,.dat (.int .i64 (p.1:Nat)))]) (fun p=>(4,.box b4 [.fn 367 [] [.ptr 3 b3 0,.ptr 4 b4 0]])::(3,.box b3 [.fn f first caps])::rt 1000 (Hc p.2))
    (fun p:Nat×σ=>p.1<=x.args.length∧(varsL (x.args.drop p.1)).foldl step p.2=(varsE x).foldl step s) (fun p=>x.args.length-p.1) (0,s1) ⟨by simp[he],by simp,subP.refl _⟩ ?_
   rintro⟨i,s2⟩ ⟨hi,hinv⟩
   simp only at hi hinv
   have hlen:=hx.len
   by_cases hlt:i<x.args.length
   ·obtain⟨y,hy1⟩:∃y,x.args[i]'hlt=y:=⟨_,rfl⟩
    have hmem:y∈x.args:=by rw[<- hy1];exact List.getElem_mem hlt
    rw[List.drop_eq_getElem_cons hlt,hy1,varsL,List.foldl_append]at hinv
    simp[hlt,hy1,encE_eq]
    intro b
    have ih:=visitV_s (b3:=b3) (b4:=b4) (Hc:=Hc) (step:=step) (f:=f) (first:=first) (caps:=caps) N y (by have:=Expr.lt_of_mem hmem;omega) (hx.args y hmem) s2 (fun s n hn=>hf s n (by rw[varsE_eq];exact List.mem_append.2 (.inr (varsL_mem hn hmem))))
    refine ih.c1.mono ?_
    rintro r H' ⟨H2,rfl,rfl⟩
    simp
    exact⟨by omega,i+1,_,⟨hlt,hinv⟩,by omega,by simp,(subP.refl _).c _⟩
   ·have hie:i=x.args.length:=by omega
    subst hie
    simp[varsL]at hinv
    simp[hinv]
    exact subP.refl _
  ·rw[if_neg hop]at hs1
   refine V.for' [2,14,15] (fun p=>[(16,.dat (.int .i64 (p.1:Nat)))]) (fun p=>(4,.box b4 [.fn 367 [] [.ptr 3 b3 0,.ptr 4 b4 0]])::(3,.box b3 [.fn f first caps])::rt 1000 (Hc p.2))
    (fun p:Nat×σ=>p.1<=x.args.length∧(varsL (x.args.drop p.1)).foldl step p.2=(varsE x).foldl step s) (fun p=>x.args.length-p.1) (0,s1) ⟨by simp[he],by simp,by rw[hs1];exact subP.refl _⟩ ?_
   rintro⟨i,s2⟩ ⟨hi,hinv⟩
   simp only at hi hinv
   have hlen:=hx.len
   by_cases hlt:i<x.args.length
   ·obtain⟨y,hy1⟩:∃y,x.args[i]'hlt=y:=⟨_,rfl⟩
    have hmem:y∈x.args:=by rw[<- hy1];exact List.getElem_mem hlt
    rw[List.drop_eq_getElem_cons hlt,hy1,varsL,List.foldl_append]at hinv
    simp[hlt,hy1,encE_eq]
    intro b
    have ih:=visitV_s (b3:=b3) (b4:=b4) (Hc:=Hc) (step:=step) (f:=f) (first:=first) (caps:=caps) N y (by have:=Expr.lt_of_mem hmem;omega) (hx.args y hmem) s2 (fun s n hn=>hf s n (by rw[varsE_eq];exact List.mem_append.2 (.inr (varsL_mem hn hmem))))
    refine ih.c1.mono ?_
    rintro r H' ⟨H2,rfl,rfl⟩
    simp
    exact⟨by omega,i+1,_,⟨hlt,hinv⟩,by omega,by simp,(subP.refl _).c _⟩
   ·have hie:i=x.args.length:=by omega
    subst hie
    simp[varsL]at hinv
    simp[hinv]
    exact subP.refl _
theorem each_s {σ:Type}{f:FuncId}{first caps:List A}{Hc:σ->Heap}{step:σ->Int->σ}(x:Expr) (hx:OkE x) (s:σ) (hf:∀s,∀n∈varsE x,CallS Tryz.prog f (first++aI n::caps) (Hc s) fun _ H'=>H'=Hc (step s n)) :
  CallS Tryz.prog 321 [aE x,.fn f first caps] (Hc s) fun _ H'=>H'=Hc ((varsE x).foldl step s):=by
 refine CallS.rt (k:=1000) (CallS.dropP (callS_of Tryz.func321 rfl Tryz.ntmps321 (rs:=[]) rfl (by kernel_rfl) (by simp) (by kernel_rfl) (K:=fun _ H'=>subP (rt 1000 (Hc ((varsE x).foldl step s))) H') ?_) ?_)
 ·simp
  intro b3 b4
  refine (visitV_s (SizeOf.sizeOf x+1) x (by omega) hx s hf).mono ?_
  rintro r H' rfl
  simp
  exact ((subP.refl _).c _).c _
 ·rintro r H' h
  exact⟨_,h,_,rfl,rfl⟩
def kindAt (c:Control) (k:Int):Int:=((c.signals[k.toNat]?).map (·.kind)).getD 0
def lateStep (c:Control) (i:Int) (late:Bool) (line:Int):Bool:=late||(decide (i<=line-firstC c)&&kindAt c (line-firstC c)==0)
def lateC (c:Control) (i:Int) (x:Expr):Bool:=(varsE x).foldl (lateStep c i) false
theorem gate1_s (b r b2 b5 b6:Nat) (c:Control) (h:Sm c) (s5:List A) (i:Int) (h0:0<=i∧i<c.signals.length) (late:Bool) (line:Int) (hl:0<=line∧line<countC c) :
  CallS Tryz.prog 322 [aI line,.ptr 2 b2 0,.ptr 6 b6 0,.rptr [.int .i64 i]] [(6,.box b6 [.dat (.bool late)]),(5,.box b5 s5),(2,.box b2 [.ptr 32 b 0]),chkBox b r c]
   fun _ H'=>H'=[(6,.box b6 [.dat (.bool (lateStep c i late line))]),(5,.box b5 s5),(2,.box b2 [.ptr 32 b 0]),chkBox b r c]:=by
 have hs:=h
 obtain⟨g1,g2,g3⟩:=h
 have hcn:countC c=firstC c+c.signals.length:=rfl
 have hfc:firstC c=2*c.actuators+c.inputs.length:=rfl
 refine CallS.dropP (callS_of Tryz.func322 rfl Tryz.ntmps322 (rs:=[]) rfl (by kernel_rfl) (by simp) (by kernel_rfl) (K:=fun _ H'=>subP [(6,.box b6 [.dat (.bool (lateStep c i late line))]),(5,.box b5 s5),(2,.box b2 [.ptr 32 b 0]),chkBox b r c] H') ?_) (fun _ _ h=>⟨_,h,rfl⟩)
 simp
 refine (first_fn c hs).s ?_
 simp
 refine⟨by omega,?_⟩
 obtain⟨y,hy⟩:∃y,c.signals[(line-firstC c).toNat]?=some y:=⟨_,List.getElem?_eq_getElem (by omega)⟩
 by_cases hk:i<=line-firstC c
 ·simp[hk,hy]
  refine⟨fun h=>⟨h,by omega,by omega⟩,?_⟩
  have e:lateStep c i late line=(late||y.kind==0):=by simp[lateStep,hk,kindAt,hy]
  rw[e]
  exact subP.refl _
 ·simp[hk,hy]
  have e:lateStep c i late line=late:=by simp[lateStep,hk]
  rw[e]
  exact subP.refl _
abbrev sigA (s:Signal):List A:=[.dat (.str s.name),.dat (.int .i64 s.kind),.dat (.int .i64 s.on.op),.dat (.int .i64 s.on.index),.dat (.sl (s.on.args.map encE)),.dat (.int .i64 s.off.op),.dat (.int .i64 s.off.index),.dat (.sl (s.off.args.map encE)),.dat (.int .i64 s.delay),.dat (.bool s.init)]
def gateE (c:Control) (i:Int) (s:Signal):Int:=if lateC c i s.on then 9 else if !zeroE s.off||s.init||s.delay != 0 then 3 else 0
def memE (c:Control) (s:Signal):Int:=if checkE s.off (countC c)≠0 then checkE s.off (countC c) else if s.delay≠0 then 3 else 0
def timE (s:Signal):Int:=if s.delay<1∨s.delay>1000000 then 2 else if !zeroE s.off||s.init then 3 else 0
theorem gate_s (b r:Nat) (c:Control) (h:Sm c) (i:Nat) (s:Signal) (hi:c.signals[i]?=some s) (hx:OkS s) (hv:∀n∈varsE s.on,0<=n∧n<countC c):CallS Tryz.prog 238 [.ptr 32 b 0,aI i] [chkBox b r c] fun rr H'=>rr=aI (gateE c i s)∧H'=[chkBox b r c]:=by
 have hs:=h
 obtain⟨g1,g2,g3⟩:=h
 obtain⟨hlt,hy1⟩:=List.getElem?_eq_some_iff.1 hi
 refine CallS.dropP (callS_of Tryz.func238 rfl Tryz.ntmps238 (rs:=[.tmp 4]) rfl (by kernel_rfl) (by simp) (by kernel_rfl) (K:=fun rr H'=>rr=aI (gateE c i s)∧subP [chkBox b r c] H') ?_) (fun _ _ h=>⟨_,h.2,h.1,rfl⟩)
 simp
 intro b2
 refine V.draw (fun _=>none) (by kernel_rfl) (by kernel_rfl) (by simp) ?_
 simp[hy1,hlt]
 intro b5 b6
 refine (each_s (σ:=Bool) (f:=322) (first:=[]) (caps:=[.ptr 2 b2 0,.ptr 6 b6 0,.rptr [.int .i64 i]]) (Hc:=fun late=>[(6,.box b6 [.dat (.bool late)]),(5,.box b5 (sigA s)),(2,.box b2 [.ptr 32 b 0]),chkBox b r c]) (step:=lateStep c i) s.on hx.on false (fun late n hn=>by simpa using gate1_s b r b2 b5 b6 c hs (sigA s) i ⟨by omega,by omega⟩ late n (hv n hn))).mono ?_
 rintro rr H' rfl
 simp
 have e:lateC c i s.on=(varsE s.on).foldl (lateStep c i) false:=rfl
 rw[<- e]
 cases hlate:lateC c i s.on
 ·simp
  refine (zero_fn s.off).s ?_
  simp[gateE,hlate]
  have hsub:subP [chkBox b r c] [(6,.box b6 [.dat (.bool false)]),(5,.box b5 (sigA s)),(2,.box b2 [.ptr 32 b 0]),chkBox b r c]:=(((subP.refl _).c _).c _).c _
  refine⟨fun h=>⟨fun h1 h2 h3=>?_,hsub⟩,fun h1 h2 h3=>⟨⟨⟨h1,h2⟩,h3⟩,hsub⟩⟩
  rcases h with (h | h) | h<;>simp_all
 ·simp[gateE,hlate]
  exact (((subP.refl _).c _).c _).c _
theorem memory_s (b r:Nat) (c:Control) (h:Sm c) (i:Nat) (s:Signal) (hi:c.signals[i]?=some s) (hx:OkS s):CallS Tryz.prog 239 [.ptr 32 b 0,aI i] [chkBox b r c] fun rr H'=>rr=aI (memE c s)∧H'=[chkBox b r c]:=by
 obtain⟨hlt,hy1⟩:=List.getElem?_eq_some_iff.1 hi
 refine CallS.dropP (callS_of Tryz.func239 rfl Tryz.ntmps239 (rs:=[.tmp 4]) rfl (by kernel_rfl) (by simp) (by kernel_rfl) (K:=fun rr H'=>rr=aI (memE c s)∧subP [chkBox b r c] H') ?_) (fun _ _ h=>⟨_,h.2,h.1,rfl⟩)
 simp
 refine V.draw (fun t=>if t=19 then some (.fn (aI (countC c))) else if t=20 then some (.fn (aI (checkE s.off (countC c)))) else none) (by kernel_rfl) (by kernel_rfl) (by simp) ?_
 have e1:=count_c c h
 have e2:=check_fn s.off hx.off (countC c)
 simp[hy1,hlt]at e1 e2 ⊢
 refine⟨e1,e2,fun hc=>?_,fun hc=>⟨fun hd=>?_,fun hd=>?_⟩⟩
 ·simp[memE,hc,subP.refl]
 ·simp[memE,hc,hd,subP.refl]
 ·simp[memE,hc,hd,subP.refl]
theorem timer_s (b r:Nat) (c:Control) (i:Nat) (s:Signal) (hi:c.signals[i]?=some s) (hx:OkS s):CallS Tryz.prog 240 [.ptr 32 b 0,aI i] [chkBox b r c] fun rr H'=>rr=aI (timE s)∧H'=[chkBox b r c]:=by
 obtain⟨hlt,hy1⟩:=List.getElem?_eq_some_iff.1 hi
 refine CallS.dropP (callS_of Tryz.func240 rfl Tryz.ntmps240 (rs:=[.tmp 4]) rfl (by kernel_rfl) (by simp) (by kernel_rfl) (K:=fun rr H'=>rr=aI (timE s)∧subP [chkBox b r c] H') ?_) (fun _ _ h=>⟨_,h.2,h.1,rfl⟩)
 simp[hy1,hlt]
 intro b5
 have hsub:∀l,subP [chkBox b r c] [(5,.box b5 l),chkBox b r c]:=fun l=>(subP.refl _).c _
 refine⟨fun hd=>?_,fun h1 h2=>?_⟩
 ·simp[timE,hsub]
  omega
 ·refine (zero_fn s.off).s ?_
  cases hz:zeroE s.off<;>cases hi2:s.init<;>simp[timE,hz,hi2,hsub]<;>omega
def signalE (c:Control) (i:Int) (s:Signal) (names:List (List UInt8)):Int:=
 if nameE s.name names≠0 then nameE s.name names
 else if s.kind<0∨s.kind>=3 then 1
 else if checkE s.on (countC c)≠0 then checkE s.on (countC c)
 else if s.kind=0 then gateE c i s else if s.kind=1 then memE c s else timE s
theorem signal_s (b r:Nat) (c:Control) (h:Sm c) (i:Nat) (s:Signal) (hi:c.signals[i]?=some s) (hx:OkS s) (names:List (List UInt8)) (hn:names.length<=1000000) (hv:checkE s.on (countC c)=0->∀n∈varsE s.on,0<=n∧n<countC c) :
  CallS Tryz.prog 243 [.ptr 32 b 0,aI i] [chkBox b r c,chkMap r names] fun rr H'=>rr=aI (signalE c i s names)∧H'=[chkBox b r c,chkMap r (if nameE s.name names=0 then names++[s.name] else names)]:=by
 obtain⟨hlt,hy1⟩:=List.getElem?_eq_some_iff.1 hi
 refine CallS.dropP (callS_of Tryz.func243 rfl Tryz.ntmps243 (rs:=[.tmp 4]) rfl (by kernel_rfl) (by simp) (by kernel_rfl) (K:=fun rr H'=>rr=aI (signalE c i s names)∧subP [chkBox b r c,chkMap r (if nameE s.name names=0 then names++[s.name] else names)] H') ?_) (fun _ _ h=>⟨_,h.2,h.1,rfl⟩)
 simp[hy1,hlt]
 intro b5
 refine (cname_s b r c s.name hx.name names hn).c1.mono ?_
 rintro rr H' ⟨_,⟨rfl,rfl⟩,rfl⟩
 by_cases hne:nameE s.name names=0
 ·have hsub:∀l,subP [chkBox b r c,chkMap r (names++[s.name])] [(5,.box b5 l),chkBox b r c,chkMap r (names++[s.name])]:=fun l=>(subP.refl _).c _
  simp[hne]
  refine⟨fun hk=>?_,fun hk0 hk3=>?_⟩
  ·simp[signalE,hne,hsub]
   omega
  ·refine V.draw (fun t=>if t=37 then some (.fn (aI (countC c))) else if t=38 then some (.fn (aI (checkE s.on (countC c)))) else none) (by kernel_rfl) (by kernel_rfl) (by simp) ?_
   have e1:=count_c c h
   have e2:=check_fn s.on hx.on (countC c)
   simp at e1 e2 ⊢
   refine⟨e1,e2,fun hc=>?_,fun hc=>?_⟩
   ·simp[signalE,hne,hc,hsub,Int.not_lt.2 hk0]
    omega
   ·obtain hk | hk | hk:s.kind=0∨s.kind=1∨s.kind=2:=by omega
    ·have e:signalE c i s names=gateE c i s:=by simp[signalE,hne,hc,hk]
     refine V.draw (fun t=>if t=50 then some (.ro (aI (signalE c i s names))) else none) (by kernel_rfl) (by kernel_rfl) (by simp) ?_
     simp[hk,hsub]
     rw[e]
     exact⟨gate_s b r c h i s hi hx (hv hc),by rw[if_pos hne];exact hsub _⟩
    ·have e:signalE c i s names=memE c s:=by simp[signalE,hne,hc,hk]
     refine V.draw (fun t=>if t=50 then some (.ro (aI (signalE c i s names))) else none) (by kernel_rfl) (by kernel_rfl) (by simp) ?_
     simp[hk,hsub]
     rw[e]
     exact⟨memory_s b r c h i s hi hx,by rw[if_pos hne];exact hsub _⟩
    ·have e:signalE c i s names=timE s:=by simp[signalE,hne,hc,hk]
     refine V.draw (fun t=>if t=50 then some (.ro (aI (signalE c i s names))) else none) (by kernel_rfl) (by kernel_rfl) (by simp) ?_
     simp[hk,hsub]
     rw[e]
     exact⟨timer_s b r c i s hi hx,by rw[if_pos hne];exact hsub _⟩
 ·have hsub:∀l,subP [chkBox b r c,chkMap r names] [(5,.box b5 l),chkBox b r c,chkMap r names]:=fun l=>(subP.refl _).c _
  simp[hne,signalE,hsub]
theorem grow_o (n:Int) (h0:0<=n) (h1:n<=4294967296):CallOwn Tryz.prog 327 [.nils,aI n] 3 1 []:=by
 refine callO_of Tryz.func327 rfl Tryz.ntmps327 (rs:=[.tmp 4]) rfl (by kernel_rfl) (by simp) (by kernel_rfl) ?_
 by_cases hn:0<n
 ·simp[hn,Int.not_lt.2 h0]
  omega
 ·have e:n=0:=by omega
  subst e
  simp
def sumL (xss:List (List Int)):Nat:=(xss.map List.length).sum
theorem concat_o (xss:List (List Int)) (h:sumL xss<=4294967296) (h1:xss.length<=4294967296):CallOwn Tryz.prog 244 [.dat (.sl (xss.map fun xs=>[.sl (xs.map encI)]))] 3 1 (xss.flatten.map rI):=by
 refine callO_of Tryz.func244 rfl Tryz.ntmps244 (rs:=[.tmp 2]) rfl (by kernel_rfl) (by simp) (by kernel_rfl) ?_
 have hle:∀i,(xss.take i).flatten.length<=sumL xss:=by
  intro i
  have e:xss=xss.take i++xss.drop i:=(List.take_append_drop i xss).symm
  have:sumL xss=sumL (xss.take i)+sumL (xss.drop i):=by
   unfold sumL
   conv=>lhs;rw[e]
   rw[List.map_append,List.sum_append]
  rw[List.length_flatten]
  unfold sumL at this ⊢
  omega
 have hst:∀i y,xss[i]?=some y->(xss.take (i+1)).flatten=(xss.take i).flatten++y:=by
  intro i y hy
  rw[List.take_add_one,hy]
  simp
 obtain⟨L,hL⟩:∃L:Nat->Nat,∀i,L i=(xss.take i).flatten.length:=⟨_,fun _=>rfl⟩
 have hL0:L 0=0:=by simp[hL]
 have hLs:∀i y,xss[i]?=some y->L (i+1)=L i+y.length:=by
  intro i y hy
  rw[hL,hL,hst i y hy,List.length_append]
 have hLm:∀i,L i<=sumL xss:=fun i=>by rw[hL];exact hle i
 simp
 refine V.forI (σ:=Unit) xss.length [0,2,9,10] (by simp;exact rfl) (fun i _=>[(11,aI i),(3,aI (L i))]) (fun _ _=>[]) (fun _ _=>True) () (by simp) (by simp[hL0]) ⟨by simp;exact rfl,by simp⟩ ?_ ?_
 ·rintro i-hi -
  have hy:=List.getElem?_eq_getElem hi
  have hs:=hLs i _ hy
  have hl:=hLm (i+1)
  simp[hi,hs]
  omega
 ·rintro - -
  have hl:=hLm xss.length
  simp
  refine (grow_o _ (by omega) (by omega)).s 50 ?_
  intro hd
  simp
  refine V.forL (γ:=Value) xss [2,25,26] (by simp;exact rfl) (fun i _ g=>[(27,aI i),(6,.own 50 g)]) (fun i _ g=>[(50,.seq g 3 1 ((xss.take i).flatten.map rI))]) (fun (_:Unit) (_:List Int)=>(Except.ok ():Except Unit Unit)) (fun _ _=>True) () hd trivial (by simp) ⟨by simp;exact rfl,by simp⟩ ?_ ?_
  ·rintro i-g y hi hy - -
   have hy':xss[i]?=some y:=by rw[List.getElem?_eq_getElem hi,hy]
   have hs:=hst i _ hy'
   have hl2:=hle (i+1)
   rw[hs,List.length_append]at hl2
   rw[hs]
   generalize (xss.take i).flatten=zs at hl2
   simp[hi,hy]
   omega
  ·rintro-g - -
   simp
theorem rowsD_I (xs:List Int):rowsD (xs.map rI)=xs.map encI:=by unfold rowsD;rw[List.map_map];rfl
theorem rowsD_B (xs:List Bool):rowsD (xs.map rB)=xs.map encB:=by unfold rowsD;rw[List.map_map];rfl
theorem allD_I (xs:List Int):allD (xs.map rI)=true:=by simp[allD,isD]
theorem allD_B (xs:List Bool):allD (xs.map rB)=true:=by simp[allD,isD]
attribute [simp] rowsD_I rowsD_B allD_I allD_B
theorem concat_fn (xss:List (List Int)) (h:sumL xss<=4294967296) (h1:xss.length<=4294967296):CallFn Tryz.prog 244 [.dat (.sl (xss.map fun xs=>[.sl (xs.map encI)]))] (aIs xss.flatten):=by
 have:=(concat_o xss h h1).fn (by simp[allD,isD])
 rwa [rowsD_I]at this
def firstErr {ι:Type}(f:ι->Int):List ι->Int
 | []=>0
 | x::xs=>if f x≠0 then f x else firstErr f xs
def NoE (f:Nat->Int) (n:Nat):Prop:=∀j,j<n->f j=0
theorem NoE.zero (f:Nat->Int):NoE f 0:=fun j h=>absurd h (Nat.not_lt_zero j)
theorem NoE.succ {f:Nat->Int}{n:Nat}(h:NoE f n) (e:f n=0):NoE f (n+1):=fun j hj=>by
 rcases Nat.lt_or_ge j n with h1 | h1
 ·exact h j h1
 ·obtain rfl:j=n:=by omega
  exact e
theorem firstErr_app {ι:Type}(f:ι->Int):∀(l r:List ι),(∀x∈l,f x=0)->firstErr f (l++r)=firstErr f r
 | [],_,_=>rfl
 | x::l,r,h=>by
  simp only[List.cons_append,firstErr,h x (by simp),ne_eq,not_true_eq_false,if_false]
  exact firstErr_app f l r fun y hy=>h y (by simp[hy])
theorem firstErr_at {f:Nat->Int}{n i:Nat}(h:NoE f i) (hi:i<n) (e:f i≠0):firstErr f (List.range n)=f i:=by
 have e1:List.range n=List.range i++(i::(List.range n).drop (i+1)):=by
  have h1:=List.take_append_drop i (List.range n)
  rw[List.take_range,Nat.min_eq_left (by omega)]at h1
  rw[<- h1]
  congr 1
  rw[h1,List.drop_eq_getElem_cons (by simpa using hi)]
  simp
 rw[e1,firstErr_app f _ _ (fun x hx=>h x (by simpa using hx))]
 simp[firstErr,e]
theorem firstErr_all {f:Nat->Int}{n:Nat}(h:NoE f n):firstErr f (List.range n)=0:=by
 have:=firstErr_app f (List.range n) [] (fun x hx=>h x (by simpa using hx))
 simpa [firstErr]using this
theorem firstErr_zero {f:Nat->Int}:∀ {n:Nat},firstErr f (List.range n)=0->NoE f n:=by
 intro n h j hj
 by_cases hz:f j=0
 ·exact hz
 ·-- the least index with an error
  have hex:∃k,k<=j∧f k≠0∧NoE f k:=by
   clear h hj n
   induction j using Nat.strongRecOn with
   | ind j ih=>
    by_cases hn:NoE f j
    ·exact⟨j,Nat.le_refl _,hz,hn⟩
    ·simp only[NoE,Classical.not_forall]at hn
     obtain⟨m,hm,hmz⟩:=hn
     obtain⟨k,h1,h2,h3⟩:=ih m hm hmz
     exact⟨k,by omega,h2,h3⟩
  obtain⟨k,h1,h2,h3⟩:=hex
  rw[firstErr_at h3 (by omega) h2]at h
  exact absurd h h2
def namesB (c:Control) (n:Nat):List (List UInt8):=(List.range n).map fun k:Nat=>namedC c k
theorem namesB_succ (c:Control) (n:Nat):namesB c (n+1)=namesB c n++[namedC c n]:=by simp[namesB,List.range_succ]
@[simp] theorem namesB_length (c:Control) (n:Nat):(namesB c n).length=n:=by simp[namesB]
def inpE (c:Control) (i:Nat):Int:=nameE (namedC c (2*c.actuators.toNat+i:Nat)) (namesB c (2*c.actuators.toNat+i))
def sigE (c:Control) (i:Nat):Int:=match c.signals[i]? with
 | some s=>signalE c i s (namesB c (2*c.actuators.toNat+c.inputs.length+i))
 | none=>0
def pilotE (c:Control):Int:=
 if (c.plus.length:Int)≠c.actuators∨(c.minus.length:Int)≠c.actuators then 8
 else if (c.plus++c.minus).any (fun l=>decide (l<0)||decide (countC c<=l)) then 6 else 0
def checkC (c:Control):Int:=
 if c.actuators<1∨c.actuators>6 then 2
 else if c.inputs.length>16∨c.signals.length>64 then 5
 else if firstErr (inpE c) (List.range c.inputs.length)≠0 then firstErr (inpE c) (List.range c.inputs.length)
 else if firstErr (sigE c) (List.range c.signals.length)≠0 then firstErr (sigE c) (List.range c.signals.length)
 else pilotE c
theorem lineName_eq (k:Nat) (hk:k<12):lineName k=[UInt8.ofNat (97+k / 2),UInt8.ofNat (48+k % 2)]:=by
 unfold lineName
 have ed:Int.tdiv (k:Int) 2=((k / 2:Nat):Int):=by rw[Int.tdiv_eq_ediv_of_nonneg (by omega)];rfl
 have em:Int.tmod (k:Int) 2=((k % 2:Nat):Int):=by rw[Int.tmod_eq_emod_of_nonneg (by omega)];rfl
 rw[ed,em,encU_ascii (by omega) (by omega),encU_ascii (by omega) (by omega)]
 simp only[List.singleton_append,List.cons.injEq,and_true]
 constructor<;>congr 1
theorem lineName_inj {j k:Nat}(hj:j<12) (hk:k<12) (h:lineName j=lineName k):j=k:=by
 rw[lineName_eq j hj,lineName_eq k hk]at h
 simp only[List.cons.injEq,and_true]at h
 obtain⟨h1,h2⟩:=h
 have e1:=congrArg UInt8.toNat h1
 have e2:=congrArg UInt8.toNat h2
 simp only[UInt8.toNat_ofNat']at e1 e2
 omega
theorem named_line {c:Control}{k:Nat}(h:(k:Int)<2*c.actuators):namedC c k=lineName k:=by
 unfold namedC;rw[if_pos h]
theorem closure1_fn (c:Control) (h:Sm c) (n:Int):CallFn Tryz.prog 245 [aI n,.rptr (encC c)] (aB (decide (n<0)||decide (countC c<=n))):=by
 refine callFz_of Tryz.func245 rfl Tryz.ntmps245 (rs:=[.tmp 3]) rfl (by kernel_rfl) (by simp) (by kernel_rfl) ?_
 simp
 refine GCall.fn (aI (countC c)) (fun hn=>⟨by omega,count_c c h⟩) ?_
 simp
end Go.Proofs.YtafamcbdaeppoaaGreatDoor
