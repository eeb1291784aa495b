/- Texts joined by a program: Fxb,Fxe,Fxf,Fxg,Fxh,Hd. -/
import Derived.Test.YtafamcbdaeppoaaGreatDoorF16
import Derived.Test.YtafamcbdaeppoaaGreatDoorF12
set_option linter.unusedSimpArgs false
set_option linter.unusedVariables false
set_option maxHeartbeats 4000000
set_option maxRecDepth 10000
namespace Go.Proofs.YtafamcbdaeppoaaGreatDoor
section
variable {P:Program}
abbrev Sq:=Value×TypeId×Nat×List (List A)
def sq (q:Sq):Ent:=.seq q.1 q.2.1 q.2.2.1 q.2.2.2
theorem inv_shut {x:X}{t u:Nat}{q:Sq}{l:List Sq}{H:Heap}(h:Inv x ((u,sq q)::(t,.seqs l)::H)):Inv x ((t,.seqs (q::l))::H):=by
 have s1:Ent.sat x (sq q):=h.sat (u,sq q) (by simp)
 have s2:Ent.sat x (.seqs l):=h.sat (t,.seqs l) (by simp)
 have ap:=List.pairwise_cons.1 h.apart
 have ap2:=List.pairwise_cons.1 ap.2
 refine⟨h.bd,?_,?_,?_⟩
 ·intro p hp
  rcases List.mem_cons.1 hp with rfl | hp
  ·refine⟨fun q' hq'=>?_,List.pairwise_cons.2 ⟨fun q' hq' b hb=>?_,s2.2⟩⟩
   ·rcases List.mem_cons.1 hq' with rfl | hq'
    ·exact s1
    ·exact s2.1 q' hq'
   ·intro hb2
    exact ap.1 (t,.seqs l) (by simp) b hb ⟨q',hq',hb2⟩
  ·exact h.sat p (by simp[hp])
 ·intro p hp b hb
  rcases List.mem_cons.1 hp with rfl | hp
  ·obtain⟨q',hq',hb2⟩:=hb
   rcases List.mem_cons.1 hq' with rfl | hq'
   ·exact h.own (u,sq q') (by simp) b hb2
   ·exact h.own (t,.seqs l) (by simp) b ⟨q',hq',hb2⟩
  ·exact h.own p (by simp[hp]) b hb
 ·refine List.pairwise_cons.2 ⟨fun p hp b hb=>?_,ap2.2⟩
  obtain⟨q',hq',hb2⟩:=hb
  rcases List.mem_cons.1 hq' with rfl | hq'
  ·exact ap.1 p (by simp[hp]) b hb2
  ·exact ap2.1 p hp b ⟨q',hq',hb2⟩
theorem inv_open {x:X}{t u:Nat}{q:Sq}{l:List Sq}{H:Heap}(h:Inv x ((t,.seqs (q::l))::H)):Inv x ((u,sq q)::(t,.seqs l)::H):=by
 have s:Ent.sat x (.seqs (q::l)):=h.sat (t,.seqs (q::l)) (by simp)
 obtain⟨s1,s2⟩:=s
 have s3:=List.pairwise_cons.1 s2
 have ap:=List.pairwise_cons.1 h.apart
 refine⟨h.bd,?_,?_,?_⟩
 ·intro p hp
  rcases List.mem_cons.1 hp with rfl | hp
  ·exact s1 q (by simp)
  ·rcases List.mem_cons.1 hp with rfl | hp
   ·exact⟨fun q' hq'=>s1 q' (by simp[hq']),s3.2⟩
   ·exact h.sat p (by simp[hp])
 ·intro p hp b hb
  rcases List.mem_cons.1 hp with rfl | hp
  ·exact h.own (t,.seqs (q::l)) (by simp) b ⟨q,by simp,hb⟩
  ·rcases List.mem_cons.1 hp with rfl | hp
   ·obtain⟨q',hq',hb2⟩:=hb
    exact h.own (t,.seqs (q::l)) (by simp) b ⟨q',by simp[hq'],hb2⟩
   ·exact h.own p (by simp[hp]) b hb
 ·refine List.pairwise_cons.2 ⟨fun p hp b hb hb2=>?_,List.pairwise_cons.2 ⟨fun p hp b hb=>?_,ap.2⟩⟩
  ·rcases List.mem_cons.1 hp with rfl | hp
   ·obtain⟨q',hq',hb3⟩:=hb2
    exact s3.1 q' hq' b hb hb3
   ·exact ap.1 p hp b ⟨q,by simp,hb⟩ hb2
  ·obtain⟨q',hq',hb3⟩:=hb
   exact ap.1 p hp b ⟨q',by simp[hq'],hb3⟩
theorem inv_shuffle {x:X}{t:Nat}{l l':List Sq}{H:Heap}(hp:l.Perm l') (h:Inv x ((t,.seqs l)::H)):Inv x ((t,.seqs l')::H):=by
 have ap:=List.pairwise_cons.1 h.apart
 have s:Ent.sat x (.seqs l):=h.sat (t,.seqs l) (by simp)
 refine⟨h.bd,?_,?_,List.pairwise_cons.2 ⟨?_,ap.2⟩⟩
 ·intro p hpp
  rcases List.mem_cons.1 hpp with rfl | hpp
  ·refine⟨fun q hq=>s.1 q (hp.mem_iff.2 hq),(hp.pairwise_iff ?_).1 s.2⟩
   intro a b hab k h1 h2
   exact hab k h2 h1
  ·exact h.sat p (by simp[hpp])
 ·intro p hpp b hb
  rcases List.mem_cons.1 hpp with rfl | hpp
  ·obtain⟨q,hq,hb2⟩:=hb
   exact h.own (t,.seqs l) (by simp) b ⟨q,hp.mem_iff.2 hq,hb2⟩
  ·exact h.own p (by simp[hpp]) b hb
 ·intro p hpp b hb
  obtain⟨q,hq,hb2⟩:=hb
  exact ap.1 p hpp b ⟨q,hp.mem_iff.2 hq,hb2⟩
theorem inv_other {x:X}{t u:Nat}{a b:Sq}{l l':List Sq}{H:Heap}(hp:(a::l).Perm (b::l')) (h:Inv x ((u,sq a)::(t,.seqs l)::H)):Inv x ((u,sq b)::(t,.seqs l')::H):=
 inv_open (inv_shuffle hp (inv_shut h))
theorem CallS.inv {g:FuncId}{az az':List A}{H H':Heap}{K:A->Heap->Prop}(hi:∀x H0,Inv x (H++H0)->Inv x (H'++H0)) (ha:∀x vs,Ds x az vs->Ds x az' vs) (h:CallS P g az' H' K):CallS P g az H K:=
 ⟨h.1,fun x args H0 hx hd=>h.2 x args H0 (hi x H0 hx) (ha x _ hd)⟩
theorem V.inv {C:Cfg}{c:Code}{E:Env}{H H':Heap}{Q:PostQ}(hi:∀x H0,Inv x (H++H0)->Inv x (H'++H0)) (h:V C c E H' Q):V C c E H Q:=by
 intro hf x act H0 ms hx he
 exact h hf x act H0 ms (hi x _ hx) he
end
section
variable {P:Program}
end
section
variable {P:Program}
theorem ready_all {ops:List Oper}(hd:depB ops=true) {listed:Array Bool}(hsz:listed.size=ops.length) (hr:Region.ready .any ops.toArray listed=[]):∀k,k<ops.length->listed.getD k false=true:=by
 intro k
 induction k using Nat.strongRecOn with
 | _ k ih=>
  intro hk
  cases hl:listed.getD k false with
  | true=>rfl
  | false=>
   exfalso
   have hmem:k∈Region.ready .any ops.toArray listed:=by
    refine mem_ready.2 ⟨?_,ops[k],by simp[hk],fun e he hb=>ih e.on ?_ ?_⟩
    ·rw[Array.getD_eq_getD_getElem?]at hl ⊢
     rw[Array.getElem?_eq_getElem (by omega)]at hl ⊢
     simpa using hl
    ·exact depB_edge hd (List.getElem?_eq_getElem hk) he hb
    ·exact Nat.lt_trans (depB_edge hd (List.getElem?_eq_getElem hk) he hb) hk
   rw[hr]at hmem
   cases hmem
theorem push_getD {l:Array Bool}{k:Nat}{b:Bool}:(l.push b).getD k false=if k=l.size then b else l.getD k false:=by
 simp only[Array.getD_eq_getD_getElem?,Array.getElem?_push]
 split<;>simp
theorem push_getT {l:Array Bool}{k:Nat}{b:Bool}:(l.push b).getD k true=if k=l.size then b else l.getD k true:=by
 simp only[Array.getD_eq_getD_getElem?,Array.getElem?_push]
 split<;>simp
theorem set_push {l:Array Bool}{i:Nat}{b:Bool}(h:i<l.size):(l.push b).setIfInBounds i true=(l.setIfInBounds i true).push b:=by
 apply Array.ext_getElem?
 intro k
 simp only[Array.getElem?_setIfInBounds,Array.getElem?_push,Array.size_push,Array.size_setIfInBounds]
 by_cases h1:i=k
 ·subst h1
  have h2:¬i=l.size:=by omega
  simp[h,h2]
  omega
 ·simp[h1]
theorem getD_lt {l:Array Bool}{k:Nat}(h:k<l.size):l.getD k true=l.getD k false:=by
 simp only[Array.getD_eq_getD_getElem?,Array.getElem?_eq_getElem h,Option.getD_some]
theorem Oper.wp_mono2 {o:Oper}{a:Act}{w:World}{K K':Act->World->Prop}{Q Q':Exit->Act->World->Prop}(h:∀a w,K a w->K' a w) (hq:∀e a w,e≠.normal->Q e a w->Q' e a w)
  (hh:o.wp P a w K Q):o.wp P a w K' Q':=by
 have hl:LetsOut Q->LetsOut Q':=fun ⟨a,w,h⟩=>⟨a,w,hq _ _ _ (by simp) h⟩
 unfold Oper.wp at *
 generalize (execOp a.eval o).run P w=r at *
 cases r with
 | ok n w'=>
  cases n<;>simp only[Oper.upon]at hh ⊢ <;>
   first
    | exact h _ _ hh
    | exact Calls.mono hh (fun e w'' he=>by cases e<;>first | exact h _ _ he | exact hq _ _ _ (by simp) he | exact hl he)
    | exact Rows.mono hh (fun _ _ he=>h _ _ he)
 | halt x w'=>cases x<;>simp only[Oper.upon]at hh ⊢<;>exact hq _ _ _ (by simp) hh
theorem wpAny_last {pre:List Oper}{last:Oper}(hd:depB (pre++[last])=true) (hrel:∀k,k<pre.length->relB (pre++[last]) pre.length k=true) (hg:∀o∈pre,o.guard=none)
  {Q Q':Exit->Act->World->Prop}(hQ:∀e a w,e≠.normal->Q' e a w->Q e a w) (hQ':∀a w,Q' .normal a w->wpOp P (pre++[last]).toArray Q pre.length (fun a w=>Q .normal a w) a w) :
  ∀(fuel:Nat) (listed:Array Bool) (a:Act) (w:World) (l:List Nat),listed.size=pre.length->Closed (pre++[last]) (fun k=>(listed.push false).getD k false)->l.Nodup ->
   (∀k,k∈l↔k<pre.length∧listed.getD k false=false)->l.length=fuel->wpAny P .any pre.toArray Q' fuel listed a w->wpAny P .any (pre++[last]).toArray Q (fuel+1) (listed.push false) a w:=by
 have hlen:(pre++[last]).length=pre.length+1:=by simp
 have hat:(pre++[last])[pre.length]?=some last:=by simp
 have hrl:∀(listed:Array Bool),listed.size=pre.length->Closed (pre++[last]) (fun k=>(listed.push false).getD k false)->pre.length∈Region.ready .any (pre++[last]).toArray (listed.push false)->∀k,k<pre.length->listed.getD k false=true:=by
  intro listed hsz hc hm k hk
  obtain⟨_,o,ho,h2⟩:=mem_ready.1 hm
  have ho':(pre++[last])[pre.length]?=some o:=by simpa using ho
  have:=hc.ready (i:=pre.length) (fun k hk=>by
   obtain⟨o',e,q1,q2,q3,q4⟩:=dirB_edge hk
   rw[ho']at q1
   cases q1
   rw[<- q4]
   exact h2 e q2 q3) (hrel k hk)
  simp only[push_getD,hsz]at this
  rwa [if_neg (by omega)]at this
 have hin:∀(listed:Array Bool),listed.size=pre.length->∀i,i≠pre.length->i∈Region.ready .any (pre++[last]).toArray (listed.push false)->i<pre.length∧i∈Region.ready .any pre.toArray listed:=by
  intro listed hsz i hne hm
  obtain⟨h1,o,ho,h2⟩:=mem_ready.1 hm
  have ho':(pre++[last])[i]?=some o:=by simpa using ho
  have hi:i<pre.length:=by
   have:=(List.getElem?_eq_some_iff.1 ho').1
   omega
  refine⟨hi,mem_ready.2 ⟨?_,o,?_,fun e he hb=>?_⟩⟩
  ·rw[push_getT,if_neg (by omega)]at h1
   exact h1
  ·rw[List.getElem?_append_left hi]at ho'
   simpa using ho'
  ·have h3:=h2 e he hb
   have h4:=depB_edge hd ho' he hb
   rw[push_getD,if_neg (by omega)]at h3
   exact h3
 intro fuel
 induction fuel with
 | zero=>
  intro listed a w l hsz hc hnd hl hlen2 h
  have hnil:l=[]:=List.eq_nil_of_length_eq_zero hlen2
  subst hnil
  have hall:∀k,k<pre.length->listed.getD k false=true:=by
   intro k hk
   cases hh:listed.getD k false with
   | true=>rfl
   | false=>exact absurd ((hl k).2 ⟨hk,hh⟩) (by simp)
  refine⟨fun hr=>?_,fun i hi=>?_⟩
  ·have:=ready_all hd (by simp[hsz]) hr pre.length (by simp)
   rw[push_getD,if_pos hsz.symm]at this
   cases this
  ·have hin2:i=pre.length:=by
    rcases Nat.lt_or_ge i pre.length with h1 | h1
    ·obtain⟨_,h2⟩:=hin listed hsz i (by omega) hi
     have h3:=(mem_ready.1 h2).1
     rw[getD_lt (by omega),hall i h1]at h3
     cases h3
    ·rcases Nat.lt_or_ge pre.length i with h2 | h2
     ·obtain⟨h3,_⟩:=hin listed hsz i (by omega) hi
      omega
     ·omega
   subst hin2
   refine wpOp_mono (fun a w hq=>?_) (hQ' a w h.2)
   refine⟨?_,hq⟩
   cases hr:Region.ready .any (pre++[last]).toArray ((listed.push false).setIfInBounds pre.length true) with
   | nil=>rfl
   | cons k r=>
    have hm:k∈Region.ready .any (pre++[last]).toArray ((listed.push false).setIfInBounds pre.length true):=by rw[hr];simp
    obtain⟨h1,o,ho,_⟩:=mem_ready.1 hm
    have hk:k<pre.length+1:=by
     have ho':(pre++[last])[k]?=some o:=by simpa using ho
     have:=(List.getElem?_eq_some_iff.1 ho').1
     omega
    exfalso
    rw[Array.getD_eq_getD_getElem?,Array.getElem?_setIfInBounds]at h1
    by_cases hk2:pre.length=k
    ·subst hk2
     simp[hsz]at h1
    ·rw[if_neg hk2,<- Array.getD_eq_getD_getElem?,push_getT,if_neg (by omega),getD_lt (by omega),hall k (by omega)]at h1
     cases h1
 | succ fuel ih=>
  intro listed a w l hsz hc hnd hl hlen2 h
  have hex:∃k,k<pre.length∧listed.getD k false=false:=by
   cases l with
   | nil=>simp at hlen2
   | cons k l=>exact⟨k,(hl k).1 (by simp)⟩
  obtain⟨k0,hk0,hk1⟩:=hex
  refine⟨fun hr=>?_,fun i hi=>?_⟩
  ·have:=ready_all hd (by simp[hsz]) hr pre.length (by simp)
   rw[push_getD,if_pos hsz.symm]at this
   cases this
  ·have hne:i≠pre.length:=by
    rintro rfl
    have:=hrl listed hsz hc hi k0 hk0
    rw[hk1]at this
    cases this
   obtain⟨hil,hir⟩:=hin listed hsz i hne hi
   have hSi:listed.getD i false=false:=by
    have:=(mem_ready.1 hir).1
    rwa [getD_lt (by omega)]at this
   have h1:=h.2 i hir
   have hS':∀k,(listed.setIfInBounds i true).getD k false=(listed.getD k false||decide (k=i)):=by
    intro k
    by_cases hk:k=i
    ·subst hk
     have:k<listed.size:=by omega
     simp[Array.getD_eq_getD_getElem?,this]
    ·simp[Array.getD_eq_getD_getElem?,Array.getElem?_setIfInBounds_ne (Ne.symm hk),hk]
   have hK:∀a w,wpAny P .any pre.toArray Q' fuel (listed.setIfInBounds i true) a w->wpAny P .any (pre++[last]).toArray Q (fuel+1) ((listed.push false).setIfInBounds i true) a w:=by
    intro a w h
    rw[set_push (by omega)]
    refine ih (listed.setIfInBounds i true) a w (l.erase i) (by simpa using hsz) ?_ (hnd.erase i) ?_ ?_ h
    ·intro j m hj hm
     simp only[push_getD,hS',Array.size_setIfInBounds,hsz]at hj ⊢
     have hjl:j<pre.length:=by
      rcases Nat.lt_or_ge j pre.length with h2 | h2
      ·exact h2
      ·exfalso
       by_cases h3:j=pre.length
       ·rw[if_pos h3]at hj;cases hj
       ·unfold dirB at hm
        rw[List.getElem?_eq_none (by simp;omega)]at hm
        cases hm
     rw[if_neg (by omega)]at hj
     obtain⟨o',e,q1,q2,q3,q4⟩:=dirB_edge hm
     have hml:m<j:=by
      rw[<- q4]
      exact depB_edge hd q1 q2 q3
     rw[if_neg (by omega)]
     simp only[Bool.or_eq_true,decide_eq_true_eq]at hj ⊢
     rcases hj with hj | hj
     ·have:=hc j m (by simp only[push_getD,hsz];rw[if_neg (by omega)];exact hj) hm
      simp only[push_getD,hsz]at this
      rw[if_neg (by omega)]at this
      exact .inl this
     ·subst hj
      obtain⟨_,o,ho,h2⟩:=mem_ready.1 hir
      have ho':(pre++[last])[j]?=some o:=by
       rw[List.getElem?_append_left hjl]
       simpa using ho
      rw[ho']at q1
      cases q1
      rw[<- q4]
      exact .inl (h2 e q2 q3)
    ·intro k
     rw[hnd.mem_erase_iff,hl k,hS' k]
     by_cases hk:k=i
     ·subst hk;simp
     ·simp[hk]
    ·rw[List.length_erase_of_mem ((hl i).2 ⟨hil,hSi⟩)]
     omega
   have hoe:(pre++[last]).toArray[i]?=pre.toArray[i]?:=by
    simp[List.getElem?_append_left hil]
   unfold wpOp at h1 ⊢
   rw[hoe]
   have hoi:pre.toArray[i]?=some pre[i]:=by simp[hil]
   rw[hoi]at h1 ⊢
   simp only at h1 ⊢
   have hgi:=hg pre[i] (List.getElem_mem hil)
   have hw:∀y,Region.wanted pre[i] y=true:=by intro y;simp[Region.wanted,hgi]
   rw[if_pos (hw _)]at h1 ⊢
   rcases h1 with h1 | ⟨h1,a',w',h2⟩
   ·exact .inl (Oper.wp_mono2 hK hQ h1)
   ·exact .inr ⟨h1,a',w',hQ _ _ _ (by simp) h2⟩
def endC (P:Program) (o:Oper) (E:Env) (H:Heap) (K:Env->Heap->Prop):Prop:=match callA E o.op with
 | some (p,g,az)=>p∧CallS P g az H fun r H'=>K (put E o.dst r) H'
 | none=>False
theorem V.drawEnd {n:Nat}{id:Nat}{ops:Array Oper}{E:Env}{H:Heap}{Q:PostQ}(pre:List Oper) (last:Oper) (hops:ops.toList=pre++[last]) (ρ:Nat->Option CR) (hm:P.follows .mixedOrders=true) (hd:(depB pre&&depB (pre++[last])&&((List.range pre.length).all fun k=>relB (pre++[last]) pre.length k)&&((pre++[last]).all fun o=>o.guard.isNone))=true)
  (hn:(H.map (·.1)).Nodup) (h:vcD P ρ pre 0 [] pre E H fun E' H'=>endC P last E' H' fun E' H'=>Q .normal E' H'):V ⟨P,none,n⟩ (.region id ops true) E H Q:=by
 intro hf x act H00 ms hi he
 simp only[Bool.and_eq_true,List.all_eq_true,List.mem_range]at hd
 obtain⟨⟨⟨hd1,hd2⟩,hd3⟩,hd4⟩:=hd
 have hg:∀o∈pre++[last],o.guard=none:=fun o ho=>by simpa using hd4 o ho
 have hops2:ops=(pre++[last]).toArray:=by rw[<- hops]
 have hfit:=fitsOps_ok hf
 rw[hops]at hfit
 generalize hH0:marks ms++H00=H0 at hi
 generalize hds:ms.map mk=ds at he
 have hlex:=fun ν=>vcD_lex (P:=P) (E0:=E) (G0:=fun t=>hget t H) (ν:=ν) pre 0 [] E H (by simp) h rfl hn (fun k o hk=>by omega)
 have L:LexOK P ρ pre E (fun t=>hget t H):=⟨hd1,fun ν i o ho=>(hlex ν).1 i o (Nat.zero_le _) ho,
  fun ν i j oi oj t hij hoi hoj hc=>(hlex ν).2.1 i j oi oj t (Nat.zero_le _) hij hoi hoj hc⟩
 refine wpIn_wide.2 (wp_region_any hm ?_)
 have hi':Inv x.drew (H++H0):=hi.grow (X.drew_grow x)
 have he':EnvOK n ds x.drew act E:=he.mono (X.drew_grow x).le
 have hsz:∀m k,(Array.replicate m false).getD k false=false:=by
  intro m k
  rw[Array.getD_eq_getD_getElem?]
  by_cases hk:k<m
  ·simp[Array.getElem?_replicate,hk]
  ·simp[Array.getElem?_replicate,hk]
 have hfun:∀m,(fun k=>(Array.replicate m false).getD k false)=fun _=>false:=fun m=>funext (hsz m)
 have hee:∀(r:Nat->Option (Prop×A×Option (Nat×Ent))) m,eeS pre E r (fun _=>false) m=E:=by
  intro r m
  induction m with
  | zero=>rfl
  | succ m ih=>simp[eeS,ih]
 have hgg:∀(r:Nat->Option (Prop×A×Option (Nat×Ent))) m,ggS pre (fun t=>hget t H) r (fun _=>false) m=fun t=>hget t H:=by
  intro r m
  induction m with
  | zero=>rfl
  | succ m ih=>simp[ggS,ih]
 let Qf:Exit->Act->World->Prop:=Post n H00 Q x
 let Qm:Exit->Act->World->Prop:=fun e a w=>match e with
  | .normal=>wpOp P (pre++[last]).toArray Qf pre.length (fun a w=>Qf .normal a w) a w
  | e=>Qf e a w
 have key:=region_any (H0:=H0) (x0:=x) (n:=n) (ds:=ds) (Q:=Qm) L (fun o ho=>hfit o (by simp[ho])) (by
   intro ν y a Hc hle hy hey hgt
   obtain⟨Hn,q1,q2,q3⟩:=(hlex ν).2.2
   have hsub:∀t e,hget t Hn=some e->hget t Hc=some e:=fun t e ht=>by rw[hgt t,q2];exact ht
   have hyn:=subH_inv (subH_of q3 hsub) hy
   show wpOp P (pre++[last]).toArray Qf pre.length (fun a w=>Qf .normal a w) a y.w
   have hlo:(pre++[last]).toArray[pre.length]?=some last:=by simp
   unfold wpOp
   rw[hlo]
   simp only
   have hw:∀z,Region.wanted last z=true:=by
    intro z
    have:=hg last (by simp)
    simp[Region.wanted,this]
   rw[if_pos (hw _)]
   refine .inl ?_
   unfold endC at q1
   split at q1
   ·rename_i p g az hca
    obtain⟨hp,hc⟩:=q1
    obtain⟨args,h1,h2⟩:=callA_ok (P:=P) hca hp hey hc.1
    unfold Oper.wp
    rw[h1]
    show Calls P g args y.w _
    refine (hc.2 y args H0 hyn h2).mono ?_
    rintro _ _ ⟨z,v,r,H',rfl,rfl,hz,hiz,hrv,hk⟩
    refine⟨z,_,H',ms,rfl,hle.trans hz,by rw[hH0];exact hiz,?_,hk⟩
    rw[hds]
    exact (hey.mono hz).put (hfit last (by simp)) hrv
   ·exact q1.elim)
  pre.length (Array.replicate pre.length false) (fun _=>(.nilIface,0)) x.drew act H (List.range pre.length) (by simp) List.nodup_range (by intro k;rw[hsz];simp) (by simp) (by
   rw[hfun];intro j i hj;cases hj) (X.drew_grow x).le hi' (by rw[hfun,hee];exact he') (by intro t;rw[hfun,hgg])
 have key2:=wpAny_last (P:=P) (Q:=Qf) (Q':=Qm) hd2 (fun k hk=>hd3 k hk) (fun o ho=>hg o (by simp[ho])) (fun e a w hne hq=>by
  cases e with
  | normal=>exact absurd rfl hne
  | _=>exact hq) (fun a w hq=>hq)
  pre.length (Array.replicate pre.length false) act x.drew.w (List.range pre.length) (by simp) (by
   intro j i hj
   simp only[push_getD,hsz]at hj
   split at hj<;>cases hj) List.nodup_range (by intro k;rw[hsz];simp) (by simp) key
 have e1:(Array.replicate pre.length false).push false=Array.replicate (pre.length+1) false:=by simp[Array.replicate_succ]
 have e2:ops.size=pre.length+1:=by rw[hops2];simp
 rw[e1]at key2
 show wpAny P .any ops (Post n H00 Q x) ops.size (Array.replicate ops.size false) act x.drew.w
 rw[e2,hops2]
 exact key2
theorem V.drawEndK {n:Nat}{id:Nat}{ops:Array Oper}{E:Env}{H:Heap}{Q:PostQ}(k:Nat) {pre:List Oper}{last:Oper}(hp:ops.toList.take k=pre) (hl:ops.toList.drop k=[last]) (ρ:Nat->Option CR) (hm:P.follows .mixedOrders=true)
  (hd:(depB (ops.toList.take k)&&depB ops.toList&&((List.range k).all fun j=>relB ops.toList k j)&&(ops.toList.all fun o=>o.guard.isNone)&&decide ((ops.toList.take k).length=k))=true)
  (hn:(H.map (·.1)).Nodup) (h:vcD P ρ pre 0 [] pre E H fun E' H'=>endC P last E' H' fun E' H'=>Q .normal E' H'):V ⟨P,none,n⟩ (.region id ops true) E H Q:=by
 have e:ops.toList=pre++[last]:=by rw[<- hp,<- hl,List.take_append_drop]
 simp only[Bool.and_eq_true,decide_eq_true_eq]at hd
 obtain⟨h1,h2⟩:=hd
 rw[hp]at h1 h2
 rw[e]at h1
 refine V.drawEnd pre last e ρ hm ?_ hn h
 simp only[Bool.and_eq_true]
 rw[h2]
 exact h1
attribute [simp] endC
end
section
variable {P:Program}
def Gh (Q:Env->Heap->Prop) (E:Env) (H:Heap):Prop:=
 ∀(n:Nat) (ds:List Deferred) (x:X) (act:Act) (H0:Heap),Inv x (H++H0)->EnvOK n ds x act E ->
  ∃(y:X) (E':Env) (H':Heap),y.w=x.w∧x.le y∧Inv y (H'++H0)∧EnvOK n ds y act E'∧Q E' H'
theorem Gh.here {Q:Env->Heap->Prop}{E:Env}{H:Heap}(h:Q E H):Gh Q E H:=
 fun _ _ x _ _ hi he=>⟨x,E,H,rfl,.refl x,hi,he,h⟩
@[congr] theorem Gh_congr {Q:Env->Heap->Prop}{E:Env}{H H':Heap}{z:Prop}(_:(True∧True)=z) (h:H=H'):Gh Q E H=Gh Q E H':=by rw[h]
theorem V.gh {C:Cfg}{c:Code}{E:Env}{H:Heap}{Q:PostQ}(h:V C c E H fun e E' H'=>Gh (Q e) E' H'):V C c E H Q:=by
 intro hf x act H0 ms hi he
 refine wpIn_mono (h hf x act H0 ms hi he) ?_
 rintro e a w ⟨y,E1,H1,ms',rfl,l1,i1,e1,g⟩
 obtain⟨z,E2,H2,w2,l2,i2,e2,h2⟩:=g C.n (ms'.map mk) y a _ i1 e1
 exact⟨z,E2,H2,ms',w2,l1.trans l2,i2,e2,h2⟩
theorem V.ofG {C:Cfg}{c:Code}{E:Env}{H:Heap}{Q:PostQ}(h:Gh (fun E' H'=>V C c E' H' Q) E H):V C c E H Q:=by
 intro hf x act H0 ms hi he
 obtain⟨z,E2,H2,w2,l2,i2,e2,h2⟩:=h C.n (ms.map mk) x act _ hi he
 have:=h2 hf z act H0 ms i2 e2
 rw[w2]at this
 exact wpIn_mono this fun _ _ _=>Post.le l2 fun _ _ _ h=>h
theorem freeze1 {x:X}{τ:Nat}{h:Value}{e sz:Nat}{rows:List (List A)}{H H0:Heap}(hH:hget τ H=some (.seq h e sz rows)) (hd:allD rows=true) (hi:Inv x (H++H0)) :
  ∃y:X,y.w=x.w∧x.le y∧Inv y (hdel τ H++H0)∧RdL y (.sl (rowsD rows)) h:=by
 have hp:=hdel_perm hH
 have hi1:Inv x ([(τ,.seq h e sz rows)]++(hdel τ H++H0)):=by
  have:=hi.perm (hp.symm.append_right H0)
  simpa using this
 obtain⟨y,hw,hle,hi2,hok,_⟩:=hi1.freeze
 exact⟨y,hw,hle,hi2,seq_data (Ent.sat_step hle (fun b _=>by rw[hw]) (hi1.sat (τ,.seq h e sz rows) (by simp))) (fun b hb=>hok b ⟨_,List.mem_singleton.2 rfl,hb⟩) hd⟩
theorem Ds_app {x:X}{a b:List A}{vs:List Value}(h:Ds x (a++b) vs):Ds x a (vs.take a.length)∧Ds x b (vs.drop a.length):=by
 have h1:=h.take a.length
 have h2:=h.drop a.length
 rw[List.take_left]at h1
 rw[List.drop_left]at h2
 exact⟨h1,h2⟩
theorem Ds_set {x:X}{a a':A}(hd:∀v,D x a v->D x a' v):∀ {r:List A}{vs:List Value}{j:Nat},r[j]?=some a->Ds x r vs->Ds x (r.set j a') vs
 | [],_,_,h,_=>by simp at h
 | _::_,[],_,_,h=>by simp[Ds]at h
 | b::r,v::vs,0,hj,h=>by
  simp only[List.getElem?_cons_zero,Option.some.injEq]at hj
  subst hj
  simp only[Ds]at h
  simp only[List.set_cons_zero,Ds]
  exact⟨hd v h.1,h.2⟩
 | b::r,v::vs,j+1,hj,h=>by
  simp only[List.getElem?_cons_succ]at hj
  simp only[Ds]at h
  simp only[List.set_cons_succ,Ds]
  exact⟨h.1,Ds_set hd hj h.2⟩
theorem Ds_rows {x:X}{r r':List A}(hd:∀vs,Ds x r vs->Ds x r' vs):∀ {rs:List (List A)}{vs:List Value}{i:Nat},rs[i]?=some r->Ds x rs.flatten vs->Ds x (rs.set i r').flatten vs
 | [],_,_,h,_=>by simp at h
 | q::rs,vs,0,hj,h=>by
  simp only[List.getElem?_cons_zero,Option.some.injEq]at hj
  subst hj
  simp only[List.flatten_cons]at h
  obtain⟨h1,h2⟩:=Ds_app h
  simp only[List.set_cons_zero,List.flatten_cons]
  rw[<- List.take_append_drop q.length vs]
  exact (hd _ h1).append h2
 | q::rs,vs,i+1,hj,h=>by
  simp only[List.getElem?_cons_succ]at hj
  simp only[List.flatten_cons]at h
  obtain⟨h1,h2⟩:=Ds_app h
  simp only[List.set_cons_succ,List.flatten_cons]
  rw[<- List.take_append_drop q.length vs]
  exact h1.append (Ds_rows hd hj h2)
theorem seq_swap {x:X}{hh:Value}{e sz i:Nat}{rs:List (List A)}{r r':List A}(hr:rs[i]?=some r) (hl:r'.length=r.length) (hd:∀vs,Ds x r vs->Ds x r' vs) (hs:Ent.sat x (.seq hh e sz rs)):Ent.sat x (.seq hh e sz (rs.set i r')):=by
 obtain⟨xs,ho,h1,h2⟩:=hs
 refine⟨xs,by simpa using ho,?_,Ds_rows hd hr h2⟩
 intro q hq
 rcases List.mem_or_eq_of_mem_set hq with hq | rfl
 ·exact h1 q hq
 ·rw[hl];exact h1 r (List.mem_of_getElem? hr)
theorem Inv.swap {x:X}{g:Nat}{e e':Ent}{H H0:Heap}(hg:hget g H=some e) (hs:e.sat x->e'.sat x) (ho:∀b,e'.own b->e.own b) (hi:Inv x (H++H0)):Inv x (hset g e' H++H0):=by
 have h1:Inv x ((g,e)::(hdel g H++H0)):=hi.perm ((hdel_perm hg).symm.append_right H0)
 have h2:Inv x ((g,e')::(hdel g H++H0)):=by
  refine⟨h1.bd,?_,?_,?_⟩
  ·intro p hp
   rcases List.mem_cons.1 hp with rfl | hp
   ·exact hs (h1.sat (g,e) (by simp))
   ·exact h1.sat p (by simp only[List.mem_cons];exact .inr hp)
  ·intro p hp b hb
   rcases List.mem_cons.1 hp with rfl | hp
   ·exact h1.own (g,e) (by simp) b (ho b hb)
   ·exact h1.own p (by simp only[List.mem_cons];exact .inr hp) b hb
  ·have:=List.pairwise_cons.1 h1.apart
   exact List.pairwise_cons.2 ⟨fun q hq b hb=>this.1 q hq b (ho b hb),this.2⟩
 exact h2.perm ((hset_perm hg).append_right H0).symm
theorem rowNil_inv {x:X}{H H0:Heap}{g τ i j:Nat}{hh:Value}{e sz:Nat}{rs:List (List A)}{r:List A}(e' sz':Nat) (hg:hget g H=some (.seq hh e sz rs)) (hr:rs[i]?=some r) (hj:r[j]?=some .nils) (hi:Inv x (H++H0)) :
  Inv x (((τ,.seq (.slice none 0 0) e' sz' [])::hset g (.seq hh e sz (rs.set i (r.set j (.own τ (.slice none 0 0))))) H)++H0):=by
 have h1:=hi.swap (e':=.seq hh e sz (rs.set i (r.set j (.own τ (.slice none 0 0))))) hg (fun hs=>seq_swap hr (by simp) (fun vs hv=>Ds_set (fun v hv=>by
  simp only[D]at hv ⊢
  subst hv
  exact⟨rfl,_,_,_,rfl⟩) hj hv) hs) (fun b hb=>hb)
 exact Inv.nil (t:=τ) h1 ⟨rfl,rfl⟩
theorem Gh.frzBox {Q:Env->Heap->Prop}{E:Env}{H:Heap}{g τ j b:Nat}{h:Value}{e sz:Nat}{rows:List (List A)}{cs:List A}{t:Nat}(hg:hget g (hdel τ H)=some (.box b cs)) (hH:hget τ H=some (.seq h e sz rows)) (hd:allD rows=true)
  (hj:cs[j]?=some (.own t h)) (hq:Gh Q E (hset g (.box b (cs.set j (.dat (.sl (rowsD rows))))) (hdel τ H))):Gh Q E H:=by
 intro n ds x act H0 hi he
 obtain⟨y,hw,hle,hi2,hrd⟩:=freeze1 hH hd hi
 have hi3:Inv y (hset g (.box b (cs.set j (.dat (.sl (rowsD rows))))) (hdel τ H)++H0):=
  hi2.swap hg (fun ⟨c,ty,h1,h2⟩=>⟨c,ty,h1,Ds_set (fun v hv=>by simp only[D]at hv ⊢;rw[hv.1];exact hrd) hj h2⟩) (fun b hb=>hb)
 obtain⟨z,E2,H2,w2,l2,i2,e2,h2⟩:=hq n ds y act H0 hi3 (he.mono hle)
 exact⟨z,E2,H2,w2.trans hw,hle.trans l2,i2,e2,h2⟩
def vcF (P:Program) (ρ:Nat->Option CR) (T:List Nat) (ops:List Oper):List Oper->Env->Heap->(Env->Heap->Prop)->Prop
 | [],E,H,K=>K E H
 | o::rest,E,H,K=>∀u b,match T.contains (o.dst.getD 0)&&o.guard.isNone with
  | true=>match heapF P u b (o.dst.getD 0) E (fun t=>hget t H) o.op with
   | some (p,a,ch)=>p∧vcF P ρ T ops rest (put E o.dst a) (happ ch H) K
   | none=>False
  | false=>match fStep P ρ u b ops o E (fun t=>hget t H) with
   | some (p,a,ch)=>p∧vcF P ρ T ops rest (put E o.dst a) (happ ch H) K
   | none=>False
theorem vcF_ok {ρ:Nat->Option CR}{T:List Nat}{ops:List Oper}{n:Nat}{ds:List Deferred}{H0:Heap}{x0:X}{Q:Exit->Act->World->Prop}:∀(l:List Oper) (k:Nat) (E:Env) (H:Heap) (K:Env->Heap->Prop),ops.drop k=l->(∀o∈l,fits n o.dst)->vcF P ρ T ops l E H K ->
  (∀E H x act,K E H->x0.le x->Inv x (H++H0)->EnvOK n ds x act E->Q .normal act x.w)->∀x act,x0.le x->Inv x (H++H0)->EnvOK n ds x act E->wpOps P ops.toArray Q ((List.range' k l.length)) act x.w
 | [],k,E,H,K,_,_,h,hq,x,act,hle,hi,he=>by
  simp only[List.length_nil,List.range'_zero,wpOps]
  exact hq _ _ x act h hle hi he
 | o::rest,k,E,H,K,hk,hf,h,hq,x,act,hle,hi,he=>by
  have ho:ops[k]?=some o:=by
   have:=congrArg (·[0]?) hk
   simpa [List.getElem?_drop]using this
  have hk':ops.drop (k+1)=rest:=by
   rw[<- List.drop_drop,hk]
   rfl
  simp only[List.length_cons,List.range'_succ]
  rw[wpOps_cons]
  simp only[vcF]at h
  cases hT:(T.contains (o.dst.getD 0)&&o.guard.isNone) with
  | true=>
   rw[hT]at h
   dsimp only at h
   have hg:o.guard=none:=by
    have:=(Bool.and_eq_true_iff.1 hT).2
    cases hgd:o.guard with
    | none=>rfl
    | some _=>rw[hgd]at this;simp at this
   have hw:Region.wanted o (yielded ops.toArray act.tmps)=true:=by simp[Region.wanted,hg]
   obtain⟨u,b,v,y,p,a,ch,h1,h2,h3,h4,h5,h6⟩:=heapF_ok (P:=P) (o:=o) (E:=E) (τ:=o.dst.getD 0) (fun u b=>by
    have:=h u b
    split at this
    ·rename_i p a ch hh;exact⟨p,a,ch,hh,this.1⟩
    ·exact this.elim) (fun t=>rfl) hi he
   have hk2:=h u b
   rw[h1]at hk2
   have fin:∀v,D y a v->wpOps P ops.toArray Q (List.range' (k+1) rest.length) (act.put o.dst v) y.w:=fun v hd=>
    vcF_ok rest (k+1) _ _ K hk' (fun o ho=>hf o (by simp[ho])) hk2.2 hq y _ (hle.trans h4) h5 ((he.mono h4).put (hf o (by simp)) hd)
   unfold wpOp
   rw[show ops.toArray[k]?=some o by simpa using ho]
   simp only
   rw[if_pos hw]
   left
   show o.upon P act _ Q _
   rcases h3 with h3 | ⟨h3,rfl⟩
   ·rw[h3];exact fin v h6
   ·rw[h3];exact fin Go.undef h6
  | false=>
   rw[hT]at h
   dsimp only at h
   refine fStep_ok (ρ:=ρ) (fun u b=>?_) (fun t=>rfl) hi he (by simpa using ho) ?_
   ·have:=h u b
    split at this
    ·rename_i p a ch hh;exact⟨p,a,ch,hh,this.1⟩
    ·exact this.elim
   ·intro u b p a ch v y hh hle2 hi2 hd
    have:=h u b
    rw[hh]at this
    exact vcF_ok rest (k+1) _ _ K hk' (fun o ho=>hf o (by simp[ho])) this.2 hq y _ (hle.trans hle2) hi2 ((he.mono hle2).put (hf o (by simp)) hd)
theorem V.regF {n:Nat}{id:Nat}{ops:Array Oper}{E:Env}{H:Heap}{Q:PostQ}(ρ:Nat->Option CR) (T:List Nat) (h:vcF P ρ T ops.toList ops.toList E H fun E' H'=>Q .normal E' H'):V ⟨P,none,n⟩ (.region id ops false) E H Q:=by
 intro hf x act H0 ms hi he
 refine wpIn_wide.2 (wp_region ?_)
 have:=vcF_ok (P:=P) (ρ:=ρ) (T:=T) (n:=n) (ds:=ms.map mk) (x0:=x) (Q:=Post n H0 Q x) ops.toList 0 E H _ rfl (fitsOps_ok hf) h (fun E H y act hK hle hi he=>⟨y,E,H,ms,rfl,hle,hi,he,hK⟩) x act (.refl x) hi he
 rw[List.range_eq_range']
 simpa using this
theorem V.seq {C:Cfg}{a b:Code}{E:Env}{H:Heap}{Q:PostQ}(h:V C a E H fun e E' H'=>match e with
  | .normal=>vcC C b E' H' Q
  | .exit i=>Q (.exit i) E' H'
  | .ret=>Q .ret E' H'
  | _=>False):V C (.seq a b) E H Q:=by
 intro hf
 simp only[fitsC,Bool.and_eq_true]at hf
 refine W.seq ((h hf.1).mono ?_)
 intro e E' H' hq
 cases e<;>first | exact vcC_ok b _ _ _ hf.2 hq | exact hq
attribute [simp] vcF
end
section
variable {P:Program}
end
section
open Go.Sort
theorem grow_inv {x:X}{H:Heap}(hi:Inv x H) (k:Nat) (os:Array Obj):x.le ⟨grow (x.w.drewN k) os,x.ok⟩∧Inv ⟨grow (x.w.drewN k) os,x.ok⟩ H:=by
 have hold:∀b,b<x.w.heap.size->(grow (x.w.drewN k) os).heap[b]?=x.w.heap[b]?:=by
  intro b hb
  simp only[grow]
  rw[Array.getElem?_append_left (by simpa [World.drewN]using hb)]
  rfl
 have hle:x.le ⟨grow (x.w.drewN k) os,x.ok⟩:=⟨fun b hb=>⟨hb,hold b (hi.bd b hb)⟩,rfl,rfl,rfl,by simp[grow,World.drewN],by simp[grow,World.drewN]⟩
 exact⟨hle,hi.step hle (fun b hb=>Nat.lt_of_lt_of_le (hi.bd b hb) hle.size) (fun b hb=>.inl hb) fun p hp b ho=>hold b (hi.own p hp b ho).1⟩
theorem pow_tab {x:X}(h:Tabs x):Go.Lib.TabIs Tryz.prog x.w "internal/strconv.uint64pow10" .u64 Go.Lib.pow10Tab:=by
 have hm:(2,Go.Lib.pow10Tab.map fun z=>L.int .u64 z)∈tabL:=List.Mem.head _
 obtain⟨_,ty,fr,h2⟩:=h _ hm
 have hg:(Tryz.prog).globalNamed "internal/strconv.uint64pow10"=some 2:=by kernel_rfl
 unfold Go.Lib.TabIs World.var?
 rw[hg]
 simp only[Option.bind_some,h2]
 simp[plV]
theorem Itoa_fn (n:Nat) (hn:(n:Int)<=9223372036854775807):CallFn Tryz.prog 133 [aI n] (.dat (.str (numT n))):=by
 refine⟨⟨_,Tryz.func133,by kernel_rfl,by kernel_rfl⟩,fun x args H0 hi hd=>?_⟩
 have ha:args=#[.int .i64 n]:=by
  rcases args with⟨l⟩
  obtain⟨v,e,hv⟩:=Ds.one hd
  simp only[D,RdL]at hv
  simp only at e
  rw[e,hv]
 subst ha
 have hi0:Inv x H0:=by simpa using hi
 refine (Any.strconv_Itoa itLays n (by omega) hn x.w (pow_tab hi.bd.tab)).mono ?_
 rintro _ _ ⟨rfl,k,os,rfl⟩
 obtain⟨h1,h2⟩:=grow_inv hi0 k os
 refine⟨⟨grow (x.w.drewN k) os,x.ok⟩,_,_,[],rfl,rfl,h1,by simpa using h2,?_,rfl,rfl⟩
 simp only[D,RdL,numT,Go.Lib.itoa]
 rw[if_neg (by omega),Int.toNat_natCast]
theorem letter_fn (a:Nat) (ha:a<26):CallFn Tryz.prog 132 [aI a] (.dat (.str (letterT a))):=by
 refine callFz_of Tryz.func132 rfl Tryz.ntmps132 (rs:=[.tmp 2]) rfl (by kernel_rfl) (by simp) (by kernel_rfl) ?_
 simp
 refine⟨by omega,by omega,?_⟩
 rw[encU_ascii (by omega) (by omega),letterT,show (65+(a:Int)).toNat=65+a by omega]
end
end Go.Proofs.YtafamcbdaeppoaaGreatDoor
