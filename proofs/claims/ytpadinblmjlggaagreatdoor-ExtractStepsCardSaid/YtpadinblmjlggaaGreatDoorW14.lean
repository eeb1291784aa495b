/- Texts joined by a program: Cc,Cd,Ce,Cf,Da,La,Jea,Sk,Iea,Sib. -/
import Derived.Shelf.Strconv.Itoa3
import Derived.Shelf.Small.Strs
import Derived.Test.YtpadinblmjlggaaGreatDoorProg
import Derived.KernelRfl
import Derived.Test.YtpadinblmjlggaaGreatDoorW13
import Derived.Test.YtpadinblmjlggaaGreatDoorW11
import Derived.Test.YtpadinblmjlggaaGreatDoorW12
set_option linter.unusedSimpArgs false
set_option linter.unusedVariables false
set_option maxHeartbeats 8000000
set_option maxRecDepth 100000
namespace Go.Proofs.YtpadinblmjlggaaGreatDoor
inductive RightE (n:Int):Expr->Prop
 | mk (x:Expr) (h:nodeR x n=0) (hr:∀a∈x.args,RightE n a):RightE n x
theorem RightE.node {n:Int}{x:Expr}(h:RightE n x):nodeR x n=0:=by cases h;assumption
theorem RightE.args {n:Int}{x:Expr}(h:RightE n x):∀a∈x.args,RightE n a:=by cases h;assumption
mutual
def evalE:Expr->List Bool->Bool
 | ⟨op,ix,args⟩,vs=>if op=0 then ix==1 else if op=1 then vs.getD ix.toNat false else if op=2 then (evalL args vs).all (·==false) else if op=3 then (evalL args vs).all (·==true) else !(evalL args vs).all (·==false)
def evalL:List Expr->List Bool->List Bool
 | [],_=>[]
 | x::xs,vs=>evalE x vs::evalL xs vs
end
theorem evalE_eq (x:Expr) (vs:List Bool):evalE x vs=if x.op=0 then x.index==1 else if x.op=1 then vs.getD x.index.toNat false else if x.op=2 then (evalL x.args vs).all (·==false) else if x.op=3 then (evalL x.args vs).all (·==true) else !(evalL x.args vs).all (·==false):=by
 cases x;simp[evalE]
def allS (b:Bool) (_:Unit) (v:Bool):Except Unit Unit:=if v=b then .ok () else .error ()
theorem allS_eq (b:Bool):∀vs:List Bool,vs.foldlM (allS b) ()=if vs.all (·==b) then .ok () else .error ()
 | []=>by simp[pure,Except.pure]
 | v::vs=>by
  simp only[List.foldlM_cons,allS]
  by_cases h:v=b
  ·simp[h,bind,Except.bind,allS_eq b vs]
  ·simp[h,bind,Except.bind]
theorem all_call {f:FuncId}{first caps:List A}{items:List Bool}(b:Bool) (hit:IterS Tryz.prog f first caps items fun v=>[.dat (.bool v)]):CallFn Tryz.prog 307 [.fn f first caps,.rptr [.bool b]] (.dat (.bool (items.all (·==b)))):=by
 refine callFn_of Tryz.func307 rfl Tryz.ntmps307 (rs:=[.cell 3 4]) rfl (by kernel_rfl) (by simp) (by kernel_rfl) ?_
 simp
 intro b1
 refine V.rangeFold 100 (by simp) trivial hit (fun _:Unit=>[(3,.box b1 [.dat (.bool false)])]) (fun _:Unit=>[(3,.box b1 [.dat (.bool false)])]) (fun _=>none) (allS b) (fun _=>True) () trivial (fun _ _ _ _ _=>trivial) (subP.refl _) (by simp) ?_ ?_
 ·rintro l ⟨⟩ v _ hp
  simp
  by_cases hv:v=b
  ·simp[allS,hv,subP.refl]
  ·simp[allS,hv,jX,subP.refl]
 ·intro o ho
  rw[allS_eq]at ho
  cases o with
  | ok s => 
   cases ha:items.all (·==b) with
   | true=>simp[ha]
   | false=>rw[ha]at ho;simp at ho
  | error e=>
   cases ha:items.all (·==b) with
   | true=>rw[ha]at ho;simp at ho
   | false=>simp[jX,ha]
theorem none_call {f:FuncId}{first caps:List A}{items:List Bool}(hit:IterS Tryz.prog f first caps items fun v=>[.dat (.bool v)]):CallFn Tryz.prog 284 [.fn f first caps] (.dat (.bool (!items.all (·==false)))):=by
 refine callFn_of Tryz.func284 rfl Tryz.ntmps284 (rs:=[.tmp 2]) rfl (by kernel_rfl) (by simp) (by kernel_rfl) ?_
 simp
 refine (every_fn false).s ?_
 simp
 refine (all_call false hit).s ?_
 simp
theorem evalL_drop {args:List Expr}{vs:List Bool}{i:Nat}{y:Expr}(h:args[i]?=some y):evalL (args.drop i) vs=evalE y vs::evalL (args.drop (i+1)) vs:=by
 obtain⟨hlt,hy⟩:=List.getElem?_eq_some_iff.1 h
 rw[List.drop_eq_getElem_cons hlt,hy,evalL]
theorem evalL_mem {vs:List Bool}{y:Expr}:∀ {args:List Expr},y∈args->evalE y vs∈evalL args vs
 | [],h=>by simp at h
 | z::l,h=>by
  rw[evalL]
  rcases List.mem_cons.1 h with rfl | h
  ·simp
  ·exact List.mem_cons_of_mem _ (evalL_mem h)
theorem eval_iter (x:Expr) (hx:OkE x) (vs:List Bool) (ih:∀a∈x.args,CallFn Tryz.prog 172 [aE a,aBs vs] (.dat (.bool (evalE a vs)))) :
  IterS Tryz.prog 238 [] [.rptr [.int .i64 x.op,.int .i64 x.index,.sl (x.args.map encE)],.rptr [.sl (vs.map encB)]] (evalL x.args vs) fun v=>[.dat (.bool v)]:=by
 intro σ δ l Hc Hd step s hy
 refine CallS.rt (k:=1000) (CallS.dropP (callS_of Tryz.func238 rfl Tryz.ntmps238 (rs:=[]) rfl (by kernel_rfl) (by simp) (by kernel_rfl) (K:=fun _ H'=>match (evalL x.args vs).foldlM step s with
    | .ok s'=>subP (rt 1000 (Hc s')) H'
    | .error e=>subP (rt 1000 (Hd e)) H') ?_) ?_)
 ·simp
  refine V.for' [0,1,2,7,8] (fun p=>[(9,.dat (.int .i64 (p.1:Nat)))]) (fun p=>rt 1000 (Hc p.2))
   (fun p:Nat×σ=>p.1<=x.args.length∧(evalL (x.args.drop p.1) vs).foldlM step p.2=(evalL x.args vs).foldlM step s) (fun p=>x.args.length-p.1) (0,s) ⟨by simp,by simp,subP.refl _⟩ ?_
  rintro⟨i,s2⟩ ⟨hi,hinv⟩
  simp only at hi hinv
  have hlen:=hx.len
  by_cases hlt:i<x.args.length
  ·obtain⟨y,hy1⟩:∃y,x.args[i]'hlt=y:=⟨_,rfl⟩
   have hy0:x.args[i]?=some y:=by rw[List.getElem?_eq_getElem hlt,hy1]
   have hmem:y∈x.args:=List.mem_of_getElem? hy0
   rw[evalL_drop hy0,List.foldlM_cons]at hinv
   simp[hlt,hy1,encE_eq,Nat.not_le.2 hlt]
   intro b
   refine (ih y hmem).s ?_
   simp
   refine (hy s2 (evalE y vs) (evalL_mem hmem)).rt.c1.mono ?_
   rintro r H' ⟨_,⟨H1,rfl,hk⟩,rfl⟩
   simp only[yK]at hk
   cases hst:step s2 (evalE y vs) with
   | error e=>
    rw[hst]at hk hinv
    obtain⟨rfl,rfl⟩:=hk
    simp only[bind,Except.bind]at hinv
    simp[<- hinv]
    exact (subP.refl _).c _
   | ok s3=>
    rw[hst]at hk hinv
    obtain⟨rfl,rfl⟩:=hk
    simp only[bind,Except.bind]at hinv
    simp
    exact⟨by omega,i+1,s3,⟨hlt,hinv⟩,by omega,by simp,(subP.refl _).c _⟩
  ·have hie:i=x.args.length:=by omega
   subst hie
   simp
   rw[<- hinv]
   simp[evalL,pure,Except.pure]
   exact subP.refl _
 ·intro r H' hk
  cases hf:(evalL x.args vs).foldlM step s with
  | error e=>
   rw[hf]at hk
   exact⟨_,hk,_,rfl,rfl⟩
  | ok s3=>
   rw[hf]at hk
   exact⟨_,hk,_,rfl,rfl⟩
theorem eval_fn:∀(N:Nat) (x:Expr),SizeOf.sizeOf x<N->OkE x->∀vs:List Bool,vs.length<=256->RightE vs.length x->CallFn Tryz.prog 172 [aE x,aBs vs] (.dat (.bool (evalE x vs)))
 | 0,_,h,_,_,_,_=>absurd h (Nat.not_lt_zero _)
 | N+1,x,hN,hx,vs,hv,hr=>by
  have ih:∀a∈x.args,CallFn Tryz.prog 172 [aE a,aBs vs] (.dat (.bool (evalE a vs))):=fun a ha=>eval_fn N a (by have:=Expr.lt_of_mem ha;omega) (hx.args a ha) vs hv (hr.args a ha)
  have hit:IterS Tryz.prog 238 [] [.rptr [.int .i64 x.op,.int .i64 x.index,.sl (x.args.map encE)],.rptr [.sl (vs.map encB)]] (evalL x.args vs) fun v=>[.dat (.bool v)]:=eval_iter x hx vs ih
  have hn:=hr.node
  have hop:0<=x.op∧x.op<5:=by
   unfold nodeR at hn
   split at hn<;>omega
  refine callFn_of Tryz.func172 rfl Tryz.ntmps172 (rs:=[.tmp 4]) rfl (by kernel_rfl) (by simp) (by kernel_rfl) ?_
  obtain ho | ho | ho | ho | ho:x.op=0∨x.op=1∨x.op=2∨x.op=3∨x.op=4:=by omega
  ·simp[ho,evalE_eq x]
  ·have hix:0<=x.index∧x.index<vs.length:=by
    simp[nodeR,ho]at hn
    omega
   obtain⟨k,hk⟩:∃k:Nat,x.index=k:=⟨x.index.toNat,by omega⟩
   rw[hk]at hix
   have hkl:k<vs.length:=by omega
   simp[ho,hk,hkl,evalE_eq x]
  ·have e:evalE x vs=(evalL x.args vs).all (·==false):=by rw[evalE_eq,if_neg (by omega),if_neg (by omega),if_pos ho]
   simp[ho]
   refine V.draw (fun s=>if s=19 then some (.fn (.agg shapesA)) else if s=25 then some (.fn (.dat (.bool (evalE x vs)))) else none) (by kernel_rfl) (by kernel_rfl) (by simp) ?_
   simp[ho,reads,Region.binds]
   rw[ho]at hit
   exact⟨shapes_fn,by rw[e];exact all_call false hit⟩
  ·have e:evalE x vs=(evalL x.args vs).all (·==true):=by rw[evalE_eq,if_neg (by omega),if_neg (by omega),if_neg (by omega),if_pos ho]
   simp[ho]
   refine V.draw (fun s=>if s=19 then some (.fn (.agg shapesA)) else if s=25 then some (.fn (.dat (.bool (evalE x vs)))) else none) (by kernel_rfl) (by kernel_rfl) (by simp) ?_
   simp[ho,reads,Region.binds]
   rw[ho]at hit
   exact⟨shapes_fn,by rw[e];exact all_call true hit⟩
  ·have e:evalE x vs = !(evalL x.args vs).all (·==false):=by rw[evalE_eq,if_neg (by omega),if_neg (by omega),if_neg (by omega),if_neg (by omega)]
   simp[ho]
   refine V.draw (fun s=>if s=19 then some (.fn (.agg shapesA)) else if s=25 then some (.fn (.dat (.bool (evalE x vs)))) else none) (by kernel_rfl) (by kernel_rfl) (by simp) ?_
   simp[ho,reads,Region.binds]
   rw[ho]at hit
   exact⟨shapes_fn,by rw[e];exact none_call hit⟩
theorem fold_ok {σ δ ι:Type}{step:σ->ι->Except δ σ}:∀ {items:List ι}{s s':σ},items.foldlM step s=.ok s'->∀p∈items,∃s1 s2,step s1 p=.ok s2
 | [],_,_,_,p,hp=>by simp at hp
 | q::r,s,s',h,p,hp=>by
  rw[List.foldlM_cons]at h
  cases hs:step s q with
  | error e=>rw[hs]at h;simp[bind,Except.bind]at h
  | ok s1=>
   rw[hs]at h
   rcases List.mem_cons.1 hp with rfl | hp
   ·exact⟨s,s1,hs⟩
   ·exact fold_ok (s:=s1) (s':=s') h p hp
theorem preL_mem {y:Expr}{d:Int}{p:Int×Expr}(hp:p∈preE y d):∀ {l:List Expr},y∈l->p∈preL l d
 | [],h=>by simp at h
 | z::l,h=>by
  simp only[preL,List.mem_append]
  rcases List.mem_cons.1 h with rfl | h
  ·exact .inl hp
  ·exact .inr (preL_mem hp h)
theorem right_of {n:Int}:∀(N:Nat) (x:Expr),SizeOf.sizeOf x<N->∀d:Int,(∀p∈preE x d,p.1<=16)->(∀p∈preE x d,nodeR p.2 n=0)->RightE n x
 | 0,_,h,_,_,_=>absurd h (Nat.not_lt_zero _)
 | N+1,x,hN,d,h1,h2=>by
  have hd:d<=16:=h1 (d,x) (by rw[preE_eq];simp)
  refine .mk x (h2 (d,x) (by rw[preE_eq];simp)) fun a ha=>?_
  have hsub:∀p∈preE a (d+1),p∈preE x d:=fun p hp=>by
   rw[preE_eq,if_pos hd]
   exact List.mem_cons_of_mem _ (preL_mem hp ha)
  exact right_of N a (by have:=Expr.lt_of_mem ha;omega) (d+1) (fun p hp=>h1 p (hsub p hp)) fun p hp=>h2 p (hsub p hp)
theorem right_of_check {x:Expr}{n:Int}(h:checkE x n=0):RightE n x∧0<=n∧n<=256:=by
 unfold checkE at h
 split at h
 ·simp at h
 ·rename_i hn
  split at h
  ·simp at h
  ·rename_i s hm
   split at h
   ·rename_i u hf
    refine⟨right_of (SizeOf.sizeOf x+1) x (by omega) 1 (fun p hp=>?_) fun p hp=>?_,by omega,by omega⟩
    ·obtain⟨s1,s2,h1⟩:=fold_ok hm p hp
     unfold measS at h1
     split at h1
     ·cases h1
     ·omega
    ·obtain⟨s1,s2,h1⟩:=fold_ok hf p hp
     unfold nodeS at h1
     split at h1
     ·cases h1
     ·rename_i h2;simpa using h2
   ·rename_i e hf
    -- an error is never 0
    have:∀(l:List (Int×Expr)),l.foldlM (nodeS n) ()=.error e->e≠0:=by
     intro l
     induction l with
     | nil=>intro h;simp[pure,Except.pure]at h
     | cons p l ih=>
      intro h
      rw[List.foldlM_cons]at h
      by_cases hz:nodeR p.2 n=0
      ·simp only[nodeS,hz,ne_eq,not_true_eq_false,if_false]at h
       exact ih h
      ·simp only[nodeS,hz,ne_eq,not_false_eq_true,if_true]at h
       injection h with h
       rw[<- h];exact hz
    exact absurd h (this _ hf)
theorem evalx_fn (x:Expr) (hx:OkE x) (vs:List Bool) (hv:vs.length<=9223372036854775807):CallFn Tryz.prog 110 [aE x,aBs vs] (.tuple (if checkE x vs.length=0 then [.dat (.bool (evalE x vs)),.dat (.int .i64 0)] else [.dat (.bool false),.dat (.int .i64 (checkE x vs.length))])):=by
 refine callFn_of Tryz.func110 rfl Tryz.ntmps110 (rs:=[.tmp 4,.tmp 5]) rfl (by kernel_rfl) (by simp) (by kernel_rfl) ?_
 simp
 refine (check_fn x hx vs.length).s ?_
 simp
 by_cases hc:checkE x vs.length=0
 ·obtain⟨h1,h2,h3⟩:=right_of_check hc
  simp[hc]
  refine (eval_fn (SizeOf.sizeOf x+1) x (by omega) hx vs (by omega) h1).s ?_
  simp[hc]
 ·simp[hc]
mutual
def cntE:Expr->Int->Int
 | ⟨_,_,args⟩,m=>cntL args m 1
def cntL:List Expr->Int->Int->Int
 | [],_,n=>n
 | x::xs,m,n=>if n<=m then cntL xs m (n+cntE x (m-n)) else n
end
theorem cntE_eq (x:Expr) (m:Int):cntE x m=cntL x.args m 1:=by cases x;simp[cntE]
theorem cnt_le:∀(N:Nat) (x:Expr),SizeOf.sizeOf x<N->∀m:Int,0<=m->1<=cntE x m∧cntE x m<=m+1
 | 0,_,h,_,_=>absurd h (Nat.not_lt_zero _)
 | N+1,x,hN,m,hm=>by
  rw[cntE_eq]
  have:∀l:List Expr,(∀y∈l,y∈x.args)->∀n:Int,1<=n->n<=m+1->1<=cntL l m n∧cntL l m n<=m+1:=by
   intro l
   induction l with
   | nil=>intro _ n h1 h2;simp[cntL];omega
   | cons y l ih=>
    intro hl n h1 h2
    rw[cntL]
    split
    ·rename_i hle
     have hy:=cnt_le N y (by have:=Expr.lt_of_mem (hl y (by simp));omega) (m-n) (by omega)
     exact ih (fun z hz=>hl z (by simp[hz])) _ (by omega) (by omega)
    ·exact⟨h1,h2⟩
  exact this x.args (fun _ h=>h) 1 (by omega) (by omega)
theorem count_fn:∀(N:Nat) (x:Expr),SizeOf.sizeOf x<N->OkE x->∀m:Int,0<=m->m<=100000->CallFn Tryz.prog 278 [aE x,.dat (.int .i64 m)] (.dat (.int .i64 (cntE x m)))
 | 0,_,h,_,_,_,_=>absurd h (Nat.not_lt_zero _)
 | N+1,x,hN,hx,m,h0,h1=>by
  refine callFn_of Tryz.func278 rfl Tryz.ntmps278 (rs:=[.tmp 4]) rfl (by kernel_rfl) (by simp) (by kernel_rfl) ?_
  simp
  refine V.for [1,2] (fun p:Nat×Int=>[(6,.dat (.int .i64 (p.1:Nat))),(5,.dat (.int .i64 p.2))]) (fun _=>[])
   (fun p=>p.1<=x.args.length∧1<=p.2∧p.2<=m+1∧cntL (x.args.drop p.1) m p.2=cntE x m) (fun p=>x.args.length-p.1) (0,1) ⟨by simp[cntE_eq];omega,by simp,by simp⟩ ?_
  rintro⟨i,n⟩ ⟨hi,hn1,hn2,hinv⟩
  simp only at hi hn1 hn2 hinv
  have hlen:=hx.len
  by_cases hlt:i<x.args.length
  ·obtain⟨y,hy1⟩:∃y,x.args[i]'hlt=y:=⟨_,rfl⟩
   have hy0:x.args[i]?=some y:=by rw[List.getElem?_eq_getElem hlt,hy1]
   have hmem:y∈x.args:=List.mem_of_getElem? hy0
   rw[List.drop_eq_getElem_cons hlt,hy1,cntL]at hinv
   by_cases hnm:n<=m
   ·rw[if_pos hnm]at hinv
    have hle:=cnt_le N y (by have:=Expr.lt_of_mem hmem;omega) (m-n) (by omega)
    simp[hlt,hy1,hnm,encE_eq]
    refine⟨by omega,?_⟩
    refine (count_fn N y (by have:=Expr.lt_of_mem hmem;omega) (hx.args y hmem) (m-n) (by omega) (by omega)).s ?_
    simp
    exact⟨by omega,by omega,i+1,n+cntE y (m-n),⟨by omega,by omega,by omega,hinv⟩,by omega,by simp,rfl⟩
   ·rw[if_neg hnm]at hinv
    simp[hlt,hnm,hinv]
    intro h
    exact absurd h (by omega)
  ·have hie:i=x.args.length:=by omega
   subst hie
   simp[cntL]at hinv
   simp[hinv]
mutual
def deepE:Expr->Int->Bool
 | ⟨_,_,args⟩,m=>if m<1 then false else if m=1 then args.length==0 else deepL args (m-1)
def deepL:List Expr->Int->Bool
 | [],_=>true
 | x::xs,m=>deepE x m&&deepL xs m
end
theorem deepE_eq (x:Expr) (m:Int):deepE x m=if m<1 then false else if m=1 then x.args.length==0 else deepL x.args (m-1):=by cases x;simp[deepE]
theorem deep_fn:∀(N:Nat) (x:Expr),SizeOf.sizeOf x<N->OkE x->∀m:Int,-100000<=m->m<=100000->CallFn Tryz.prog 279 [aE x,.dat (.int .i64 m)] (.dat (.bool (deepE x m)))
 | 0,_,h,_,_,_,_=>absurd h (Nat.not_lt_zero _)
 | N+1,x,hN,hx,m,h0,h1=>by
  refine callFn_of Tryz.func279 rfl Tryz.ntmps279 (rs:=[.tmp 4]) rfl (by kernel_rfl) (by simp) (by kernel_rfl) ?_
  by_cases hm1:m<1
  ·simp[hm1,deepE_eq x]
  by_cases hm2:m=1
  ·subst hm2
   simp[deepE_eq x]
   cases x.args<;>simp
   omega
  have e:deepE x m=deepL x.args (m-1):=by rw[deepE_eq,if_neg hm1,if_neg hm2]
  simp[hm1,hm2]
  refine V.for [1,2] (fun i:Nat=>[(5,.dat (.int .i64 (i:Nat)))]) (fun _=>[])
   (fun i=>i<=x.args.length∧deepL (x.args.drop i) (m-1)=deepE x m) (fun i=>x.args.length-i) 0 ⟨by simp[e],by simp,by simp⟩ ?_
  rintro i ⟨hi,hinv⟩
  have hlen:=hx.len
  by_cases hlt:i<x.args.length
  ·obtain⟨y,hy1⟩:∃y,x.args[i]'hlt=y:=⟨_,rfl⟩
   have hy0:x.args[i]?=some y:=by rw[List.getElem?_eq_getElem hlt,hy1]
   have hmem:y∈x.args:=List.mem_of_getElem? hy0
   rw[List.drop_eq_getElem_cons hlt,hy1,deepL]at hinv
   simp[hlt,hy1,encE_eq]
   refine⟨by omega,?_⟩
   refine (deep_fn N y (by have:=Expr.lt_of_mem hmem;omega) (hx.args y hmem) (m-1) (by omega) (by omega)).s ?_
   simp
   cases hd:deepE y (m-1) with
   | false=>simp[hd]at hinv;simp[hinv]
   | true=>
    simp[hd]at hinv
    simp
    exact⟨by omega,i+1,⟨hlt,hinv⟩,by omega,by simp⟩
  ·have hie:i=x.args.length:=by omega
   subst hie
   simp[deepL]at hinv
   simp[<- hinv]
def lightE (x:Expr):Bool:=decide (cntE x 256<=256)&&deepE x 16
theorem light_fn (x:Expr) (hx:OkE x):CallFn Tryz.prog 231 [aE x] (.dat (.bool (lightE x))):=by
 refine callFn_of Tryz.func231 rfl Tryz.ntmps231 (rs:=[.tmp 2]) rfl (by kernel_rfl) (by simp) (by kernel_rfl) ?_
 simp
 refine (count_fn (SizeOf.sizeOf x+1) x (by omega) hx 256 (by omega) (by omega)).s ?_
 simp
 refine GCall.fn (.dat (.bool (deepE x 16))) (fun h=>⟨by first | trivial | exact h,deep_fn (SizeOf.sizeOf x+1) x (by omega) hx 16 (by omega) (by omega)⟩) ?_
 by_cases h:cntE x 256<=256
 ·simp[h,lightE]
 ·simp[h,lightE]
def nodeT (x:Expr) (n:Int):Int:=
 if x.op<0∨x.op>=5 then 1
 else
  let k:Int:=x.args.length
  if (x.op<=1∧k≠0)∨(x.op=2∧k≠1)∨(x.op>=3∧k<2) then 3
  else
   let most:=if x.op=0 then 2 else if x.op=1 then n else 1
   if x.index<0∨x.index>=most then 2 else 0
theorem nodeT_fn (x:Expr) (n:Int):CallFn Tryz.prog 280 [aE x,.dat (.int .i64 n)] (.dat (.int .i64 (nodeT x n))):=by
 refine callFn_of Tryz.func280 rfl Tryz.ntmps280 (rs:=[.tmp 4]) rfl (by kernel_rfl) (by simp) (by kernel_rfl) ?_
 by_cases hop:x.op<0∨x.op>=5
 ·simp[nodeT,hop]
  omega
 ·obtain ho | ho | ho | ho | ho:x.op=0∨x.op=1∨x.op=2∨x.op=3∨x.op=4:=by omega
  all_goals
   simp[ho,reads]
   and_intros<;>intros<;>simp only[nodeT,ho]<;>(cases hk:x.args<;>simp_all<;>omega)
mutual
def nodesE:Expr->Int->Int
 | ⟨op,ix,args⟩,n=>if nodeT ⟨op,ix,args⟩ n≠0 then nodeT ⟨op,ix,args⟩ n else nodesL args n
def nodesL:List Expr->Int->Int
 | [],_=>0
 | x::xs,n=>if nodesE x n≠0 then nodesE x n else nodesL xs n
end
theorem nodesE_eq (x:Expr) (n:Int):nodesE x n=if nodeT x n≠0 then nodeT x n else nodesL x.args n:=by cases x;simp[nodesE]
theorem nodes_fn:∀(N:Nat) (x:Expr),SizeOf.sizeOf x<N->OkE x->∀n:Int,CallFn Tryz.prog 232 [aE x,.dat (.int .i64 n)] (.dat (.int .i64 (nodesE x n)))
 | 0,_,h,_,_=>absurd h (Nat.not_lt_zero _)
 | N+1,x,hN,hx,n=>by
  refine callFn_of Tryz.func232 rfl Tryz.ntmps232 (rs:=[.tmp 4]) rfl (by kernel_rfl) (by simp) (by kernel_rfl) ?_
  simp
  refine (nodeT_fn x n).s ?_
  by_cases hz:nodeT x n=0
  ·have e:nodesE x n=nodesL x.args n:=by rw[nodesE_eq,if_neg (by simp[hz])]
   simp[hz]
   refine V.for [1,2] (fun i:Nat=>[(6,.dat (.int .i64 (i:Nat)))]) (fun _=>[])
    (fun i=>i<=x.args.length∧nodesL (x.args.drop i) n=nodesE x n) (fun i=>x.args.length-i) 0 ⟨by simp[e],by simp,by simp⟩ ?_
   rintro i ⟨hi,hinv⟩
   have hlen:=hx.len
   by_cases hlt:i<x.args.length
   ·obtain⟨y,hy1⟩:∃y,x.args[i]'hlt=y:=⟨_,rfl⟩
    have hy0:x.args[i]?=some y:=by rw[List.getElem?_eq_getElem hlt,hy1]
    have hmem:y∈x.args:=List.mem_of_getElem? hy0
    rw[List.drop_eq_getElem_cons hlt,hy1,nodesL]at hinv
    simp[hlt,hy1,encE_eq]
    refine (nodes_fn N y (by have:=Expr.lt_of_mem hmem;omega) (hx.args y hmem) n).s ?_
    by_cases hd:nodesE y n=0
    ·simp[hd]at hinv
     simp[hd]
     exact⟨by omega,i+1,⟨hlt,hinv⟩,by omega,by simp⟩
    ·simp[hd]at hinv
     rw[<- hinv]
     simp[hd]
   ·have hie:i=x.args.length:=by omega
    subst hie
    simp[nodesL]at hinv
    simp[<- hinv]
  ·have e:nodesE x n=nodeT x n:=by rw[nodesE_eq,if_pos hz]
   rw[e]
   simp[hz]
def refCheckE (x:Expr) (n:Int):Int:=if n<0∨n>256 then 2 else if lightE x=false then 5 else nodesE x n
theorem refCheck_fn (x:Expr) (hx:OkE x) (n:Int):CallFn Tryz.prog 165 [aE x,.dat (.int .i64 n)] (.dat (.int .i64 (refCheckE x n))):=by
 refine callFn_of Tryz.func165 rfl Tryz.ntmps165 (rs:=[.tmp 4]) rfl (by kernel_rfl) (by simp) (by kernel_rfl) ?_
 simp
 refine⟨fun h=>by simp[refCheckE,h],fun h0 h1=>?_⟩
 refine (light_fn x hx).s ?_
 cases hl:lightE x with
 | false=>simp[refCheckE,hl,Int.not_lt.2 h0,Int.not_lt.2 h1]
 | true=>
  simp
  refine (nodes_fn (SizeOf.sizeOf x+1) x (by omega) hx n).s ?_
  simp[refCheckE,hl,Int.not_lt.2 h0,Int.not_lt.2 h1]
def firstC (c:Control):Int:=2*c.actuators+c.inputs.length
def countC (c:Control):Int:=2*c.actuators+c.inputs.length+c.signals.length
theorem first_fn (c:Control) (h:Sm c):CallFn Tryz.prog 111 [aC c] (aI (firstC c)):=by
 obtain⟨h1,h2,h3⟩:=h
 refine callFz_of Tryz.func111 rfl Tryz.ntmps111 (rs:=[.tmp 2]) rfl (by kernel_rfl) (by simp) (by kernel_rfl) ?_
 simp[firstC]
 omega
theorem signals_fn (c:Control) (h:Sm c):CallFn Tryz.prog 164 [aC c] (aI (firstC c)):=by
 obtain⟨h1,h2,h3⟩:=h
 refine callFz_of Tryz.func164 rfl Tryz.ntmps164 (rs:=[.tmp 2]) rfl (by kernel_rfl) (by simp) (by kernel_rfl) ?_
 simp[firstC]
 omega
theorem lines_fn (c:Control) (h:Sm c):CallFn Tryz.prog 166 [aC c] (aI (countC c)):=by
 obtain⟨h1,h2,h3⟩:=h
 refine callFz_of Tryz.func166 rfl Tryz.ntmps166 (rs:=[.tmp 2]) rfl (by kernel_rfl) (by simp) (by kernel_rfl) ?_
 simp[countC]
 omega
theorem count_c (c:Control) (h:Sm c):CallFn Tryz.prog 107 [aC c] (aI (countC c)):=by
 refine callFz_of Tryz.func107 rfl Tryz.ntmps107 (rs:=[.tmp 2]) rfl (by kernel_rfl) (by simp) (by kernel_rfl) ?_
 simp
 refine V.draw (fun s=>if s=4 then some (.fn (aI (firstC c))) else none) (by kernel_rfl) (by kernel_rfl) (by simp) ?_
 have:=first_fn c h
 obtain⟨h1,h2,h3⟩:=h
 simp[reads,firstC,countC]
 simp[firstC]at this
 exact⟨this,by omega,by omega⟩
def zeroE (x:Expr):Bool:=x.op==0&&x.index==0&&(x.args.length:Int)==0
theorem zero_fn (x:Expr):CallFn Tryz.prog 261 [aE x] (aB (zeroE x)):=by
 refine callFz_of Tryz.func261 rfl Tryz.ntmps261 (rs:=[.tmp 2]) rfl (by kernel_rfl) (by simp) (by kernel_rfl) ?_
 simp[reads,zeroE]
theorem zeroR_fn (x:Expr):CallFn Tryz.prog 168 [aE x] (aB (zeroE x)):=by
 refine callFz_of Tryz.func168 rfl Tryz.ntmps168 (rs:=[.tmp 2]) rfl (by kernel_rfl) (by simp) (by kernel_rfl) ?_
 simp[reads,zeroE]
def lineName (k:Int):List UInt8:=encU (97+k.tdiv 2)++encU (48+k.tmod 2)
def namedC (c:Control) (k:Int):List UInt8:=
 if k<2*c.actuators then lineName k
 else if k<firstC c then c.inputs.getD (k-2*c.actuators).toNat []
 else ((c.signals[(k-firstC c).toNat]?).map (·.name)).getD []
theorem encU_ascii {n:Int}(h0:0<=n) (h1:n<128):encU n=[UInt8.ofNat n.toNat]:=by
 have hv:Utf8.valid n=true:=by simp[Utf8.valid];omega
 simp only[encU,Utf8.encode,hv,if_true]
 rw[if_pos (by omega)]
theorem named_sig {c:Control}{k:Int}{s:Signal}(h0:firstC c<=k) (ha:2*c.actuators<=firstC c) (hs:c.signals[(k-firstC c).toNat]?=some s):namedC c k=s.name:=by
 unfold namedC
 rw[if_neg (by omega),if_neg (by omega),hs]
 rfl
theorem named_inp {c:Control}{k:Int}{s:List UInt8}(h0:2*c.actuators<=k) (h1:k<firstC c) (hs:c.inputs[(k-2*c.actuators).toNat]?=some s):namedC c k=s:=by
 unfold namedC
 rw[if_neg (by omega),if_pos h1,List.getD_eq_getElem?_getD,hs]
 rfl
theorem getI {α:Type}{l:List α}{k:Int}(h0:0<=k) (h1:k<l.length):∃y,l[k.toNat]?=some y:=⟨_,List.getElem?_eq_getElem (by omega)⟩
theorem named_fn (c:Control) (h:Sm c) (ha:0<=c.actuators∧c.actuators<=6) (k:Int) (h0:0<=k) (h1:k<countC c):CallFn Tryz.prog 214 [aC c,aI k] (aT (namedC c k)):=by
 have hs:=h
 obtain⟨g1,g2,g3⟩:=h
 have hf:firstC c=2*c.actuators+c.inputs.length:=rfl
 have hcn:countC c=2*c.actuators+c.inputs.length+c.signals.length:=rfl
 refine callFz_of Tryz.func214 rfl Tryz.ntmps214 (rs:=[.tmp 4]) rfl (by kernel_rfl) (by simp) (by kernel_rfl) ?_
 simp
 refine (first_fn c hs).s ?_
 by_cases hk1:k<2*c.actuators
 ·simp[hk1]
  have ed:k.tdiv 2=k / 2:=Int.tdiv_eq_ediv_of_nonneg h0
  have em:k.tmod 2=k % 2:=Int.tmod_eq_emod_of_nonneg h0
  have e1:=encU_ascii (n:=97+k.tdiv 2) (by omega) (by omega)
  have e2:=encU_ascii (n:=48+k.tmod 2) (by omega) (by omega)
  rw[show namedC c k=encU (97+k.tdiv 2)++encU (48+k.tmod 2) by unfold namedC;rw[if_pos hk1];rfl,e1,e2]
  simp
  omega
 ·by_cases hk2:k<firstC c
  ·obtain⟨y,hy⟩:=getI (l:=c.inputs) (k:=k-2*c.actuators) (by omega) (by omega)
   rw[named_inp (by omega) hk2 hy]
   simp[hk1,hk2,hy]
   omega
  ·obtain⟨y,hy⟩:=getI (l:=c.signals) (k:=k-firstC c) (by omega) (by omega)
   rw[named_sig (by omega) (by omega) hy]
   simp[hk1,hk2,hy]
   omega
theorem NamedR_fn (c:Control) (h:Sm c) (ha:0<=c.actuators∧c.actuators<=6) (k:Int) (h0:0<=k) (h1:k<countC c):CallFn Tryz.prog 162 [aC c,aI k] (aT (namedC c k)):=by
 have hs:=h
 obtain⟨g1,g2,g3⟩:=h
 have hf:firstC c=2*c.actuators+c.inputs.length:=rfl
 have hcn:countC c=2*c.actuators+c.inputs.length+c.signals.length:=rfl
 refine callFz_of Tryz.func162 rfl Tryz.ntmps162 (rs:=[.tmp 4]) rfl (by kernel_rfl) (by simp) (by kernel_rfl) ?_
 by_cases hk1:k<2*c.actuators
 ·simp[hk1]
  refine⟨by omega,V.draw (fun _=>none) (by kernel_rfl) (by kernel_rfl) (by simp) ?_⟩
  have ed:k.tdiv 2=k / 2:=Int.tdiv_eq_ediv_of_nonneg h0
  have em:k.tmod 2=k % 2:=Int.tmod_eq_emod_of_nonneg h0
  have e1:=encU_ascii (n:=97+k.tdiv 2) (by omega) (by omega)
  have e2:=encU_ascii (n:=48+k.tmod 2) (by omega) (by omega)
  rw[show namedC c k=encU (97+k.tdiv 2)++encU (48+k.tmod 2) by unfold namedC;rw[if_pos hk1];rfl,e1,e2]
  simp[reads]
  obtain hk | hk | hk | hk | hk | hk | hk | hk | hk | hk | hk | hk:k=0∨k=1∨k=2∨k=3∨k=4∨k=5∨k=6∨k=7∨k=8∨k=9∨k=10∨k=11:=by omega
  all_goals (subst hk;simp)<;>omega
 ·simp[hk1]
  refine⟨by omega,(signals_fn c hs).s ?_⟩
  by_cases hk2:k<firstC c
  ·obtain⟨y,hy⟩:=getI (l:=c.inputs) (k:=k-2*c.actuators) (by omega) (by omega)
   rw[named_inp (by omega) hk2 hy]
   simp[hk2,hy]
   omega
  ·obtain⟨y,hy⟩:=getI (l:=c.signals) (k:=k-firstC c) (by omega) (by omega)
   rw[named_sig (by omega) (by omega) hy]
   simp[hk2]
   refine V.draw (fun s=>if s=40 then some (.fn (aI (firstC c))) else none) (by kernel_rfl) (by kernel_rfl) (by simp) ?_
   simp[reads,hy]
   exact⟨signals_fn c hs,by omega⟩
def partB (b:UInt8):Bool:=(97<=b.toNat&&b.toNat<=122)||(65<=b.toNat&&b.toNat<=90)||(48<=b.toNat&&b.toNat<=57)||b.toNat==95
def partI (b:Int):Bool:=(decide (97<=b)&&decide (b<=122))||(decide (65<=b)&&decide (b<=90))||(decide (48<=b)&&decide (b<=57))||b==95
theorem part_fn (b:Int) (h0:0<=b) (h1:b<=255):CallFn Tryz.prog 264 [.dat (.int .u8 b)] (aB (partI b)):=by
 refine callFz_of Tryz.func264 rfl Tryz.ntmps264 (rs:=[.tmp 2]) rfl (by kernel_rfl) (by simp) (by kernel_rfl) ?_
 simp[reads,partI]
 omega
theorem take_eq {α:Type}{xs ys:List α}{i:Nat}{x y:α}(h:xs.take i=ys.take i) (hx:xs[i]?=some x) (hy:ys[i]?=some y) (e:x=y):xs.take (i+1)=ys.take (i+1):=by
 rw[List.take_add_one,List.take_add_one,h,hx,hy,e]
theorem ne_of_get {α:Type}{xs ys:List α}{i:Nat}{x y:α}(hx:xs[i]?=some x) (hy:ys[i]?=some y) (e:x≠y):xs≠ys:=by
 rintro rfl;rw[hx]at hy;exact e (Option.some.inj hy)
def NoF {α:Type}(p:α->Bool) (xs:List α):Prop:=∀y∈xs,p y=false
@[simp] theorem NoF_nil {α:Type}(p:α->Bool):NoF p []=True:=by simp[NoF]
theorem findIdx_step {α:Type}{p:α->Bool}{xs:List α}{i:Nat}{x:α}(h:NoF p (xs.take i)) (hx:xs[i]?=some x):(p x=false->NoF p (xs.take (i+1)))∧(p x=true->xs.findIdx? p=some i):=by
 obtain⟨hi,rfl⟩:=List.getElem?_eq_some_iff.1 hx
 constructor
 ·intro e y hy
  rw[List.take_add_one,hx]at hy
  rcases List.mem_append.1 hy with hy | hy
  ·exact h y hy
  ·simp at hy;subst hy;exact e
 ·intro e
  rw[List.findIdx?_eq_some_iff_getElem]
  refine⟨hi,e,fun j hj=>?_⟩
  have:=h xs[j] (List.mem_take_iff_getElem.2 ⟨j,by omega,rfl⟩)
  simp[this]
theorem findIdx_none {α:Type}{p:α->Bool}{xs:List α}(h:NoF p (xs.take xs.length)):xs.findIdx? p=none:=by
 rw[List.take_length]at h
 rw[List.findIdx?_eq_none_iff]
 intro x hx
 simp[h x hx]
def idxI (o:Option Nat):Int:=match o with
 | some i=>i
 | none=>-1
@[simp] theorem idxI_some (i:Nat):idxI (some i)=i:=rfl
@[simp] theorem idxI_none:idxI none = -1:=rfl
theorem idxI_ge (o:Option Nat):decide (0<=idxI o)=o.isSome:=by cases o<;>simp[idxI]<;>omega
theorem eqI_fn (xs ys:List (Int)) (hx:Sh xs) (hy:Sh ys):CallFn Tryz.prog 19 [aIs xs,aIs ys] (aB (decide (xs=ys))):=by
 refine callFz_of Tryz.func19 rfl Tryz.ntmps19 (rs:=[.tmp 4]) rfl (by kernel_rfl) (by simp) (by kernel_rfl) ?_
 by_cases hl:xs.length=ys.length
 ·simp[hl]
  refine V.forI (σ:=Unit) xs.length [0,1,12] (by simp;exact rfl) (fun i _=>[(13,aI i)]) (fun _ _=>[]) (fun i _=>xs.take i=ys.take i) () (by simp) (by simp) ⟨by simp;exact rfl,by simp⟩ ?_ ?_
  ·rintro i-hi hI
   have h1:=List.getElem?_eq_getElem hi
   have h2:=List.getElem?_eq_getElem (show i<ys.length by omega)
   simp[<- hl,hi]
   refine V.draw (fun _=>none) (by kernel_rfl) (by kernel_rfl) (by simp) ?_
   simp[reads,h1,h2,<- hl,hi]
   by_cases e:xs[i]=ys[i]
   ·simp[e]
    exact⟨by omega,take_eq hI h1 h2 e⟩
   ·simp[e]
    exact ne_of_get h1 h2 e
  ·rintro-hI
   rw[List.take_length,hl,List.take_length]at hI
   simp[hl,hI]
 ·have hl':¬(xs.length:Int)=ys.length:=by omega
  simp[hl']
  rintro rfl
  exact hl rfl
theorem eqB_fn (xs ys:List (Bool)) (hx:Sh xs) (hy:Sh ys):CallFn Tryz.prog 44 [aBs xs,aBs ys] (aB (decide (xs=ys))):=by
 refine callFz_of Tryz.func44 rfl Tryz.ntmps44 (rs:=[.tmp 4]) rfl (by kernel_rfl) (by simp) (by kernel_rfl) ?_
 by_cases hl:xs.length=ys.length
 ·simp[hl]
  refine V.forI (σ:=Unit) xs.length [0,1,12] (by simp;exact rfl) (fun i _=>[(13,aI i)]) (fun _ _=>[]) (fun i _=>xs.take i=ys.take i) () (by simp) (by simp) ⟨by simp;exact rfl,by simp⟩ ?_ ?_
  ·rintro i-hi hI
   have h1:=List.getElem?_eq_getElem hi
   have h2:=List.getElem?_eq_getElem (show i<ys.length by omega)
   simp[<- hl,hi]
   refine V.draw (fun _=>none) (by kernel_rfl) (by kernel_rfl) (by simp) ?_
   simp[reads,h1,h2,<- hl,hi]
   by_cases e:xs[i]=ys[i]
   ·simp[e]
    exact⟨by omega,take_eq hI h1 h2 e⟩
   ·simp[e]
    exact ne_of_get h1 h2 e
  ·rintro-hI
   rw[List.take_length,hl,List.take_length]at hI
   simp[hl,hI]
 ·have hl':¬(xs.length:Int)=ys.length:=by omega
  simp[hl']
  rintro rfl
  exact hl rfl
theorem eqT_fn (xs ys:List (List UInt8)) (hx:Sh xs) (hy:Sh ys):CallFn Tryz.prog 41 [aTs xs,aTs ys] (aB (decide (xs=ys))):=by
 refine callFz_of Tryz.func41 rfl Tryz.ntmps41 (rs:=[.tmp 4]) rfl (by kernel_rfl) (by simp) (by kernel_rfl) ?_
 by_cases hl:xs.length=ys.length
 ·simp[hl]
  refine V.forI (σ:=Unit) xs.length [0,1,12] (by simp;exact rfl) (fun i _=>[(13,aI i)]) (fun _ _=>[]) (fun i _=>xs.take i=ys.take i) () (by simp) (by simp) ⟨by simp;exact rfl,by simp⟩ ?_ ?_
  ·rintro i-hi hI
   have h1:=List.getElem?_eq_getElem hi
   have h2:=List.getElem?_eq_getElem (show i<ys.length by omega)
   simp[<- hl,hi]
   refine V.draw (fun _=>none) (by kernel_rfl) (by kernel_rfl) (by simp) ?_
   simp[reads,h1,h2,<- hl,hi]
   by_cases e:xs[i]=ys[i]
   ·simp[e]
    exact⟨by omega,take_eq hI h1 h2 e⟩
   ·simp[e]
    exact ne_of_get h1 h2 e
  ·rintro-hI
   rw[List.take_length,hl,List.take_length]at hI
   simp[hl,hI]
 ·have hl':¬(xs.length:Int)=ys.length:=by omega
  simp[hl']
  rintro rfl
  exact hl rfl
theorem idxF_fn (xs:List Int) (p:Int->Bool) (f:FuncId) (first caps:List A) (hx:Sh xs) (hp:∀n∈xs,CallFn Tryz.prog f (first++[aI n]++caps) (aB (p n))) :
  CallFn Tryz.prog 90 [aIs xs,.fn f first caps] (aI (idxI (xs.findIdx? p))):=by
 refine callFz_of Tryz.func90 rfl Tryz.ntmps90 (rs:=[.tmp 4]) rfl (by kernel_rfl) (by simp) (by kernel_rfl) ?_
 simp
 refine V.forI (σ:=Unit) xs.length [0,1,7] (by simp;exact rfl) (fun i _=>[(8,aI i)]) (fun _ _=>[]) (fun i _=>NoF p (xs.take i)) () (by simp) (by simp) ⟨by simp;exact rfl,by simp⟩ ?_ ?_
 ·rintro i-hi hI
  have h1:=List.getElem?_eq_getElem hi
  have hs:=findIdx_step (p:=p) hI h1
  have hc:=hp xs[i] (List.getElem_mem hi)
  simp at hc
  simp[hi,h1]
  refine hc.s ?_
  cases e:p xs[i]
  ·simp
   exact⟨by omega,hs.1 e⟩
  ·rw[hs.2 e]
   simp
 ·rintro-hI
  rw[findIdx_none hI]
  simp
theorem containsF_fn (xs:List Int) (p:Int->Bool) (f:FuncId) (first caps:List A) (hx:Sh xs) (hp:∀n∈xs,CallFn Tryz.prog f (first++[aI n]++caps) (aB (p n))) :
  CallFn Tryz.prog 47 [aIs xs,.fn f first caps] (aB (xs.any p)):=by
 refine callFz_of Tryz.func47 rfl Tryz.ntmps47 (rs:=[.tmp 4]) rfl (by kernel_rfl) (by simp) (by kernel_rfl) ?_
 simp
 refine (idxF_fn xs p f first caps hx hp).s ?_
 simp
 rw[idxI_ge,List.findIdx?_isSome]
theorem CallS.nilcase {g:FuncId}{xs:List (List L)}{az bz:List A}{H:Heap}{K:A->Heap->Prop}(h1:xs=[]->CallS Tryz.prog g (az++.nils::bz) H K) (h2:CallS Tryz.prog g (az++.nn xs::bz) H K):CallS Tryz.prog g (az++.dat (.sl xs)::bz) H K:=by
 refine⟨h2.1,fun x args H0 hi hd=>?_⟩
 have key:∀ {b:A},(∀v,D x (.dat (.sl xs)) v->D x b v->True)->True:=fun _=>trivial
 have hl:=hd.length
 have hsplit:∃v us ws,args.toList=us++v::ws∧Ds x az us∧D x (.dat (.sl xs)) v∧Ds x bz ws:=by
  have e:=List.take_append_drop az.length args.toList
  have ht:=hd.take az.length
  have hdr:=hd.drop az.length
  simp only[List.take_left,List.drop_left]at ht hdr
  cases hw:args.toList.drop az.length with
  | nil=>rw[hw]at hdr;simp[Ds]at hdr
  | cons v ws=>
   rw[hw]at hdr e
   simp only[Ds]at hdr
   exact⟨v,_,ws,e.symm,ht,hdr.1,hdr.2⟩
 obtain⟨v,us,ws,e,d1,d2,d3⟩:=hsplit
 by_cases hv:v=.slice none 0 0
 ·subst hv
  have hx:xs=[]:=by
   simp only[D,RdL]at d2
   rcases d2 with⟨_,h⟩|⟨b,off,cap,h,_⟩|⟨_,h,_⟩
   ·exact h
   ·cases h
   ·cases h
  refine (h1 hx).2 x args H0 hi ?_
  rw[e]
  exact d1.append (by simp[Ds,D];exact d3)
 ·refine h2.2 x args H0 hi ?_
  rw[e]
  exact d1.append (by simp only[Ds,D];exact⟨⟨by simpa [D]using d2,hv⟩,d3⟩)
theorem cloneI_o (xs:List (Int)) (hx:xs.length<=4294967296):CallOwn Tryz.prog 50 [aIs xs] 3 1 (xs.map rI):=by
 refine CallS.nilcase (az:=[]) (bz:=[]) ?_ ?_
 ·intro hn
  have hn:xs=[]:=by simpa using hn
  subst hn
  refine callO_of Tryz.func50 rfl Tryz.ntmps50 (rs:=[.tmp 2]) rfl (by kernel_rfl) (by simp) (by kernel_rfl) ?_
  simp
 ·refine callO_of Tryz.func50 rfl Tryz.ntmps50 (rs:=[.tmp 2]) rfl (by kernel_rfl) (by simp) (by kernel_rfl) ?_
  simp
  omega
theorem cloneB_o (xs:List (Bool)) (hx:xs.length<=4294967296):CallOwn Tryz.prog 109 [aBs xs] 4 1 (xs.map rB):=by
 refine CallS.nilcase (az:=[]) (bz:=[]) ?_ ?_
 ·intro hn
  have hn:xs=[]:=by simpa using hn
  subst hn
  refine callO_of Tryz.func109 rfl Tryz.ntmps109 (rs:=[.tmp 2]) rfl (by kernel_rfl) (by simp) (by kernel_rfl) ?_
  simp
 ·refine callO_of Tryz.func109 rfl Tryz.ntmps109 (rs:=[.tmp 2]) rfl (by kernel_rfl) (by simp) (by kernel_rfl) ?_
  simp
  omega
theorem idxT_fn (xs:List (List UInt8)) (v:List UInt8) (hx:Sh xs):CallFn Tryz.prog 247 [aTs xs,aT v] (aI (idxI (xs.findIdx? (v==·)))):=by
 refine callFz_of Tryz.func247 rfl Tryz.ntmps247 (rs:=[.tmp 4]) rfl (by kernel_rfl) (by simp) (by kernel_rfl) ?_
 simp
 refine V.forI (σ:=Unit) xs.length [0,1,7] (by simp;exact rfl) (fun i _=>[(8,aI i)]) (fun _ _=>[]) (fun i _=>NoF (v==·) (xs.take i)) () (by simp) (by simp) ⟨by simp;exact rfl,by simp⟩ ?_ ?_
 ·rintro i-hi hI
  have h1:=List.getElem?_eq_getElem hi
  have hs:=findIdx_step (p:=(v==·)) hI h1
  simp[hi,h1]
  cases e:(v==xs[i])
  ·simp at e
   simp[e]
   exact⟨by omega,hs.1 (by simp[e])⟩
  ·have e2:=hs.2 e
   simp at e
   rw[e2]
   simp[e]
 ·rintro-hI
  rw[findIdx_none hI]
  simp
theorem containsT_fn (xs:List (List UInt8)) (v:List UInt8) (hx:Sh xs):CallFn Tryz.prog 184 [aTs xs,aT v] (aB (xs.any (v==·))):=by
 refine callFz_of Tryz.func184 rfl Tryz.ntmps184 (rs:=[.tmp 4]) rfl (by kernel_rfl) (by simp) (by kernel_rfl) ?_
 simp
 refine (idxT_fn xs v hx).s ?_
 simp
 rw[idxI_ge,List.findIdx?_isSome]
theorem hasSuf_fn (q:List UInt8) (x y:UInt8) (hq:q.length<=1000):CallFn Tryz.prog 288 [aT (q++[x]),aT [y]] (aB (x==y)):=by
 refine callFz_of Tryz.func288 rfl Tryz.ntmps288 (rs:=[.tmp 4]) rfl (by kernel_rfl) (by simp) (by kernel_rfl) ?_
 have e1:List.take (q.length+1) (q++[x])=q++[x]:=List.take_of_length_le (by simp)
 have e2:(([x]:List UInt8)==[y])=(x==y):=by simp[Bool.eq_iff_iff]
 simp[e1]
 refine⟨fun _=>by omega,fun _=>by omega⟩
theorem cutSufL_fn (q:List UInt8) (x y:UInt8) (hq:q.length<=1000):CallFn Tryz.prog 244 [aT (q++[x]),aT [y]] (.tuple [aT (if x=y then q else q++[x]),aB (x==y)]):=by
 have h:=hasSuf_fn q x y hq
 refine callFz_of Tryz.func244 rfl Tryz.ntmps244 (rs:=[.tmp 4,.tmp 5]) rfl (by kernel_rfl) (by simp) (by kernel_rfl) ?_
 simp
 refine h.s ?_
 by_cases e:x=y
 ·simp[e]
  omega
 ·simp[e]
theorem cutSuf_fn (q:List UInt8) (x y:UInt8) (hq:q.length<=1000):CallFn Tryz.prog 182 [aT (q++[x]),aT [y]] (.tuple [aT (if x=y then q else q++[x]),aB (x==y)]):=by
 have h:=cutSufL_fn q x y hq
 refine callFz_of Tryz.func182 rfl Tryz.ntmps182 (rs:=[.tmp 4,.tmp 5]) rfl (by kernel_rfl) (by simp) (by kernel_rfl) ?_
 simp
 refine h.s ?_
 simp
def itRen:Go.Shelf.Ren:=⟨fun | 129=>318 | 171=>142 | 243=>206 | 246=>256 | 283=>293 | 284=>294 | 285=>295 | 286=>296 | 317=>320 | 318=>321 | 319=>322 | 320=>323 | 337=>332 | 338=>333 | n=>n,fun | 0=>0 | 2=>2 | 3=>3 | 4=>4 | 5=>5 | 9=>9 | 20=>20 | 37=>359 | 46=>350 | 51=>374 | 53=>356 | 171=>355 | 173=>360 | 212=>376 | 213=>377 | 232=>387 | 233=>388 | n=>n,fun | 17=>2 | 18=>3 | 19=>4 | n=>n⟩
theorem itLays0:Go.Proofs.Lays.n171 Tryz.prog itRen:={ 
 mixed:=by kernel_rfl,
 f129:=by kernel_rfl,
 f171:=by kernel_rfl,
 f243:=by kernel_rfl,
 f246:=by kernel_rfl,
 f283:=by kernel_rfl,
 f284:=by kernel_rfl,
 f285:=by kernel_rfl,
 f286:=by kernel_rfl,
 f317:=by kernel_rfl,
 f318:=by kernel_rfl,
 f319:=by kernel_rfl,
 f320:=by kernel_rfl,
 f337:=by kernel_rfl,
 f338:=by kernel_rfl,
 t0:=Tryz.underlying0,
 a0:=Tryz.isAgg0,
 z0:=Tryz.sizeOf0,
 v0:=Tryz.zeroValue0,
 t2:=Tryz.underlying2,
 a2:=Tryz.isAgg2,
 z2:=Tryz.sizeOf2,
 v2:=Tryz.zeroValue2,
 t3:=Tryz.underlying3,
 a3:=Tryz.isAgg3,
 z3:=Tryz.sizeOf3,
 v3:=Tryz.zeroValue3,
 t4:=Tryz.underlying4,
 a4:=Tryz.isAgg4,
 z4:=Tryz.sizeOf4,
 v4:=Tryz.zeroValue4,
 t5:=Tryz.underlying5,
 a5:=Tryz.isAgg5,
 z5:=Tryz.sizeOf5,
 v5:=Tryz.zeroValue5,
 t9:=Tryz.underlying9,
 a9:=Tryz.isAgg9,
 z9:=Tryz.sizeOf9,
 v9:=Tryz.zeroValue9,
 t20:=Tryz.underlying20,
 a20:=Tryz.isAgg20,
 z20:=Tryz.sizeOf20,
 v20:=Tryz.zeroValue20,
 t37:=Tryz.underlying359,
 a37:=Tryz.isAgg359,
 z37:=Tryz.sizeOf359,
 v37:=Tryz.zeroValue359,
 t46:=Tryz.underlying350,
 a46:=Tryz.isAgg350,
 z46:=Tryz.sizeOf350,
 v46:=Tryz.zeroValue350,
 t51:=Tryz.underlying374,
 a51:=Tryz.isAgg374,
 z51:=Tryz.sizeOf374,
 v51:=Tryz.zeroValue374,
 t53:=Tryz.underlying356,
 a53:=Tryz.isAgg356,
 z53:=Tryz.sizeOf356,
 v53:=Tryz.zeroValue356,
 t171:=Tryz.underlying355,
 a171:=Tryz.isAgg355,
 z171:=Tryz.sizeOf355,
 v171:=Tryz.zeroValue355,
 t173:=Tryz.underlying360,
 a173:=Tryz.isAgg360,
 z173:=Tryz.sizeOf360,
 v173:=Tryz.zeroValue360,
 t212:=Tryz.underlying376,
 a212:=Tryz.isAgg376,
 z212:=Tryz.sizeOf376,
 v212:=Tryz.zeroValue376,
 t213:=Tryz.underlying377,
 a213:=Tryz.isAgg377,
 z213:=Tryz.sizeOf377,
 t232:=Tryz.underlying387,
 a232:=Tryz.isAgg387,
 z232:=Tryz.sizeOf387,
 v232:=Tryz.zeroValue387,
 t233:=Tryz.underlying388,
 a233:=Tryz.isAgg388,
 z233:=Tryz.sizeOf388,
 v233:=Tryz.zeroValue388,
 g17:=by kernel_rfl,
 g18:=by kernel_rfl,
 g19:=by kernel_rfl }
theorem itLays:Go.Proofs.LaysM.n171 Tryz.prog itRen:={ itLays0 with 
 i0:=by kernel_rfl,
 i2:=by kernel_rfl,
 i3:=by kernel_rfl,
 i4:=by kernel_rfl,
 i5:=by kernel_rfl,
 i9:=by kernel_rfl,
 i20:=by kernel_rfl,
 i37:=by kernel_rfl,
 i46:=by kernel_rfl,
 i51:=by kernel_rfl,
 i53:=by kernel_rfl,
 i171:=by kernel_rfl,
 i173:=by kernel_rfl,
 i212:=by kernel_rfl,
 i232:=by kernel_rfl,
 i233:=by kernel_rfl,
 m17:=by kernel_rfl,
 m18:=by kernel_rfl,
 m19:=by kernel_rfl }
def scRen:Go.Shelf.Ren:=⟨fun | 106=>188 | 213=>251 | 265=>291 | n=>n,fun | 3=>3 | 9=>9 | n=>n,fun n=>n⟩
theorem scLays:Go.Proofs.Lays.n106 Tryz.prog scRen:={ 
 mixed:=by kernel_rfl,
 f106:=by kernel_rfl,
 f213:=by kernel_rfl,
 f265:=by kernel_rfl,
 t3:=Tryz.underlying3,
 a3:=Tryz.isAgg3,
 z3:=Tryz.sizeOf3,
 v3:=Tryz.zeroValue3,
 t9:=Tryz.underlying9,
 a9:=Tryz.isAgg9,
 z9:=Tryz.sizeOf9,
 v9:=Tryz.zeroValue9 }
theorem Compare_fnT (a b:List UInt8):CallFn Tryz.prog 188 [.dat (.str a),.dat (.str b)] (aI (Go.Lib.compareBytes a b)):=by
 refine⟨⟨_,Tryz.func188,by kernel_rfl,by kernel_rfl⟩,fun x args H0 hi hd=>?_⟩
 obtain⟨u,v,e,hu,hv⟩:=Ds.two hd
 simp only[D,RdL]at hu hv
 subst hu hv
 have ha:args=#[.string ⟨a.toArray⟩,.string ⟨b.toArray⟩]:=by
  rcases args with⟨l⟩
  simp only at e
  rw[e]
 subst ha
 refine (Any.strings_Compare scLays ⟨a.toArray⟩ ⟨b.toArray⟩ x.w).mono ?_
 rintro _ _ ⟨rfl,rfl⟩
 refine⟨x,_,_,[],rfl,rfl,.refl x,by simpa using hi,?_,rfl,rfl⟩
 simp only[D,RdL]
theorem cmpOr_fn (a b:Int):CallFn Tryz.prog 186 [aIs [a,b]] (aI (if a≠0 then a else b)):=by
 refine callFz_of Tryz.func186 rfl Tryz.ntmps186 (rs:=[.tmp 2]) rfl (by kernel_rfl) (by simp) (by kernel_rfl) ?_
 simp
 refine V.forI (σ:=Unit) 2 [3,6,7] (by simp;exact rfl) (fun i _=>[(2,aI 0),(8,aI i)]) (fun _ _=>[]) (fun i _=>(1<=i->a=0)∧(2<=i->b=0)) () (by simp) (by simp) ⟨by simp;exact rfl,by simp⟩ ?_ ?_
 ·rintro i-hi ⟨h1,h2⟩
  have hc:i=0∨i=1:=by omega
  rcases hc with rfl | rfl
  ·simp
   by_cases h:a=0<;>simp[h]
  ·have:=h1 (by omega)
   simp
   by_cases h:b=0<;>simp[h,this]
 ·rintro-⟨h1,h2⟩
  have:=h1 (by omega)
  have:=h2 (by omega)
  simp[*]
theorem nanI_fn (n:Int):CallFn Tryz.prog 250 [aI n] (aB false):=by
 refine callFz_of Tryz.func250 rfl Tryz.ntmps250 (rs:=[.tmp 2]) rfl (by kernel_rfl) (by simp) (by kernel_rfl) ?_
 simp
def cmpI (a b:Int):Int:=if a<b then -1 else if b<a then 1 else 0
theorem cmpI_fn (a b:Int):CallFn Tryz.prog 187 [aI a,aI b] (aI (cmpI a b)):=by
 have n1:=nanI_fn a
 have n2:=nanI_fn b
 refine callFz_of Tryz.func187 rfl Tryz.ntmps187 (rs:=[.tmp 4]) rfl (by kernel_rfl) (by simp) (by kernel_rfl) ?_
 simp
 refine n1.s ?_
 simp
 refine n2.s ?_
 simp
 unfold cmpI
 by_cases h:a<b
 ·simp[h]
  omega
 ·by_cases h2:b<a<;>simp[h,h2]
def ibRen:Go.Shelf.Ren:=⟨fun | 137=>141 | 217=>205 | 266=>255 | n=>n,fun | 3=>3 | 5=>5 | 9=>9 | n=>n,fun n=>n⟩
theorem ibLays:Go.Proofs.Lays.n137 Tryz.prog ibRen:={ 
 mixed:=by kernel_rfl,
 f137:=by kernel_rfl,
 f217:=by kernel_rfl,
 f266:=by kernel_rfl,
 t3:=Tryz.underlying3,
 a3:=Tryz.isAgg3,
 z3:=Tryz.sizeOf3,
 v3:=Tryz.zeroValue3,
 t5:=Tryz.underlying5,
 a5:=Tryz.isAgg5,
 z5:=Tryz.sizeOf5,
 v5:=Tryz.zeroValue5,
 t9:=Tryz.underlying9,
 a9:=Tryz.isAgg9,
 z9:=Tryz.sizeOf9,
 v9:=Tryz.zeroValue9 }
end Go.Proofs.YtpadinblmjlggaaGreatDoor
