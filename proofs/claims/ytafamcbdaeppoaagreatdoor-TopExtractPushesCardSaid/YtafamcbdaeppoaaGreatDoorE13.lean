/- Texts joined by a program: Ca,Cb,Cc,Cd,Ce,Cf,Da,La,Jea,Sk,Hoa. -/
import Derived.Shelf.Strconv.Itoa3
import Derived.Shelf.Small.Strs
import Derived.Test.YtafamcbdaeppoaaGreatDoorProg
import Derived.KernelRfl
import Derived.Lib.Bytealg
import Derived.Test.YtafamcbdaeppoaaGreatDoorE10
import Derived.Test.YtafamcbdaeppoaaGreatDoorE12
set_option linter.unusedSimpArgs false
set_option linter.unusedVariables false
set_option maxHeartbeats 8000000
set_option maxRecDepth 100000
namespace Go.Proofs.YtafamcbdaeppoaaGreatDoor
theorem visit_call {σ δ:Type}{l:Nat}{Hc:σ->Heap}{Hd:δ->Heap}{step:σ->Int×Expr->Except δ σ}{b2 b3:Nat}:∀(N:Nat) (x:Expr),SizeOf.sizeOf x<N->OkE x->∀(d:Int),1<=d->d<=17->∀(s:σ),
  (∀s p,p∈preE x d->CallY Tryz.prog l [.dat (.int .i64 p.1),aE p.2] (Hc s) (yK Hc Hd (step s p))) ->
  CallS Tryz.prog 335 [aE x,.dat (.int .i64 d),.ptr 2 b2 0,.ptr 3 b3 0] ((3,.box b3 [.fn 335 [] [.ptr 2 b2 0,.ptr 3 b3 0]])::(2,.box b2 [.yld l])::rt 1000 (Hc s))
   fun r H'=>match (preE x d).foldlM step s with
    | .ok s'=>r=.dat (.bool true)∧H'=(3,.box b3 [.fn 335 [] [.ptr 2 b2 0,.ptr 3 b3 0]])::(2,.box b2 [.yld l])::rt 1000 (Hc s')
    | .error e=>r=.dat (.bool false)∧H'=(3,.box b3 [.fn 335 [] [.ptr 2 b2 0,.ptr 3 b3 0]])::(2,.box b2 [.yld l])::rt 1000 (Hd e)
 | 0,_,h,_,_,_,_,_,_=>absurd h (Nat.not_lt_zero _)
 | N+1,x,hN,hx,d,hd1,hd2,s,hy=>by
  refine CallS.dropP (callS_of Tryz.func335 rfl Tryz.ntmps335 (rs:=[.tmp 6]) rfl (by kernel_rfl) (by simp) (by kernel_rfl) (K:=fun r H'=>match (preE x d).foldlM step s with
    | .ok s'=>r=.dat (.bool true)∧subP ((3,.box b3 [.fn 335 [] [.ptr 2 b2 0,.ptr 3 b3 0]])::(2,.box b2 [.yld l])::rt 1000 (Hc s')) H'
    | .error e=>r=.dat (.bool false)∧subP ((3,.box b3 [.fn 335 [] [.ptr 2 b2 0,.ptr 3 b3 0]])::(2,.box b2 [.yld l])::rt 1000 (Hd e)) H') ?_) ?_
  ·simp
   refine ((hy s (d,x) (by rw[preE_eq];simp)).rt.c1.c1).mono ?_
   rintro r H' ⟨_,⟨_,⟨H1,rfl,hk⟩,rfl⟩,rfl⟩
   simp only[yK]at hk
   rw[preE_eq,List.foldlM_cons]
   cases hst:step s (d,x) with
   | error e=>
    rw[hst]at hk
    obtain⟨rfl,rfl⟩:=hk
    simp[bind,Except.bind,subP.refl]
   | ok s1=>
    rw[hst]at hk
    obtain⟨rfl,rfl⟩:=hk
    simp only[bind,Except.bind]
    simp
    refine V.for' [1,3,15,16] (fun p=>[(17,.dat (.int .i64 (p.1:Nat)))]) (fun p=>(3,.box b3 [.fn 335 [] [.ptr 2 b2 0,.ptr 3 b3 0]])::(2,.box b2 [.yld l])::rt 1000 (Hc p.2))
     (fun p:Nat×σ=>p.1<=x.args.length∧(if d<=16 then preL (x.args.drop p.1) (d+1) else []).foldlM step p.2=(if d<=16 then preL x.args (d+1) else []).foldlM step s1) (fun p=>x.args.length-p.1) (0,s1) ⟨by simp,by simp,subP.refl _⟩ ?_
    rintro⟨i,s2⟩ ⟨hi,hinv⟩
    simp only at hi hinv
    have hlen:=hx.len
    have hadv:∀ {y:Expr}{rest:List Expr},x.args.drop i=y::rest->d<=16->(preE y (d+1)++preL rest (d+1)).foldlM step s2=(preL x.args (d+1)).foldlM step s1:=by
     intro y rest h hd
     rw[h]at hinv
     simpa [hd,preL]using hinv
    by_cases hlt:i<x.args.length
    ·obtain⟨y,hy1⟩:∃y,x.args[i]'hlt=y:=⟨_,rfl⟩
     have hy0:x.args[i]?=some y:=by rw[List.getElem?_eq_getElem hlt,hy1]
     have hmem:y∈x.args:=List.mem_of_getElem? hy0
     have hdrop:x.args.drop i=y::x.args.drop (i+1):=by
      rw[List.drop_eq_getElem_cons hlt]
      rw[hy1]
     simp[hlt,hy1,encE_eq,reads,Nat.not_le.2 hlt]
     intro b
     refine⟨by omega,?_⟩
     refine GCall.ways (fun hd=>⟨hd,?_⟩) (fun hd=>⟨.dat (.bool true),?_⟩)
     ·have hsub:∀p∈preE y (d+1),p∈preE x d:=by
       intro p hp
       rw[preE_eq,if_pos hd]
       refine List.mem_cons_of_mem _ ?_
       have:∀(l:List Expr),y∈l->p∈preL l (d+1):=by
        intro l
        induction l with
        | nil=>simp
        | cons z l ih=>
         intro hz
         simp only[preL,List.mem_append]
         rcases List.mem_cons.1 hz with rfl | hz
         ·exact .inl hp
         ·exact .inr (ih hz)
       exact this _ hmem
      have ih:=visit_call (Hc:=Hc) (Hd:=Hd) (step:=step) (b2:=b2) (b3:=b3) (l:=l) N y (by have:=Expr.lt_of_mem hmem;omega) (hx.args y hmem) (d+1) (by omega) (by omega) s2 (fun s p hp=>hy s p (hsub p hp))
      refine ih.c1.mono ?_
      rintro r H' ⟨H2,hk,rfl⟩
      have hA:=hadv hdrop hd
      rw[List.foldlM_append]at hA
      cases hf:(preE y (d+1)).foldlM step s2 with
      | error e=>
       rw[hf]at hk hA
       obtain⟨rfl,rfl⟩:=hk
       simp only[bind,Except.bind]at hA
       simp[hd,<- hA]
       exact (subP.refl _).c _
      | ok s3=>
       rw[hf]at hk hA
       obtain⟨rfl,rfl⟩:=hk
       simp only[bind,Except.bind]at hA
       simp[hd]
       exact⟨by omega,i+1,s3,⟨hlt,hA⟩,by omega,by simp,(subP.refl _).c _⟩
     ·simp[hd]
      refine⟨by omega,i+1,s2,⟨hlt,?_⟩,by omega,by simp,(subP.refl _).c _⟩
      simpa [hd]using hinv
    ·have hie:i=x.args.length:=by omega
     subst hie
     simp
     have hinv':Except.ok s2=(if d<=16 then preL x.args (d+1) else []).foldlM step s1:=by
      rw[<- hinv]
      split<;>simp[preL,pure,Except.pure]
     rw[<- hinv']
     exact subP.refl _
  ·intro r H' hk
   cases hf:(preE x d).foldlM step s with
   | error e=>
    rw[hf]at hk
    exact⟨_,hk.2,hk.1,rfl⟩
   | ok s3=>
    rw[hf]at hk
    exact⟨_,hk.2,hk.1,rfl⟩
theorem preorder_call {σ δ:Type}{l:Nat}{Hc:σ->Heap}{Hd:δ->Heap}{step:σ->Int×Expr->Except δ σ}{x:Expr}(hx:OkE x) (s:σ)
  (hy:∀s p,p∈preE x 1->CallY Tryz.prog l [.dat (.int .i64 p.1),aE p.2] (Hc s) (yK Hc Hd (step s p))) :
  CallS Tryz.prog 334 [.yld l,.rptr [.int .i64 x.op,.int .i64 x.index,.sl (x.args.map encE)]] (Hc s) fun _ H'=>match (preE x 1).foldlM step s with
    | .ok s'=>H'=Hc s'
    | .error e=>H'=Hd e:=by
 refine CallS.rt (k:=1000) (CallS.dropP (callS_of Tryz.func334 rfl Tryz.ntmps334 (rs:=[]) rfl (by kernel_rfl) (by simp) (by kernel_rfl) (K:=fun _ H'=>match (preE x 1).foldlM step s with
    | .ok s'=>subP (rt 1000 (Hc s')) H'
    | .error e=>subP (rt 1000 (Hd e)) H') ?_) ?_)
 ·simp
  intro b2 b3
  refine (visit_call (SizeOf.sizeOf x+1) x (by omega) hx 1 (by omega) (by omega) s hy).mono ?_
  intro r H' hk
  cases hf:(preE x 1).foldlM step s with
  | error e=>
   rw[hf]at hk
   obtain⟨_,rfl⟩:=hk
   simp
   exact ((subP.refl _).c _).c _
  | ok s3=>
   rw[hf]at hk
   obtain⟨_,rfl⟩:=hk
   simp
   exact ((subP.refl _).c _).c _
 ·intro r H' hk
  cases hf:(preE x 1).foldlM step s with
  | error e=>
   rw[hf]at hk
   exact⟨_,hk,_,rfl,rfl⟩
  | ok s3=>
   rw[hf]at hk
   exact⟨_,hk,_,rfl,rfl⟩
theorem preorder_fn (x:Expr):CallFn Tryz.prog 264 [aE x] (.fn 334 [] [.rptr [.int .i64 x.op,.int .i64 x.index,.sl (x.args.map encE)]]):=by
 refine callFn_of Tryz.func264 rfl Tryz.ntmps264 (rs:=[.tmp 2]) rfl (by kernel_rfl) (by simp) (by kernel_rfl) ?_
 simp
theorem preorder_iter (x:Expr) (hx:OkE x):IterS Tryz.prog 334 [] [.rptr [.int .i64 x.op,.int .i64 x.index,.sl (x.args.map encE)]] (preE x 1) fun p=>[.dat (.int .i64 p.1),aE p.2]:=
 fun _ _ _ _ s hy=>preorder_call hx s hy
def measS (s:Int×Int) (p:Int×Expr):Except Unit (Int×Int):=if s.1+1>256∨p.1>16 then .error () else .ok (s.1+1,max s.2 p.1)
def meas (x:Expr):Except Unit (Int×Int):=(preE x 1).foldlM measS (0,0)
theorem measure_fn (x:Expr) (hx:OkE x):CallFn Tryz.prog 263 [aE x] (.tuple (match meas x with
  | .ok (n,d)=>[.dat (.int .i64 n),.dat (.int .i64 d),.dat (.bool true)]
  | .error _=>[.dat (.int .i64 0),.dat (.int .i64 0),.dat (.bool false)])):=by
 refine callFn_of Tryz.func263 rfl Tryz.ntmps263 (rs:=[.cell 2 3,.cell 3 3,.cell 4 4]) rfl (by kernel_rfl) (by simp) (by kernel_rfl) ?_
 simp
 intro b1 b2 b3 b4 b5
 refine (preorder_fn x).s ?_
 refine V.rangeFold (items:=preE x 1) (enc:=fun p=>[.dat (.int .i64 p.1),aE p.2]) 100 (by simp) trivial (preorder_iter x hx)
  (fun s:Int×Int=>[(6,.box b5 [.dat (.int .i64 s.2)]),(5,.box b4 [.dat (.int .i64 s.1)]),(4,.box b3 [.dat (.bool false)]),(3,.box b2 [.dat (.int .i64 0)]),(2,.box b1 [.dat (.int .i64 0)])])
  (fun _:Unit=>[(4,.box b3 [.dat (.bool false)]),(3,.box b2 [.dat (.int .i64 0)]),(2,.box b1 [.dat (.int .i64 0)])])
  (fun _=>none) measS (fun s=>0<=s.1∧s.1<=256) (0,0) (by simp) ?_ (subP.refl _) (by simp) ?_ ?_
 ·rintro⟨n,m⟩ p s' ⟨h1,h2⟩ h
  simp only[measS]at h
  split at h
  ·cases h
  ·simp only[Except.ok.injEq]at h
   subst h
   simp only at *
   omega
 ·rintro l ⟨n,m⟩ ⟨d,y⟩ ⟨h1,h2⟩ hp
  simp only at h1 h2
  have hmax:(if m<d then d else m)=max m d:=by split<;>omega
  simp[hmax]
  refine⟨by omega,?_,?_⟩
  ·intro h
   simp only[measS]
   rw[if_pos (by simp only[gt_iff_lt];exact h)]
   exact⟨rfl,((subP.refl _).c _).c _⟩
  ·intro h h'
   simp only[measS]
   rw[if_neg (by simp only[gt_iff_lt];omega)]
   exact subP.refl _
 ·intro o ho
  cases o with
  | error e=>simp[meas,ho,jX]
  | ok s=>
   obtain⟨n,m⟩:=s
   simp[meas,ho]
   refine V.draw (fun _=>none) (by kernel_rfl) (by kernel_rfl) (by simp) ?_
   simp[meas,ho]
theorem every_fn (b:Bool):CallFn Tryz.prog 336 [.dat (.bool b)] (.fn 371 [] [.rptr [.bool b]]):=by
 refine callFn_of Tryz.func336 rfl Tryz.ntmps336 (rs:=[.tmp 2]) rfl (by kernel_rfl) (by simp) (by kernel_rfl) ?_
 simp
abbrev shapesA:List A:=[.dat (.int .i64 0),.dat (.int .i64 0),.nilf,.dat (.int .i64 0),.dat (.int .i64 0),.nilf,.dat (.int .i64 1),.dat (.int .i64 1),.fn 371 [] [.rptr [.bool false]],
 .dat (.int .i64 2),.dat (.int .i64 256),.fn 371 [] [.rptr [.bool true]],.dat (.int .i64 2),.dat (.int .i64 256),.fn 337 [] []]
theorem shapes_fn:CallFn Tryz.prog 266 [] (.agg shapesA):=by
 refine callFn_of Tryz.func266 rfl Tryz.ntmps266 (rs:=[.cell 0 339]) rfl (by kernel_rfl) (by simp) (by kernel_rfl) ?_
 simp
 intro b
 refine (every_fn false).s ?_
 simp
 refine (every_fn true).s ?_
 simp
def nodeR (x:Expr) (n:Int):Int:=
 if x.op<0∨x.op>=5 then 1
 else
  let k:Int:=x.args.length
  let lm:Int×Int:=if x.op<=1 then (0,0) else if x.op=2 then (1,1) else (2,256)
  if k<lm.1∨k>lm.2 then 3
  else
   let most:=if x.op=0 then 1 else if x.op=1 then n-1 else 0
   if x.index<0∨x.index>most then 2 else 0
theorem node_fn (x:Expr) (hx:OkE x) (n:Int) (hn:0<=n∧n<=256):CallFn Tryz.prog 265 [aE x,.dat (.int .i64 n)] (.dat (.int .i64 (nodeR x n))):=by
 refine callFn_of Tryz.func265 rfl Tryz.ntmps265 (rs:=[.tmp 4]) rfl (by kernel_rfl) (by simp) (by kernel_rfl) ?_
 simp
 refine⟨fun h=>by simp[nodeR,h],fun h0 h5=>?_⟩
 have h:=hx.len
 obtain ho | ho | ho | ho | ho:x.op=0∨x.op=1∨x.op=2∨x.op=3∨x.op=4:=by omega
 all_goals
  refine V.draw (fun s=>if s=15 then some (.fn (.agg shapesA)) else none) (by kernel_rfl) (by kernel_rfl) (by simp) ?_
  simp[ho,reads,Region.binds]
  refine⟨shapes_fn,?_⟩
  and_intros<;>intros<;>simp only[nodeR,ho]<;>(cases hk:x.args<;>simp_all<;>omega)
def nodeS (n:Int) (_:Unit) (p:Int×Expr):Except Int Unit:=if nodeR p.2 n≠0 then .error (nodeR p.2 n) else .ok ()
def checkE (x:Expr) (n:Int):Int:=
 if n<0∨n>256 then 2
 else match meas x with
  | .error _=>5
  | .ok _=>match (preE x 1).foldlM (nodeS n) () with
   | .ok _=>0
   | .error e=>e
theorem preE_ok:∀(N:Nat) (x:Expr),SizeOf.sizeOf x<N->OkE x->∀(d:Int),∀p∈preE x d,OkE p.2
 | 0,_,h,_,_,_,_=>absurd h (Nat.not_lt_zero _)
 | N+1,x,hN,hx,d,p,hp=>by
  rw[preE_eq]at hp
  rcases List.mem_cons.1 hp with rfl | hp
  ·exact hx
  ·split at hp
   ·have:∀l:List Expr,(∀y∈l,y∈x.args)->p∈preL l (d+1)->OkE p.2:=by
     intro l
     induction l with
     | nil=>intro _ h;simp[preL]at h
     | cons y l ih=>
      intro hl h
      simp only[preL,List.mem_append]at h
      rcases h with h | h
      ·have hm:=hl y (by simp)
       exact preE_ok N y (by have:=Expr.lt_of_mem hm;omega) (hx.args y hm) (d+1) p h
      ·exact ih (fun y hy=>hl y (by simp[hy])) h
    exact this x.args (fun _ h=>h) hp
   ·simp at hp
theorem check_fn (x:Expr) (hx:OkE x) (n:Int):CallFn Tryz.prog 177 [aE x,.dat (.int .i64 n)] (.dat (.int .i64 (checkE x n))):=by
 refine callFn_of Tryz.func177 rfl Tryz.ntmps177 (rs:=[.cell 4 36]) rfl (by kernel_rfl) (by simp) (by kernel_rfl) ?_
 simp
 intro b
 refine⟨fun h=>by simp[checkE,h],fun h0 h1=>?_⟩
 refine (measure_fn x hx).s ?_
 cases hm:meas x with
 | error e=>simp[checkE,hm,Int.not_lt.2 h0,Int.not_lt.2 h1]
 | ok s=>
  obtain⟨k,d⟩:=s
  simp
  refine (preorder_fn x).s ?_
  refine V.rangeFold (items:=preE x 1) (enc:=fun p=>[.dat (.int .i64 p.1),aE p.2]) 100 (by simp) trivial (preorder_iter x hx)
   (fun _:Unit=>[(4,.box b [.dat (.int .i64 0)])]) (fun e:Int=>[(4,.box b [.dat (.int .i64 e)])]) (fun _=>none) (nodeS n) (fun _=>True) () trivial (fun _ _ _ _ _=>trivial) (subP.refl _) (by simp) ?_ ?_
  ·rintro l ⟨⟩ ⟨d,y⟩ _ hp
   simp
   intro b1
   refine (node_fn y (preE_ok (SizeOf.sizeOf x+1) x (by omega) hx 1 _ hp) n ⟨h0,h1⟩).s ?_
   simp
   by_cases hz:nodeR y n=0
   ·simp[nodeS,hz]
    exact (subP.refl _).c _
   ·simp[nodeS,hz,jX]
    exact (subP.refl _).c _
  ·intro o ho
   cases o with
   | error e=>simp[checkE,hm,ho,jX,Int.not_lt.2 h0,Int.not_lt.2 h1]
   | ok s=>simp[checkE,hm,ho,jX,Int.not_lt.2 h0,Int.not_lt.2 h1]
inductive RightE (n:Int):Expr->Prop
 | mk (x:Expr) (h:nodeR x n=0) (hr:∀a∈x.args,RightE n a):RightE n x
theorem RightE.node {n:Int}{x:Expr}(h:RightE n x):nodeR x n=0:=by cases h;assumption
theorem RightE.args {n:Int}{x:Expr}(h:RightE n x):∀a∈x.args,RightE n a:=by cases h;assumption
mutual
def evalE:Expr->List Bool->Bool
 | ⟨op,ix,args⟩,vs=>if op=0 then ix==1 else if op=1 then vs.getD ix.toNat false else if op=2 then (evalL args vs).all (·==false) else if op=3 then (evalL args vs).all (·==true) else !(evalL args vs).all (·==false)
def evalL:List Expr->List Bool->List Bool
 | [],_=>[]
 | x::xs,vs=>evalE x vs::evalL xs vs
end
theorem evalE_eq (x:Expr) (vs:List Bool):evalE x vs=if x.op=0 then x.index==1 else if x.op=1 then vs.getD x.index.toNat false else if x.op=2 then (evalL x.args vs).all (·==false) else if x.op=3 then (evalL x.args vs).all (·==true) else !(evalL x.args vs).all (·==false):=by
 cases x;simp[evalE]
theorem fold_ok {σ δ ι:Type}{step:σ->ι->Except δ σ}:∀ {items:List ι}{s s':σ},items.foldlM step s=.ok s'->∀p∈items,∃s1 s2,step s1 p=.ok s2
 | [],_,_,_,p,hp=>by simp at hp
 | q::r,s,s',h,p,hp=>by
  rw[List.foldlM_cons]at h
  cases hs:step s q with
  | error e=>rw[hs]at h;simp[bind,Except.bind]at h
  | ok s1=>
   rw[hs]at h
   rcases List.mem_cons.1 hp with rfl | hp
   ·exact⟨s,s1,hs⟩
   ·exact fold_ok (s:=s1) (s':=s') h p hp
theorem preL_mem {y:Expr}{d:Int}{p:Int×Expr}(hp:p∈preE y d):∀ {l:List Expr},y∈l->p∈preL l d
 | [],h=>by simp at h
 | z::l,h=>by
  simp only[preL,List.mem_append]
  rcases List.mem_cons.1 h with rfl | h
  ·exact .inl hp
  ·exact .inr (preL_mem hp h)
theorem right_of {n:Int}:∀(N:Nat) (x:Expr),SizeOf.sizeOf x<N->∀d:Int,(∀p∈preE x d,p.1<=16)->(∀p∈preE x d,nodeR p.2 n=0)->RightE n x
 | 0,_,h,_,_,_=>absurd h (Nat.not_lt_zero _)
 | N+1,x,hN,d,h1,h2=>by
  have hd:d<=16:=h1 (d,x) (by rw[preE_eq];simp)
  refine .mk x (h2 (d,x) (by rw[preE_eq];simp)) fun a ha=>?_
  have hsub:∀p∈preE a (d+1),p∈preE x d:=fun p hp=>by
   rw[preE_eq,if_pos hd]
   exact List.mem_cons_of_mem _ (preL_mem hp ha)
  exact right_of N a (by have:=Expr.lt_of_mem ha;omega) (d+1) (fun p hp=>h1 p (hsub p hp)) fun p hp=>h2 p (hsub p hp)
theorem right_of_check {x:Expr}{n:Int}(h:checkE x n=0):RightE n x∧0<=n∧n<=256:=by
 unfold checkE at h
 split at h
 ·simp at h
 ·rename_i hn
  split at h
  ·simp at h
  ·rename_i s hm
   split at h
   ·rename_i u hf
    refine⟨right_of (SizeOf.sizeOf x+1) x (by omega) 1 (fun p hp=>?_) fun p hp=>?_,by omega,by omega⟩
    ·obtain⟨s1,s2,h1⟩:=fold_ok hm p hp
     unfold measS at h1
     split at h1
     ·cases h1
     ·omega
    ·obtain⟨s1,s2,h1⟩:=fold_ok hf p hp
     unfold nodeS at h1
     split at h1
     ·cases h1
     ·rename_i h2;simpa using h2
   ·rename_i e hf
    -- an error is never 0
    have:∀(l:List (Int×Expr)),l.foldlM (nodeS n) ()=.error e->e≠0:=by
     intro l
     induction l with
     | nil=>intro h;simp[pure,Except.pure]at h
     | cons p l ih=>
      intro h
      rw[List.foldlM_cons]at h
      by_cases hz:nodeR p.2 n=0
      ·simp only[nodeS,hz,ne_eq,not_true_eq_false,if_false]at h
       exact ih h
      ·simp only[nodeS,hz,ne_eq,not_false_eq_true,if_true]at h
       injection h with h
       rw[<- h];exact hz
    exact absurd h (this _ hf)
mutual
def cntE:Expr->Int->Int
 | ⟨_,_,args⟩,m=>cntL args m 1
def cntL:List Expr->Int->Int->Int
 | [],_,n=>n
 | x::xs,m,n=>if n<=m then cntL xs m (n+cntE x (m-n)) else n
end
theorem cntE_eq (x:Expr) (m:Int):cntE x m=cntL x.args m 1:=by cases x;simp[cntE]
theorem cnt_le:∀(N:Nat) (x:Expr),SizeOf.sizeOf x<N->∀m:Int,0<=m->1<=cntE x m∧cntE x m<=m+1
 | 0,_,h,_,_=>absurd h (Nat.not_lt_zero _)
 | N+1,x,hN,m,hm=>by
  rw[cntE_eq]
  have:∀l:List Expr,(∀y∈l,y∈x.args)->∀n:Int,1<=n->n<=m+1->1<=cntL l m n∧cntL l m n<=m+1:=by
   intro l
   induction l with
   | nil=>intro _ n h1 h2;simp[cntL];omega
   | cons y l ih=>
    intro hl n h1 h2
    rw[cntL]
    split
    ·rename_i hle
     have hy:=cnt_le N y (by have:=Expr.lt_of_mem (hl y (by simp));omega) (m-n) (by omega)
     exact ih (fun z hz=>hl z (by simp[hz])) _ (by omega) (by omega)
    ·exact⟨h1,h2⟩
  exact this x.args (fun _ h=>h) 1 (by omega) (by omega)
theorem count_fn:∀(N:Nat) (x:Expr),SizeOf.sizeOf x<N->OkE x->∀m:Int,0<=m->m<=100000->CallFn Tryz.prog 159 [aE x,.dat (.int .i64 m)] (.dat (.int .i64 (cntE x m)))
 | 0,_,h,_,_,_,_=>absurd h (Nat.not_lt_zero _)
 | N+1,x,hN,hx,m,h0,h1=>by
  refine callFn_of Tryz.func159 rfl Tryz.ntmps159 (rs:=[.tmp 4]) rfl (by kernel_rfl) (by simp) (by kernel_rfl) ?_
  simp
  refine V.for [1,2] (fun p:Nat×Int=>[(6,.dat (.int .i64 (p.1:Nat))),(5,.dat (.int .i64 p.2))]) (fun _=>[])
   (fun p=>p.1<=x.args.length∧1<=p.2∧p.2<=m+1∧cntL (x.args.drop p.1) m p.2=cntE x m) (fun p=>x.args.length-p.1) (0,1) ⟨by simp[cntE_eq];omega,by simp,by simp⟩ ?_
  rintro⟨i,n⟩ ⟨hi,hn1,hn2,hinv⟩
  simp only at hi hn1 hn2 hinv
  have hlen:=hx.len
  by_cases hlt:i<x.args.length
  ·obtain⟨y,hy1⟩:∃y,x.args[i]'hlt=y:=⟨_,rfl⟩
   have hy0:x.args[i]?=some y:=by rw[List.getElem?_eq_getElem hlt,hy1]
   have hmem:y∈x.args:=List.mem_of_getElem? hy0
   rw[List.drop_eq_getElem_cons hlt,hy1,cntL]at hinv
   by_cases hnm:n<=m
   ·rw[if_pos hnm]at hinv
    have hle:=cnt_le N y (by have:=Expr.lt_of_mem hmem;omega) (m-n) (by omega)
    simp[hlt,hy1,hnm,encE_eq]
    refine⟨by omega,?_⟩
    refine (count_fn N y (by have:=Expr.lt_of_mem hmem;omega) (hx.args y hmem) (m-n) (by omega) (by omega)).s ?_
    simp
    exact⟨by omega,by omega,i+1,n+cntE y (m-n),⟨by omega,by omega,by omega,hinv⟩,by omega,by simp,rfl⟩
   ·rw[if_neg hnm]at hinv
    simp[hlt,hnm,hinv]
    intro h
    exact absurd h (by omega)
  ·have hie:i=x.args.length:=by omega
   subst hie
   simp[cntL]at hinv
   simp[hinv]
mutual
def deepE:Expr->Int->Bool
 | ⟨_,_,args⟩,m=>if m<1 then false else if m=1 then args.length==0 else deepL args (m-1)
def deepL:List Expr->Int->Bool
 | [],_=>true
 | x::xs,m=>deepE x m&&deepL xs m
end
theorem deepE_eq (x:Expr) (m:Int):deepE x m=if m<1 then false else if m=1 then x.args.length==0 else deepL x.args (m-1):=by cases x;simp[deepE]
theorem deep_fn:∀(N:Nat) (x:Expr),SizeOf.sizeOf x<N->OkE x->∀m:Int,-100000<=m->m<=100000->CallFn Tryz.prog 160 [aE x,.dat (.int .i64 m)] (.dat (.bool (deepE x m)))
 | 0,_,h,_,_,_,_=>absurd h (Nat.not_lt_zero _)
 | N+1,x,hN,hx,m,h0,h1=>by
  refine callFn_of Tryz.func160 rfl Tryz.ntmps160 (rs:=[.tmp 4]) rfl (by kernel_rfl) (by simp) (by kernel_rfl) ?_
  by_cases hm1:m<1
  ·simp[hm1,deepE_eq x]
  by_cases hm2:m=1
  ·subst hm2
   simp[deepE_eq x]
   cases x.args<;>simp
   omega
  have e:deepE x m=deepL x.args (m-1):=by rw[deepE_eq,if_neg hm1,if_neg hm2]
  simp[hm1,hm2]
  refine V.for [1,2] (fun i:Nat=>[(5,.dat (.int .i64 (i:Nat)))]) (fun _=>[])
   (fun i=>i<=x.args.length∧deepL (x.args.drop i) (m-1)=deepE x m) (fun i=>x.args.length-i) 0 ⟨by simp[e],by simp,by simp⟩ ?_
  rintro i ⟨hi,hinv⟩
  have hlen:=hx.len
  by_cases hlt:i<x.args.length
  ·obtain⟨y,hy1⟩:∃y,x.args[i]'hlt=y:=⟨_,rfl⟩
   have hy0:x.args[i]?=some y:=by rw[List.getElem?_eq_getElem hlt,hy1]
   have hmem:y∈x.args:=List.mem_of_getElem? hy0
   rw[List.drop_eq_getElem_cons hlt,hy1,deepL]at hinv
   simp[hlt,hy1,encE_eq]
   refine⟨by omega,?_⟩
   refine (deep_fn N y (by have:=Expr.lt_of_mem hmem;omega) (hx.args y hmem) (m-1) (by omega) (by omega)).s ?_
   simp
   cases hd:deepE y (m-1) with
   | false=>simp[hd]at hinv;simp[hinv]
   | true=>
    simp[hd]at hinv
    simp
    exact⟨by omega,i+1,⟨hlt,hinv⟩,by omega,by simp⟩
  ·have hie:i=x.args.length:=by omega
   subst hie
   simp[deepL]at hinv
   simp[<- hinv]
def lightE (x:Expr):Bool:=decide (cntE x 256<=256)&&deepE x 16
theorem light_fn (x:Expr) (hx:OkE x):CallFn Tryz.prog 95 [aE x] (.dat (.bool (lightE x))):=by
 refine callFn_of Tryz.func95 rfl Tryz.ntmps95 (rs:=[.tmp 2]) rfl (by kernel_rfl) (by simp) (by kernel_rfl) ?_
 simp
 refine (count_fn (SizeOf.sizeOf x+1) x (by omega) hx 256 (by omega) (by omega)).s ?_
 simp
 refine GCall.fn (.dat (.bool (deepE x 16))) (fun h=>⟨by first | trivial | exact h,deep_fn (SizeOf.sizeOf x+1) x (by omega) hx 16 (by omega) (by omega)⟩) ?_
 by_cases h:cntE x 256<=256
 ·simp[h,lightE]
 ·simp[h,lightE]
def nodeT (x:Expr) (n:Int):Int:=
 if x.op<0∨x.op>=5 then 1
 else
  let k:Int:=x.args.length
  if (x.op<=1∧k≠0)∨(x.op=2∧k≠1)∨(x.op>=3∧k<2) then 3
  else
   let most:=if x.op=0 then 2 else if x.op=1 then n else 1
   if x.index<0∨x.index>=most then 2 else 0
theorem nodeT_fn (x:Expr) (n:Int):CallFn Tryz.prog 340 [aE x,.dat (.int .i64 n)] (.dat (.int .i64 (nodeT x n))):=by
 refine callFn_of Tryz.func340 rfl Tryz.ntmps340 (rs:=[.tmp 4]) rfl (by kernel_rfl) (by simp) (by kernel_rfl) ?_
 by_cases hop:x.op<0∨x.op>=5
 ·simp[nodeT,hop]
  omega
 ·obtain ho | ho | ho | ho | ho:x.op=0∨x.op=1∨x.op=2∨x.op=3∨x.op=4:=by omega
  all_goals
   simp[ho,reads]
   and_intros<;>intros<;>simp only[nodeT,ho]<;>(cases hk:x.args<;>simp_all<;>omega)
mutual
def nodesE:Expr->Int->Int
 | ⟨op,ix,args⟩,n=>if nodeT ⟨op,ix,args⟩ n≠0 then nodeT ⟨op,ix,args⟩ n else nodesL args n
def nodesL:List Expr->Int->Int
 | [],_=>0
 | x::xs,n=>if nodesE x n≠0 then nodesE x n else nodesL xs n
end
theorem nodesE_eq (x:Expr) (n:Int):nodesE x n=if nodeT x n≠0 then nodeT x n else nodesL x.args n:=by cases x;simp[nodesE]
theorem nodes_fn:∀(N:Nat) (x:Expr),SizeOf.sizeOf x<N->OkE x->∀n:Int,CallFn Tryz.prog 270 [aE x,.dat (.int .i64 n)] (.dat (.int .i64 (nodesE x n)))
 | 0,_,h,_,_=>absurd h (Nat.not_lt_zero _)
 | N+1,x,hN,hx,n=>by
  refine callFn_of Tryz.func270 rfl Tryz.ntmps270 (rs:=[.tmp 4]) rfl (by kernel_rfl) (by simp) (by kernel_rfl) ?_
  simp
  refine (nodeT_fn x n).s ?_
  by_cases hz:nodeT x n=0
  ·have e:nodesE x n=nodesL x.args n:=by rw[nodesE_eq,if_neg (by simp[hz])]
   simp[hz]
   refine V.for [1,2] (fun i:Nat=>[(6,.dat (.int .i64 (i:Nat)))]) (fun _=>[])
    (fun i=>i<=x.args.length∧nodesL (x.args.drop i) n=nodesE x n) (fun i=>x.args.length-i) 0 ⟨by simp[e],by simp,by simp⟩ ?_
   rintro i ⟨hi,hinv⟩
   have hlen:=hx.len
   by_cases hlt:i<x.args.length
   ·obtain⟨y,hy1⟩:∃y,x.args[i]'hlt=y:=⟨_,rfl⟩
    have hy0:x.args[i]?=some y:=by rw[List.getElem?_eq_getElem hlt,hy1]
    have hmem:y∈x.args:=List.mem_of_getElem? hy0
    rw[List.drop_eq_getElem_cons hlt,hy1,nodesL]at hinv
    simp[hlt,hy1,encE_eq]
    refine (nodes_fn N y (by have:=Expr.lt_of_mem hmem;omega) (hx.args y hmem) n).s ?_
    by_cases hd:nodesE y n=0
    ·simp[hd]at hinv
     simp[hd]
     exact⟨by omega,i+1,⟨hlt,hinv⟩,by omega,by simp⟩
    ·simp[hd]at hinv
     rw[<- hinv]
     simp[hd]
   ·have hie:i=x.args.length:=by omega
    subst hie
    simp[nodesL]at hinv
    simp[<- hinv]
  ·have e:nodesE x n=nodeT x n:=by rw[nodesE_eq,if_pos hz]
   rw[e]
   simp[hz]
def refCheckE (x:Expr) (n:Int):Int:=if n<0∨n>256 then 2 else if lightE x=false then 5 else nodesE x n
theorem refCheck_fn (x:Expr) (hx:OkE x) (n:Int):CallFn Tryz.prog 189 [aE x,.dat (.int .i64 n)] (.dat (.int .i64 (refCheckE x n))):=by
 refine callFn_of Tryz.func189 rfl Tryz.ntmps189 (rs:=[.tmp 4]) rfl (by kernel_rfl) (by simp) (by kernel_rfl) ?_
 simp
 refine⟨fun h=>by simp[refCheckE,h],fun h0 h1=>?_⟩
 refine (light_fn x hx).s ?_
 cases hl:lightE x with
 | false=>simp[refCheckE,hl,Int.not_lt.2 h0,Int.not_lt.2 h1]
 | true=>
  simp
  refine (nodes_fn (SizeOf.sizeOf x+1) x (by omega) hx n).s ?_
  simp[refCheckE,hl,Int.not_lt.2 h0,Int.not_lt.2 h1]
def firstC (c:Control):Int:=2*c.actuators+c.inputs.length
def countC (c:Control):Int:=2*c.actuators+c.inputs.length+c.signals.length
theorem first_fn (c:Control) (h:Sm c):CallFn Tryz.prog 119 [aC c] (aI (firstC c)):=by
 obtain⟨h1,h2,h3⟩:=h
 refine callFz_of Tryz.func119 rfl Tryz.ntmps119 (rs:=[.tmp 2]) rfl (by kernel_rfl) (by simp) (by kernel_rfl) ?_
 simp[firstC]
 omega
theorem signals_fn (c:Control) (h:Sm c):CallFn Tryz.prog 23 [aC c] (aI (firstC c)):=by
 obtain⟨h1,h2,h3⟩:=h
 refine callFz_of Tryz.func23 rfl Tryz.ntmps23 (rs:=[.tmp 2]) rfl (by kernel_rfl) (by simp) (by kernel_rfl) ?_
 simp[firstC]
 omega
theorem lines_fn (c:Control) (h:Sm c):CallFn Tryz.prog 190 [aC c] (aI (countC c)):=by
 obtain⟨h1,h2,h3⟩:=h
 refine callFz_of Tryz.func190 rfl Tryz.ntmps190 (rs:=[.tmp 2]) rfl (by kernel_rfl) (by simp) (by kernel_rfl) ?_
 simp[countC]
 omega
theorem count_c (c:Control) (h:Sm c):CallFn Tryz.prog 83 [aC c] (aI (countC c)):=by
 refine callFz_of Tryz.func83 rfl Tryz.ntmps83 (rs:=[.tmp 2]) rfl (by kernel_rfl) (by simp) (by kernel_rfl) ?_
 simp
 refine V.draw (fun s=>if s=4 then some (.fn (aI (firstC c))) else none) (by kernel_rfl) (by kernel_rfl) (by simp) ?_
 have:=first_fn c h
 obtain⟨h1,h2,h3⟩:=h
 simp[reads,firstC,countC]
 simp[firstC]at this
 exact⟨this,by omega,by omega⟩
def zeroE (x:Expr):Bool:=x.op==0&&x.index==0&&(x.args.length:Int)==0
theorem zero_fn (x:Expr):CallFn Tryz.prog 323 [aE x] (aB (zeroE x)):=by
 refine callFz_of Tryz.func323 rfl Tryz.ntmps323 (rs:=[.tmp 2]) rfl (by kernel_rfl) (by simp) (by kernel_rfl) ?_
 simp[reads,zeroE]
theorem zeroR_fn (x:Expr):CallFn Tryz.prog 192 [aE x] (aB (zeroE x)):=by
 refine callFz_of Tryz.func192 rfl Tryz.ntmps192 (rs:=[.tmp 2]) rfl (by kernel_rfl) (by simp) (by kernel_rfl) ?_
 simp[reads,zeroE]
def lineName (k:Int):List UInt8:=encU (97+k.tdiv 2)++encU (48+k.tmod 2)
def namedC (c:Control) (k:Int):List UInt8:=
 if k<2*c.actuators then lineName k
 else if k<firstC c then c.inputs.getD (k-2*c.actuators).toNat []
 else ((c.signals[(k-firstC c).toNat]?).map (·.name)).getD []
theorem encU_ascii {n:Int}(h0:0<=n) (h1:n<128):encU n=[UInt8.ofNat n.toNat]:=by
 have hv:Utf8.valid n=true:=by simp[Utf8.valid];omega
 simp only[encU,Utf8.encode,hv,if_true]
 rw[if_pos (by omega)]
theorem named_sig {c:Control}{k:Int}{s:Signal}(h0:firstC c<=k) (ha:2*c.actuators<=firstC c) (hs:c.signals[(k-firstC c).toNat]?=some s):namedC c k=s.name:=by
 unfold namedC
 rw[if_neg (by omega),if_neg (by omega),hs]
 rfl
theorem named_inp {c:Control}{k:Int}{s:List UInt8}(h0:2*c.actuators<=k) (h1:k<firstC c) (hs:c.inputs[(k-2*c.actuators).toNat]?=some s):namedC c k=s:=by
 unfold namedC
 rw[if_neg (by omega),if_pos h1,List.getD_eq_getElem?_getD,hs]
 rfl
theorem getI {α:Type}{l:List α}{k:Int}(h0:0<=k) (h1:k<l.length):∃y,l[k.toNat]?=some y:=⟨_,List.getElem?_eq_getElem (by omega)⟩
theorem named_fn (c:Control) (h:Sm c) (ha:0<=c.actuators∧c.actuators<=6) (k:Int) (h0:0<=k) (h1:k<countC c):CallFn Tryz.prog 241 [aC c,aI k] (aT (namedC c k)):=by
 have hs:=h
 obtain⟨g1,g2,g3⟩:=h
 have hf:firstC c=2*c.actuators+c.inputs.length:=rfl
 have hcn:countC c=2*c.actuators+c.inputs.length+c.signals.length:=rfl
 refine callFz_of Tryz.func241 rfl Tryz.ntmps241 (rs:=[.tmp 4]) rfl (by kernel_rfl) (by simp) (by kernel_rfl) ?_
 simp
 refine (first_fn c hs).s ?_
 by_cases hk1:k<2*c.actuators
 ·simp[hk1]
  have ed:k.tdiv 2=k / 2:=Int.tdiv_eq_ediv_of_nonneg h0
  have em:k.tmod 2=k % 2:=Int.tmod_eq_emod_of_nonneg h0
  have e1:=encU_ascii (n:=97+k.tdiv 2) (by omega) (by omega)
  have e2:=encU_ascii (n:=48+k.tmod 2) (by omega) (by omega)
  rw[show namedC c k=encU (97+k.tdiv 2)++encU (48+k.tmod 2) by unfold namedC;rw[if_pos hk1];rfl,e1,e2]
  simp
  omega
 ·by_cases hk2:k<firstC c
  ·obtain⟨y,hy⟩:=getI (l:=c.inputs) (k:=k-2*c.actuators) (by omega) (by omega)
   rw[named_inp (by omega) hk2 hy]
   simp[hk1,hk2,hy]
   omega
  ·obtain⟨y,hy⟩:=getI (l:=c.signals) (k:=k-firstC c) (by omega) (by omega)
   rw[named_sig (by omega) (by omega) hy]
   simp[hk1,hk2,hy]
   omega
theorem NamedR_fn (c:Control) (h:Sm c) (ha:0<=c.actuators∧c.actuators<=6) (k:Int) (h0:0<=k) (h1:k<countC c):CallFn Tryz.prog 187 [aC c,aI k] (aT (namedC c k)):=by
 have hs:=h
 obtain⟨g1,g2,g3⟩:=h
 have hf:firstC c=2*c.actuators+c.inputs.length:=rfl
 have hcn:countC c=2*c.actuators+c.inputs.length+c.signals.length:=rfl
 refine callFz_of Tryz.func187 rfl Tryz.ntmps187 (rs:=[.tmp 4]) rfl (by kernel_rfl) (by simp) (by kernel_rfl) ?_
 by_cases hk1:k<2*c.actuators
 ·simp[hk1]
  refine⟨by omega,V.draw (fun _=>none) (by kernel_rfl) (by kernel_rfl) (by simp) ?_⟩
  have ed:k.tdiv 2=k / 2:=Int.tdiv_eq_ediv_of_nonneg h0
  have em:k.tmod 2=k % 2:=Int.tmod_eq_emod_of_nonneg h0
  have e1:=encU_ascii (n:=97+k.tdiv 2) (by omega) (by omega)
  have e2:=encU_ascii (n:=48+k.tmod 2) (by omega) (by omega)
  rw[show namedC c k=encU (97+k.tdiv 2)++encU (48+k.tmod 2) by unfold namedC;rw[if_pos hk1];rfl,e1,e2]
  simp[reads]
  obtain hk | hk | hk | hk | hk | hk | hk | hk | hk | hk | hk | hk:k=0∨k=1∨k=2∨k=3∨k=4∨k=5∨k=6∨k=7∨k=8∨k=9∨k=10∨k=11:=by omega
  all_goals (subst hk;simp)<;>omega
 ·simp[hk1]
  refine⟨by omega,(signals_fn c hs).s ?_⟩
  by_cases hk2:k<firstC c
  ·obtain⟨y,hy⟩:=getI (l:=c.inputs) (k:=k-2*c.actuators) (by omega) (by omega)
   rw[named_inp (by omega) hk2 hy]
   simp[hk2,hy]
   omega
  ·obtain⟨y,hy⟩:=getI (l:=c.signals) (k:=k-firstC c) (by omega) (by omega)
   rw[named_sig (by omega) (by omega) hy]
   simp[hk2]
   refine V.draw (fun s=>if s=40 then some (.fn (aI (firstC c))) else none) (by kernel_rfl) (by kernel_rfl) (by simp) ?_
   simp[reads,hy]
   exact⟨signals_fn c hs,by omega⟩
def partB (b:UInt8):Bool:=(97<=b.toNat&&b.toNat<=122)||(65<=b.toNat&&b.toNat<=90)||(48<=b.toNat&&b.toNat<=57)||b.toNat==95
def partI (b:Int):Bool:=(decide (97<=b)&&decide (b<=122))||(decide (65<=b)&&decide (b<=90))||(decide (48<=b)&&decide (b<=57))||b==95
theorem part_fn (b:Int) (h0:0<=b) (h1:b<=255):CallFn Tryz.prog 326 [.dat (.int .u8 b)] (aB (partI b)):=by
 refine callFz_of Tryz.func326 rfl Tryz.ntmps326 (rs:=[.tmp 2]) rfl (by kernel_rfl) (by simp) (by kernel_rfl) ?_
 simp[reads,partI]
 omega
theorem take_eq {α:Type}{xs ys:List α}{i:Nat}{x y:α}(h:xs.take i=ys.take i) (hx:xs[i]?=some x) (hy:ys[i]?=some y) (e:x=y):xs.take (i+1)=ys.take (i+1):=by
 rw[List.take_add_one,List.take_add_one,h,hx,hy,e]
theorem ne_of_get {α:Type}{xs ys:List α}{i:Nat}{x y:α}(hx:xs[i]?=some x) (hy:ys[i]?=some y) (e:x≠y):xs≠ys:=by
 rintro rfl;rw[hx]at hy;exact e (Option.some.inj hy)
def NoF {α:Type}(p:α->Bool) (xs:List α):Prop:=∀y∈xs,p y=false
@[simp] theorem NoF_nil {α:Type}(p:α->Bool):NoF p []=True:=by simp[NoF]
theorem findIdx_step {α:Type}{p:α->Bool}{xs:List α}{i:Nat}{x:α}(h:NoF p (xs.take i)) (hx:xs[i]?=some x):(p x=false->NoF p (xs.take (i+1)))∧(p x=true->xs.findIdx? p=some i):=by
 obtain⟨hi,rfl⟩:=List.getElem?_eq_some_iff.1 hx
 constructor
 ·intro e y hy
  rw[List.take_add_one,hx]at hy
  rcases List.mem_append.1 hy with hy | hy
  ·exact h y hy
  ·simp at hy;subst hy;exact e
 ·intro e
  rw[List.findIdx?_eq_some_iff_getElem]
  refine⟨hi,e,fun j hj=>?_⟩
  have:=h xs[j] (List.mem_take_iff_getElem.2 ⟨j,by omega,rfl⟩)
  simp[this]
theorem findIdx_none {α:Type}{p:α->Bool}{xs:List α}(h:NoF p (xs.take xs.length)):xs.findIdx? p=none:=by
 rw[List.take_length]at h
 rw[List.findIdx?_eq_none_iff]
 intro x hx
 simp[h x hx]
def idxI (o:Option Nat):Int:=match o with
 | some i=>i
 | none=>-1
@[simp] theorem idxI_some (i:Nat):idxI (some i)=i:=rfl
@[simp] theorem idxI_none:idxI none = -1:=rfl
theorem idxI_ge (o:Option Nat):decide (0<=idxI o)=o.isSome:=by cases o<;>simp[idxI]<;>omega
theorem eqI_fn (xs ys:List (Int)) (hx:Sh xs) (hy:Sh ys):CallFn Tryz.prog 37 [aIs xs,aIs ys] (aB (decide (xs=ys))):=by
 refine callFz_of Tryz.func37 rfl Tryz.ntmps37 (rs:=[.tmp 4]) rfl (by kernel_rfl) (by simp) (by kernel_rfl) ?_
 by_cases hl:xs.length=ys.length
 ·simp[hl]
  refine V.forI (σ:=Unit) xs.length [0,1,12] (by simp;exact rfl) (fun i _=>[(13,aI i)]) (fun _ _=>[]) (fun i _=>xs.take i=ys.take i) () (by simp) (by simp) ⟨by simp;exact rfl,by simp⟩ ?_ ?_
  ·rintro i-hi hI
   have h1:=List.getElem?_eq_getElem hi
   have h2:=List.getElem?_eq_getElem (show i<ys.length by omega)
   simp[<- hl,hi]
   refine V.draw (fun _=>none) (by kernel_rfl) (by kernel_rfl) (by simp) ?_
   simp[reads,h1,h2,<- hl,hi]
   by_cases e:xs[i]=ys[i]
   ·simp[e]
    exact⟨by omega,take_eq hI h1 h2 e⟩
   ·simp[e]
    exact ne_of_get h1 h2 e
  ·rintro-hI
   rw[List.take_length,hl,List.take_length]at hI
   simp[hl,hI]
 ·have hl':¬(xs.length:Int)=ys.length:=by omega
  simp[hl']
  rintro rfl
  exact hl rfl
theorem eqB_fn (xs ys:List (Bool)) (hx:Sh xs) (hy:Sh ys):CallFn Tryz.prog 309 [aBs xs,aBs ys] (aB (decide (xs=ys))):=by
 refine callFz_of Tryz.func309 rfl Tryz.ntmps309 (rs:=[.tmp 4]) rfl (by kernel_rfl) (by simp) (by kernel_rfl) ?_
 by_cases hl:xs.length=ys.length
 ·simp[hl]
  refine V.forI (σ:=Unit) xs.length [0,1,12] (by simp;exact rfl) (fun i _=>[(13,aI i)]) (fun _ _=>[]) (fun i _=>xs.take i=ys.take i) () (by simp) (by simp) ⟨by simp;exact rfl,by simp⟩ ?_ ?_
  ·rintro i-hi hI
   have h1:=List.getElem?_eq_getElem hi
   have h2:=List.getElem?_eq_getElem (show i<ys.length by omega)
   simp[<- hl,hi]
   refine V.draw (fun _=>none) (by kernel_rfl) (by kernel_rfl) (by simp) ?_
   simp[reads,h1,h2,<- hl,hi]
   by_cases e:xs[i]=ys[i]
   ·simp[e]
    exact⟨by omega,take_eq hI h1 h2 e⟩
   ·simp[e]
    exact ne_of_get h1 h2 e
  ·rintro-hI
   rw[List.take_length,hl,List.take_length]at hI
   simp[hl,hI]
 ·have hl':¬(xs.length:Int)=ys.length:=by omega
  simp[hl']
  rintro rfl
  exact hl rfl
theorem idxF_fn (xs:List Int) (p:Int->Bool) (f:FuncId) (first caps:List A) (hx:Sh xs) (hp:∀n∈xs,CallFn Tryz.prog f (first++[aI n]++caps) (aB (p n))) :
  CallFn Tryz.prog 156 [aIs xs,.fn f first caps] (aI (idxI (xs.findIdx? p))):=by
 refine callFz_of Tryz.func156 rfl Tryz.ntmps156 (rs:=[.tmp 4]) rfl (by kernel_rfl) (by simp) (by kernel_rfl) ?_
 simp
 refine V.forI (σ:=Unit) xs.length [0,1,7] (by simp;exact rfl) (fun i _=>[(8,aI i)]) (fun _ _=>[]) (fun i _=>NoF p (xs.take i)) () (by simp) (by simp) ⟨by simp;exact rfl,by simp⟩ ?_ ?_
 ·rintro i-hi hI
  have h1:=List.getElem?_eq_getElem hi
  have hs:=findIdx_step (p:=p) hI h1
  have hc:=hp xs[i] (List.getElem_mem hi)
  simp at hc
  simp[hi,h1]
  refine hc.s ?_
  cases e:p xs[i]
  ·simp
   exact⟨by omega,hs.1 e⟩
  ·rw[hs.2 e]
   simp
 ·rintro-hI
  rw[findIdx_none hI]
  simp
theorem containsF_fn (xs:List Int) (p:Int->Bool) (f:FuncId) (first caps:List A) (hx:Sh xs) (hp:∀n∈xs,CallFn Tryz.prog f (first++[aI n]++caps) (aB (p n))) :
  CallFn Tryz.prog 87 [aIs xs,.fn f first caps] (aB (xs.any p)):=by
 refine callFz_of Tryz.func87 rfl Tryz.ntmps87 (rs:=[.tmp 4]) rfl (by kernel_rfl) (by simp) (by kernel_rfl) ?_
 simp
 refine (idxF_fn xs p f first caps hx hp).s ?_
 simp
 rw[idxI_ge,List.findIdx?_isSome]
theorem CallS.nilcase {g:FuncId}{xs:List (List L)}{az bz:List A}{H:Heap}{K:A->Heap->Prop}(h1:xs=[]->CallS Tryz.prog g (az++.nils::bz) H K) (h2:CallS Tryz.prog g (az++.nn xs::bz) H K):CallS Tryz.prog g (az++.dat (.sl xs)::bz) H K:=by
 refine⟨h2.1,fun x args H0 hi hd=>?_⟩
 have key:∀ {b:A},(∀v,D x (.dat (.sl xs)) v->D x b v->True)->True:=fun _=>trivial
 have hl:=hd.length
 have hsplit:∃v us ws,args.toList=us++v::ws∧Ds x az us∧D x (.dat (.sl xs)) v∧Ds x bz ws:=by
  have e:=List.take_append_drop az.length args.toList
  have ht:=hd.take az.length
  have hdr:=hd.drop az.length
  simp only[List.take_left,List.drop_left]at ht hdr
  cases hw:args.toList.drop az.length with
  | nil=>rw[hw]at hdr;simp[Ds]at hdr
  | cons v ws=>
   rw[hw]at hdr e
   simp only[Ds]at hdr
   exact⟨v,_,ws,e.symm,ht,hdr.1,hdr.2⟩
 obtain⟨v,us,ws,e,d1,d2,d3⟩:=hsplit
 by_cases hv:v=.slice none 0 0
 ·subst hv
  have hx:xs=[]:=by
   simp only[D,RdL]at d2
   rcases d2 with⟨_,h⟩|⟨b,off,cap,h,_⟩|⟨_,h,_⟩
   ·exact h
   ·cases h
   ·cases h
  refine (h1 hx).2 x args H0 hi ?_
  rw[e]
  exact d1.append (by simp[Ds,D];exact d3)
 ·refine h2.2 x args H0 hi ?_
  rw[e]
  exact d1.append (by simp only[Ds,D];exact⟨⟨by simpa [D]using d2,hv⟩,d3⟩)
theorem cloneI_o (xs:List (Int)) (hx:xs.length<=4294967296):CallOwn Tryz.prog 78 [aIs xs] 3 1 (xs.map rI):=by
 refine CallS.nilcase (az:=[]) (bz:=[]) ?_ ?_
 ·intro hn
  have hn:xs=[]:=by simpa using hn
  subst hn
  refine callO_of Tryz.func78 rfl Tryz.ntmps78 (rs:=[.tmp 2]) rfl (by kernel_rfl) (by simp) (by kernel_rfl) ?_
  simp
 ·refine callO_of Tryz.func78 rfl Tryz.ntmps78 (rs:=[.tmp 2]) rfl (by kernel_rfl) (by simp) (by kernel_rfl) ?_
  simp
  omega
theorem cloneB_o (xs:List (Bool)) (hx:xs.length<=4294967296):CallOwn Tryz.prog 118 [aBs xs] 4 1 (xs.map rB):=by
 refine CallS.nilcase (az:=[]) (bz:=[]) ?_ ?_
 ·intro hn
  have hn:xs=[]:=by simpa using hn
  subst hn
  refine callO_of Tryz.func118 rfl Tryz.ntmps118 (rs:=[.tmp 2]) rfl (by kernel_rfl) (by simp) (by kernel_rfl) ?_
  simp
 ·refine callO_of Tryz.func118 rfl Tryz.ntmps118 (rs:=[.tmp 2]) rfl (by kernel_rfl) (by simp) (by kernel_rfl) ?_
  simp
  omega
theorem idxT_fn (xs:List (List UInt8)) (v:List UInt8) (hx:Sh xs):CallFn Tryz.prog 230 [aTs xs,aT v] (aI (idxI (xs.findIdx? (v==·)))):=by
 refine callFz_of Tryz.func230 rfl Tryz.ntmps230 (rs:=[.tmp 4]) rfl (by kernel_rfl) (by simp) (by kernel_rfl) ?_
 simp
 refine V.forI (σ:=Unit) xs.length [0,1,7] (by simp;exact rfl) (fun i _=>[(8,aI i)]) (fun _ _=>[]) (fun i _=>NoF (v==·) (xs.take i)) () (by simp) (by simp) ⟨by simp;exact rfl,by simp⟩ ?_ ?_
 ·rintro i-hi hI
  have h1:=List.getElem?_eq_getElem hi
  have hs:=findIdx_step (p:=(v==·)) hI h1
  simp[hi,h1]
  cases e:(v==xs[i])
  ·simp at e
   simp[e]
   exact⟨by omega,hs.1 (by simp[e])⟩
  ·have e2:=hs.2 e
   simp at e
   rw[e2]
   simp[e]
 ·rintro-hI
  rw[findIdx_none hI]
  simp
theorem containsT_fn (xs:List (List UInt8)) (v:List UInt8) (hx:Sh xs):CallFn Tryz.prog 157 [aTs xs,aT v] (aB (xs.any (v==·))):=by
 refine callFz_of Tryz.func157 rfl Tryz.ntmps157 (rs:=[.tmp 4]) rfl (by kernel_rfl) (by simp) (by kernel_rfl) ?_
 simp
 refine (idxT_fn xs v hx).s ?_
 simp
 rw[idxI_ge,List.findIdx?_isSome]
theorem hasSuf_fn (q:List UInt8) (x y:UInt8) (hq:q.length<=1000):CallFn Tryz.prog 320 [aT (q++[x]),aT [y]] (aB (x==y)):=by
 refine callFz_of Tryz.func320 rfl Tryz.ntmps320 (rs:=[.tmp 4]) rfl (by kernel_rfl) (by simp) (by kernel_rfl) ?_
 have e1:List.take (q.length+1) (q++[x])=q++[x]:=List.take_of_length_le (by simp)
 have e2:(([x]:List UInt8)==[y])=(x==y):=by simp[Bool.eq_iff_iff]
 simp[e1]
 refine⟨fun _=>by omega,fun _=>by omega⟩
theorem cutSufL_fn (q:List UInt8) (x y:UInt8) (hq:q.length<=1000):CallFn Tryz.prog 236 [aT (q++[x]),aT [y]] (.tuple [aT (if x=y then q else q++[x]),aB (x==y)]):=by
 have h:=hasSuf_fn q x y hq
 refine callFz_of Tryz.func236 rfl Tryz.ntmps236 (rs:=[.tmp 4,.tmp 5]) rfl (by kernel_rfl) (by simp) (by kernel_rfl) ?_
 simp
 refine h.s ?_
 by_cases e:x=y
 ·simp[e]
  omega
 ·simp[e]
theorem cutSuf_fn (q:List UInt8) (x y:UInt8) (hq:q.length<=1000):CallFn Tryz.prog 165 [aT (q++[x]),aT [y]] (.tuple [aT (if x=y then q else q++[x]),aB (x==y)]):=by
 have h:=cutSufL_fn q x y hq
 refine callFz_of Tryz.func165 rfl Tryz.ntmps165 (rs:=[.tmp 4,.tmp 5]) rfl (by kernel_rfl) (by simp) (by kernel_rfl) ?_
 simp
 refine h.s ?_
 simp
def itRen:Go.Shelf.Ren:=⟨fun | 129=>224 | 171=>133 | 243=>193 | 246=>272 | 283=>341 | 284=>342 | 285=>343 | 286=>344 | 317=>381 | 318=>382 | 319=>383 | 320=>384 | 337=>402 | 338=>403 | n=>n,fun | 0=>0 | 2=>2 | 3=>3 | 4=>4 | 5=>5 | 9=>9 | 20=>20 | 37=>399 | 46=>220 | 51=>295 | 53=>297 | 171=>397 | 173=>400 | 212=>432 | 213=>433 | 232=>455 | 233=>456 | n=>n,fun | 17=>2 | 18=>3 | 19=>4 | n=>n⟩
theorem itLays0:Go.Proofs.Lays.n171 Tryz.prog itRen:={ 
 mixed:=by kernel_rfl,
 f129:=by kernel_rfl,
 f171:=by kernel_rfl,
 f243:=by kernel_rfl,
 f246:=by kernel_rfl,
 f283:=by kernel_rfl,
 f284:=by kernel_rfl,
 f285:=by kernel_rfl,
 f286:=by kernel_rfl,
 f317:=by kernel_rfl,
 f318:=by kernel_rfl,
 f319:=by kernel_rfl,
 f320:=by kernel_rfl,
 f337:=by kernel_rfl,
 f338:=by kernel_rfl,
 t0:=Tryz.underlying0,
 a0:=Tryz.isAgg0,
 z0:=Tryz.sizeOf0,
 v0:=Tryz.zeroValue0,
 t2:=Tryz.underlying2,
 a2:=Tryz.isAgg2,
 z2:=Tryz.sizeOf2,
 v2:=Tryz.zeroValue2,
 t3:=Tryz.underlying3,
 a3:=Tryz.isAgg3,
 z3:=Tryz.sizeOf3,
 v3:=Tryz.zeroValue3,
 t4:=Tryz.underlying4,
 a4:=Tryz.isAgg4,
 z4:=Tryz.sizeOf4,
 v4:=Tryz.zeroValue4,
 t5:=Tryz.underlying5,
 a5:=Tryz.isAgg5,
 z5:=Tryz.sizeOf5,
 v5:=Tryz.zeroValue5,
 t9:=Tryz.underlying9,
 a9:=Tryz.isAgg9,
 z9:=Tryz.sizeOf9,
 v9:=Tryz.zeroValue9,
 t20:=Tryz.underlying20,
 a20:=Tryz.isAgg20,
 z20:=Tryz.sizeOf20,
 v20:=Tryz.zeroValue20,
 t37:=Tryz.underlying399,
 a37:=Tryz.isAgg399,
 z37:=Tryz.sizeOf399,
 v37:=Tryz.zeroValue399,
 t46:=Tryz.underlying220,
 a46:=Tryz.isAgg220,
 z46:=Tryz.sizeOf220,
 v46:=Tryz.zeroValue220,
 t51:=Tryz.underlying295,
 a51:=Tryz.isAgg295,
 z51:=Tryz.sizeOf295,
 v51:=Tryz.zeroValue295,
 t53:=Tryz.underlying297,
 a53:=Tryz.isAgg297,
 z53:=Tryz.sizeOf297,
 v53:=Tryz.zeroValue297,
 t171:=Tryz.underlying397,
 a171:=Tryz.isAgg397,
 z171:=Tryz.sizeOf397,
 v171:=Tryz.zeroValue397,
 t173:=Tryz.underlying400,
 a173:=Tryz.isAgg400,
 z173:=Tryz.sizeOf400,
 v173:=Tryz.zeroValue400,
 t212:=Tryz.underlying432,
 a212:=Tryz.isAgg432,
 z212:=Tryz.sizeOf432,
 v212:=Tryz.zeroValue432,
 t213:=Tryz.underlying433,
 a213:=Tryz.isAgg433,
 z213:=Tryz.sizeOf433,
 t232:=Tryz.underlying455,
 a232:=Tryz.isAgg455,
 z232:=Tryz.sizeOf455,
 v232:=Tryz.zeroValue455,
 t233:=Tryz.underlying456,
 a233:=Tryz.isAgg456,
 z233:=Tryz.sizeOf456,
 v233:=Tryz.zeroValue456,
 g17:=by kernel_rfl,
 g18:=by kernel_rfl,
 g19:=by kernel_rfl }
theorem itLays:Go.Proofs.LaysM.n171 Tryz.prog itRen:={ itLays0 with 
 i0:=by kernel_rfl,
 i2:=by kernel_rfl,
 i3:=by kernel_rfl,
 i4:=by kernel_rfl,
 i5:=by kernel_rfl,
 i9:=by kernel_rfl,
 i20:=by kernel_rfl,
 i37:=by kernel_rfl,
 i46:=by kernel_rfl,
 i51:=by kernel_rfl,
 i53:=by kernel_rfl,
 i171:=by kernel_rfl,
 i173:=by kernel_rfl,
 i212:=by kernel_rfl,
 i232:=by kernel_rfl,
 i233:=by kernel_rfl,
 m17:=by kernel_rfl,
 m18:=by kernel_rfl,
 m19:=by kernel_rfl }
def scRen:Go.Shelf.Ren:=⟨fun | 106=>111 | 213=>175 | 265=>254 | n=>n,fun | 3=>3 | 9=>9 | n=>n,fun n=>n⟩
theorem scLays:Go.Proofs.Lays.n106 Tryz.prog scRen:={ 
 mixed:=by kernel_rfl,
 f106:=by kernel_rfl,
 f213:=by kernel_rfl,
 f265:=by kernel_rfl,
 t3:=Tryz.underlying3,
 a3:=Tryz.isAgg3,
 z3:=Tryz.sizeOf3,
 v3:=Tryz.zeroValue3,
 t9:=Tryz.underlying9,
 a9:=Tryz.isAgg9,
 z9:=Tryz.sizeOf9,
 v9:=Tryz.zeroValue9 }
abbrev ltB (a b:List UInt8):Bool:=Go.Op.bytesLess a b
theorem ltB_irrefl:∀a,ltB a a=false
 | []=>rfl
 | a::x=>by simp[ltB,Go.Op.bytesLess,UInt8.lt_irrefl,ltB_irrefl x]
theorem ltB_trans:∀ {a b c},ltB a b=true->ltB b c=true->ltB a c=true
 | _,_,[],_,h=>by simp[ltB,Go.Op.bytesLess]at h
 | [],_,_::_,_,_=>rfl
 | _::_,[],_::_,h,_=>by simp[ltB,Go.Op.bytesLess]at h
 | a::x,b::y,c::z,h1,h2=>by
  simp only[ltB,Go.Op.bytesLess,Bool.or_eq_true,decide_eq_true_eq,Bool.and_eq_true,beq_iff_eq]at h1 h2 ⊢
  rcases h1 with h1 | ⟨rfl,h1⟩
  ·rcases h2 with h2 | ⟨rfl,h2⟩
   ·exact .inl (UInt8.lt_trans h1 h2)
   ·exact .inl h1
  ·rcases h2 with h2 | ⟨rfl,h2⟩
   ·exact .inl h2
   ·exact .inr ⟨rfl,ltB_trans h1 h2⟩
theorem ltB_total:∀ {a b},ltB a b=false->ltB b a=false->a=b
 | [],[],_,_=>rfl
 | [],_::_,h,_=>by simp[ltB,Go.Op.bytesLess]at h
 | _::_,[],_,h=>by simp[ltB,Go.Op.bytesLess]at h
 | a::x,b::y,h1,h2=>by
  simp only[ltB,Go.Op.bytesLess,Bool.or_eq_false_iff,decide_eq_false_iff_not,Bool.and_eq_false_iff,beq_eq_false_iff_ne]at h1 h2
  have e:a=b:=UInt8.le_antisymm (UInt8.not_lt.1 h2.1) (UInt8.not_lt.1 h1.1)
  subst e
  rw[ltB_total (a:=x) (b:=y) (h1.2.resolve_left fun h=>h rfl) (h2.2.resolve_left fun h=>h rfl)]
theorem ltB_asymm {a b:List UInt8}(h:ltB a b=true):ltB b a=false:=by
 cases h2:ltB b a with
 | false=>rfl
 | true=>have:=ltB_trans h h2;rw[ltB_irrefl]at this;cases this
theorem cmpT_eq:∀a b:List UInt8,Go.Lib.compareBytes a b=if ltB a b=true then -1 else if ltB b a=true then 1 else 0
 | [],[]=>rfl
 | [],_::_=>rfl
 | _::_,[]=>rfl
 | a::x,b::y=>by
  rw[Go.Lib.compareBytes,cmpT_eq x y]
  by_cases h1:a<b
  ·have:ltB (a::x) (b::y)=true:=by simp[ltB,Go.Op.bytesLess,h1]
   rw[if_pos h1,if_pos this]
  ·by_cases h2:b<a
   ·have e1:ltB (a::x) (b::y)=false:=by
     simp only[ltB,Go.Op.bytesLess,Bool.or_eq_false_iff,decide_eq_false_iff_not,Bool.and_eq_false_iff,beq_eq_false_iff_ne]
     exact⟨h1,.inl fun e=>by subst e;exact h1 h2⟩
    have e2:ltB (b::y) (a::x)=true:=by simp[ltB,Go.Op.bytesLess,h2]
    rw[if_neg h1,if_pos h2,if_neg (by simp[e1]),if_pos e2]
   ·have e:a=b:=UInt8.le_antisymm (UInt8.not_lt.1 h2) (UInt8.not_lt.1 h1)
    subst e
    have e1:ltB (a::x) (a::y)=ltB x y:=by simp[ltB,Go.Op.bytesLess,UInt8.lt_irrefl]
    have e2:ltB (a::y) (a::x)=ltB y x:=by simp[ltB,Go.Op.bytesLess,UInt8.lt_irrefl]
    rw[if_neg h1,if_neg h2,e1,e2]
theorem cmpT_lt (a b:List UInt8):Go.Lib.compareBytes a b<0↔ltB a b=true:=by
 rw[cmpT_eq]
 split
 ·rename_i h;simp[h]
 ·rename_i h
  split
  ·simp[h]
  ·simp[h]
theorem cmpT_zero (a b:List UInt8):Go.Lib.compareBytes a b=0↔a=b:=by
 rw[cmpT_eq]
 split
 ·rename_i h
  constructor
  ·intro e;omega
  ·rintro rfl;rw[ltB_irrefl]at h;cases h
 ·rename_i h
  split
  ·rename_i h2
   constructor
   ·intro e;omega
   ·rintro rfl;rw[ltB_irrefl]at h2;cases h2
  ·rename_i h2
   simp only[true_iff]
   exact ltB_total (by simpa using h) (by simpa using h2)
structure TotB {α:Type}(lt:α->α->Bool):Prop where
 irr:∀a,lt a a=false
 trans:∀a b c,lt a b=true->lt b c=true->lt a c=true
 tot:∀a b,lt a b=false->lt b a=false->a=b
theorem TotB.asymm {α:Type}{lt:α->α->Bool}(h:TotB lt) {a b:α}(h1:lt a b=true):lt b a=false:=by
 cases h2:lt b a with
 | false=>rfl
 | true=>have:=h.trans _ _ _ h1 h2;rw[h.irr]at this;cases this
def lexB {α β:Type} [DecidableEq α] (lt1:α->α->Bool) (lt2:β->β->Bool) (a b:α×β):Bool:=if a.1=b.1 then lt2 a.2 b.2 else lt1 a.1 b.1
theorem lexB_tot {α β:Type} [DecidableEq α] {lt1:α->α->Bool}{lt2:β->β->Bool}(h1:TotB lt1) (h2:TotB lt2):TotB (lexB lt1 lt2):=by
 refine⟨fun a=>?_,fun a b c ha hb=>?_,fun a b ha hb=>?_⟩
 ·unfold lexB
  rw[if_pos rfl,h2.irr]
 ·unfold lexB at *
  by_cases e1:a.1=b.1
  ·rw[if_pos e1]at ha
   by_cases e2:b.1=c.1
   ·rw[if_pos e2]at hb
    rw[if_pos (e1.trans e2)]
    exact h2.trans _ _ _ ha hb
   ·rw[if_neg e2]at hb
    rw[if_neg (by rw[e1];exact e2),e1]
    exact hb
  ·rw[if_neg e1]at ha
   by_cases e2:b.1=c.1
   ·rw[if_neg (by rw[<- e2];exact e1),<- e2]
    exact ha
   ·rw[if_neg e2]at hb
    have h3:=h1.trans _ _ _ ha hb
    rw[if_neg (fun e=>by rw[e,h1.irr]at h3;cases h3)]
    exact h3
 ·unfold lexB at *
  by_cases e1:a.1=b.1
  ·rw[if_pos e1]at ha
   rw[if_pos e1.symm]at hb
   exact Prod.ext e1 (h2.tot _ _ ha hb)
  ·rw[if_neg e1]at ha
   rw[if_neg (fun e=>e1 e.symm)]at hb
   exact absurd (h1.tot _ _ ha hb) e1
theorem ltB_tot:TotB ltB:=⟨ltB_irrefl,fun _ _ _=>ltB_trans,fun _ _=>ltB_total⟩
theorem sorted_same {α:Type}{R:α->α->Prop}:∀ {l m:List α},(∀a b,a∈l->b∈l->R a b->R b a->a=b)->l.Pairwise R->m.Pairwise R->l.Perm m->l=m
 | [],m,_,_,_,hp=>by simpa using hp.symm
 | a::l,[],_,_,_,hp=>by simp at hp
 | a::l,b::m,hx,hl,hm,hp=>by
  obtain⟨l1,l2⟩:=List.pairwise_cons.1 hl
  obtain⟨m1,m2⟩:=List.pairwise_cons.1 hm
  have e:a=b:=by
   have ha:a∈b::m:=hp.mem_iff.1 (by simp)
   have hb:b∈a::l:=hp.mem_iff.2 (by simp)
   rcases List.mem_cons.1 ha with e | ha
   ·exact e
   ·rcases List.mem_cons.1 hb with e | hb
    ·exact e.symm
    ·exact hx a b (by simp) (by simp[hb]) (l1 b hb) (m1 a ha)
  subst e
  rw[sorted_same (fun x y hx1 hy1=>hx x y (by simp[hx1]) (by simp[hy1])) l2 m2 ((List.perm_cons a).1 hp)]
end Go.Proofs.YtafamcbdaeppoaaGreatDoor
