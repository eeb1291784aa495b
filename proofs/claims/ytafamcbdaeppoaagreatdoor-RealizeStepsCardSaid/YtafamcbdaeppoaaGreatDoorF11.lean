/- Texts joined by a program: Cd,Ce,Cf,Da,La,Db,Dc,Dd. -/
import Derived.Test.YtafamcbdaeppoaaGreatDoorF10
set_option linter.unusedSimpArgs false
set_option linter.unusedVariables false
set_option maxHeartbeats 2000000
set_option maxRecDepth 10000
namespace Go.Proofs.YtafamcbdaeppoaaGreatDoor
theorem fold_ok {σ δ ι:Type}{step:σ->ι->Except δ σ}:∀ {items:List ι}{s s':σ},items.foldlM step s=.ok s'->∀p∈items,∃s1 s2,step s1 p=.ok s2
 | [],_,_,_,p,hp=>by simp at hp
 | q::r,s,s',h,p,hp=>by
  rw[List.foldlM_cons]at h
  cases hs:step s q with
  | error e=>rw[hs]at h;simp[bind,Except.bind]at h
  | ok s1=>
   rw[hs]at h
   rcases List.mem_cons.1 hp with rfl | hp
   ·exact⟨s,s1,hs⟩
   ·exact fold_ok (s:=s1) (s':=s') h p hp
theorem preL_mem {y:Expr}{d:Int}{p:Int×Expr}(hp:p∈preE y d):∀ {l:List Expr},y∈l->p∈preL l d
 | [],h=>by simp at h
 | z::l,h=>by
  simp only[preL,List.mem_append]
  rcases List.mem_cons.1 h with rfl | h
  ·exact .inl hp
  ·exact .inr (preL_mem hp h)
theorem right_of {n:Int}:∀(N:Nat) (x:Expr),SizeOf.sizeOf x<N->∀d:Int,(∀p∈preE x d,p.1<=16)->(∀p∈preE x d,nodeR p.2 n=0)->RightE n x
 | 0,_,h,_,_,_=>absurd h (Nat.not_lt_zero _)
 | N+1,x,hN,d,h1,h2=>by
  have hd:d<=16:=h1 (d,x) (by rw[preE_eq];simp)
  refine .mk x (h2 (d,x) (by rw[preE_eq];simp)) fun a ha=>?_
  have hsub:∀p∈preE a (d+1),p∈preE x d:=fun p hp=>by
   rw[preE_eq,if_pos hd]
   exact List.mem_cons_of_mem _ (preL_mem hp ha)
  exact right_of N a (by have:=Expr.lt_of_mem ha;omega) (d+1) (fun p hp=>h1 p (hsub p hp)) fun p hp=>h2 p (hsub p hp)
theorem right_of_check {x:Expr}{n:Int}(h:checkE x n=0):RightE n x∧0<=n∧n<=256:=by
 unfold checkE at h
 split at h
 ·simp at h
 ·rename_i hn
  split at h
  ·simp at h
  ·rename_i s hm
   split at h
   ·rename_i u hf
    refine⟨right_of (SizeOf.sizeOf x+1) x (by omega) 1 (fun p hp=>?_) fun p hp=>?_,by omega,by omega⟩
    ·obtain⟨s1,s2,h1⟩:=fold_ok hm p hp
     unfold measS at h1
     split at h1
     ·cases h1
     ·omega
    ·obtain⟨s1,s2,h1⟩:=fold_ok hf p hp
     unfold nodeS at h1
     split at h1
     ·cases h1
     ·rename_i h2;simpa using h2
   ·rename_i e hf
    -- an error is never 0
    have:∀(l:List (Int×Expr)),l.foldlM (nodeS n) ()=.error e->e≠0:=by
     intro l
     induction l with
     | nil=>intro h;simp[pure,Except.pure]at h
     | cons p l ih=>
      intro h
      rw[List.foldlM_cons]at h
      by_cases hz:nodeR p.2 n=0
      ·simp only[nodeS,hz,ne_eq,not_true_eq_false,if_false]at h
       exact ih h
      ·simp only[nodeS,hz,ne_eq,not_false_eq_true,if_true]at h
       injection h with h
       rw[<- h];exact hz
    exact absurd h (this _ hf)
theorem evalx_fn (x:Expr) (hx:OkE x) (vs:List Bool) (hv:vs.length<=9223372036854775807):CallFn Tryz.prog 116 [aE x,aBs vs] (.tuple (if checkE x vs.length=0 then [.dat (.bool (evalE x vs)),.dat (.int .i64 0)] else [.dat (.bool false),.dat (.int .i64 (checkE x vs.length))])):=by
 refine callFn_of Tryz.func116 rfl Tryz.ntmps116 (rs:=[.tmp 4,.tmp 5]) rfl (by kernel_rfl) (by simp) (by kernel_rfl) ?_
 simp
 refine (check_fn x hx vs.length).s ?_
 simp
 by_cases hc:checkE x vs.length=0
 ·obtain⟨h1,h2,h3⟩:=right_of_check hc
  simp[hc]
  refine (eval_fn (SizeOf.sizeOf x+1) x (by omega) hx vs (by omega) h1).s ?_
  simp[hc]
 ·simp[hc]
mutual
def cntE:Expr->Int->Int
 | ⟨_,_,args⟩,m=>cntL args m 1
def cntL:List Expr->Int->Int->Int
 | [],_,n=>n
 | x::xs,m,n=>if n<=m then cntL xs m (n+cntE x (m-n)) else n
end
theorem cntE_eq (x:Expr) (m:Int):cntE x m=cntL x.args m 1:=by cases x;simp[cntE]
theorem cnt_le:∀(N:Nat) (x:Expr),SizeOf.sizeOf x<N->∀m:Int,0<=m->1<=cntE x m∧cntE x m<=m+1
 | 0,_,h,_,_=>absurd h (Nat.not_lt_zero _)
 | N+1,x,hN,m,hm=>by
  rw[cntE_eq]
  have:∀l:List Expr,(∀y∈l,y∈x.args)->∀n:Int,1<=n->n<=m+1->1<=cntL l m n∧cntL l m n<=m+1:=by
   intro l
   induction l with
   | nil=>intro _ n h1 h2;simp[cntL];omega
   | cons y l ih=>
    intro hl n h1 h2
    rw[cntL]
    split
    ·rename_i hle
     have hy:=cnt_le N y (by have:=Expr.lt_of_mem (hl y (by simp));omega) (m-n) (by omega)
     exact ih (fun z hz=>hl z (by simp[hz])) _ (by omega) (by omega)
    ·exact⟨h1,h2⟩
  exact this x.args (fun _ h=>h) 1 (by omega) (by omega)
theorem count_fn:∀(N:Nat) (x:Expr),SizeOf.sizeOf x<N->OkE x->∀m:Int,0<=m->m<=100000->CallFn Tryz.prog 159 [aE x,.dat (.int .i64 m)] (.dat (.int .i64 (cntE x m)))
 | 0,_,h,_,_,_,_=>absurd h (Nat.not_lt_zero _)
 | N+1,x,hN,hx,m,h0,h1=>by
  refine callFn_of Tryz.func159 rfl Tryz.ntmps159 (rs:=[.tmp 4]) rfl (by kernel_rfl) (by simp) (by kernel_rfl) ?_
  simp
  refine V.for [1,2] (fun p:Nat×Int=>[(6,.dat (.int .i64 (p.1:Nat))),(5,.dat (.int .i64 p.2))]) (fun _=>[])
   (fun p=>p.1<=x.args.length∧1<=p.2∧p.2<=m+1∧cntL (x.args.drop p.1) m p.2=cntE x m) (fun p=>x.args.length-p.1) (0,1) ⟨by simp[cntE_eq];omega,by simp,by simp⟩ ?_
  rintro⟨i,n⟩ ⟨hi,hn1,hn2,hinv⟩
  simp only at hi hn1 hn2 hinv
  have hlen:=hx.len
  by_cases hlt:i<x.args.length
  ·obtain⟨y,hy1⟩:∃y,x.args[i]'hlt=y:=⟨_,rfl⟩
   have hy0:x.args[i]?=some y:=by rw[List.getElem?_eq_getElem hlt,hy1]
   have hmem:y∈x.args:=List.mem_of_getElem? hy0
   rw[List.drop_eq_getElem_cons hlt,hy1,cntL]at hinv
   by_cases hnm:n<=m
   ·rw[if_pos hnm]at hinv
    have hle:=cnt_le N y (by have:=Expr.lt_of_mem hmem;omega) (m-n) (by omega)
    simp[hlt,hy1,hnm,encE_eq]
    refine⟨by omega,?_⟩
    refine (count_fn N y (by have:=Expr.lt_of_mem hmem;omega) (hx.args y hmem) (m-n) (by omega) (by omega)).s ?_
    simp
    exact⟨by omega,by omega,i+1,n+cntE y (m-n),⟨by omega,by omega,by omega,hinv⟩,by omega,by simp,rfl⟩
   ·rw[if_neg hnm]at hinv
    simp[hlt,hnm,hinv]
    intro h
    exact absurd h (by omega)
  ·have hie:i=x.args.length:=by omega
   subst hie
   simp[cntL]at hinv
   simp[hinv]
mutual
def deepE:Expr->Int->Bool
 | ⟨_,_,args⟩,m=>if m<1 then false else if m=1 then args.length==0 else deepL args (m-1)
def deepL:List Expr->Int->Bool
 | [],_=>true
 | x::xs,m=>deepE x m&&deepL xs m
end
theorem deepE_eq (x:Expr) (m:Int):deepE x m=if m<1 then false else if m=1 then x.args.length==0 else deepL x.args (m-1):=by cases x;simp[deepE]
theorem deep_fn:∀(N:Nat) (x:Expr),SizeOf.sizeOf x<N->OkE x->∀m:Int,-100000<=m->m<=100000->CallFn Tryz.prog 160 [aE x,.dat (.int .i64 m)] (.dat (.bool (deepE x m)))
 | 0,_,h,_,_,_,_=>absurd h (Nat.not_lt_zero _)
 | N+1,x,hN,hx,m,h0,h1=>by
  refine callFn_of Tryz.func160 rfl Tryz.ntmps160 (rs:=[.tmp 4]) rfl (by kernel_rfl) (by simp) (by kernel_rfl) ?_
  by_cases hm1:m<1
  ·simp[hm1,deepE_eq x]
  by_cases hm2:m=1
  ·subst hm2
   simp[deepE_eq x]
   cases x.args<;>simp
   omega
  have e:deepE x m=deepL x.args (m-1):=by rw[deepE_eq,if_neg hm1,if_neg hm2]
  simp[hm1,hm2]
  refine V.for [1,2] (fun i:Nat=>[(5,.dat (.int .i64 (i:Nat)))]) (fun _=>[])
   (fun i=>i<=x.args.length∧deepL (x.args.drop i) (m-1)=deepE x m) (fun i=>x.args.length-i) 0 ⟨by simp[e],by simp,by simp⟩ ?_
  rintro i ⟨hi,hinv⟩
  have hlen:=hx.len
  by_cases hlt:i<x.args.length
  ·obtain⟨y,hy1⟩:∃y,x.args[i]'hlt=y:=⟨_,rfl⟩
   have hy0:x.args[i]?=some y:=by rw[List.getElem?_eq_getElem hlt,hy1]
   have hmem:y∈x.args:=List.mem_of_getElem? hy0
   rw[List.drop_eq_getElem_cons hlt,hy1,deepL]at hinv
   simp[hlt,hy1,encE_eq]
   refine⟨by omega,?_⟩
   refine (deep_fn N y (by have:=Expr.lt_of_mem hmem;omega) (hx.args y hmem) (m-1) (by omega) (by omega)).s ?_
   simp
   cases hd:deepE y (m-1) with
   | false=>simp[hd]at hinv;simp[hinv]
   | true=>
    simp[hd]at hinv
    simp
    exact⟨by omega,i+1,⟨hlt,hinv⟩,by omega,by simp⟩
  ·have hie:i=x.args.length:=by omega
   subst hie
   simp[deepL]at hinv
   simp[<- hinv]
def lightE (x:Expr):Bool:=decide (cntE x 256<=256)&&deepE x 16
theorem light_fn (x:Expr) (hx:OkE x):CallFn Tryz.prog 95 [aE x] (.dat (.bool (lightE x))):=by
 refine callFn_of Tryz.func95 rfl Tryz.ntmps95 (rs:=[.tmp 2]) rfl (by kernel_rfl) (by simp) (by kernel_rfl) ?_
 simp
 refine (count_fn (SizeOf.sizeOf x+1) x (by omega) hx 256 (by omega) (by omega)).s ?_
 simp
 refine GCall.fn (.dat (.bool (deepE x 16))) (fun h=>⟨by first | trivial | exact h,deep_fn (SizeOf.sizeOf x+1) x (by omega) hx 16 (by omega) (by omega)⟩) ?_
 by_cases h:cntE x 256<=256
 ·simp[h,lightE]
 ·simp[h,lightE]
def nodeT (x:Expr) (n:Int):Int:=
 if x.op<0∨x.op>=5 then 1
 else
  let k:Int:=x.args.length
  if (x.op<=1∧k≠0)∨(x.op=2∧k≠1)∨(x.op>=3∧k<2) then 3
  else
   let most:=if x.op=0 then 2 else if x.op=1 then n else 1
   if x.index<0∨x.index>=most then 2 else 0
theorem nodeT_fn (x:Expr) (n:Int):CallFn Tryz.prog 340 [aE x,.dat (.int .i64 n)] (.dat (.int .i64 (nodeT x n))):=by
 refine callFn_of Tryz.func340 rfl Tryz.ntmps340 (rs:=[.tmp 4]) rfl (by kernel_rfl) (by simp) (by kernel_rfl) ?_
 by_cases hop:x.op<0∨x.op>=5
 ·simp[nodeT,hop]
  omega
 ·obtain ho | ho | ho | ho | ho:x.op=0∨x.op=1∨x.op=2∨x.op=3∨x.op=4:=by omega
  all_goals
   simp[ho,reads]
   and_intros<;>intros<;>simp only[nodeT,ho]<;>(cases hk:x.args<;>simp_all<;>omega)
mutual
def nodesE:Expr->Int->Int
 | ⟨op,ix,args⟩,n=>if nodeT ⟨op,ix,args⟩ n≠0 then nodeT ⟨op,ix,args⟩ n else nodesL args n
def nodesL:List Expr->Int->Int
 | [],_=>0
 | x::xs,n=>if nodesE x n≠0 then nodesE x n else nodesL xs n
end
theorem nodesE_eq (x:Expr) (n:Int):nodesE x n=if nodeT x n≠0 then nodeT x n else nodesL x.args n:=by cases x;simp[nodesE]
theorem nodes_fn:∀(N:Nat) (x:Expr),SizeOf.sizeOf x<N->OkE x->∀n:Int,CallFn Tryz.prog 270 [aE x,.dat (.int .i64 n)] (.dat (.int .i64 (nodesE x n)))
 | 0,_,h,_,_=>absurd h (Nat.not_lt_zero _)
 | N+1,x,hN,hx,n=>by
  refine callFn_of Tryz.func270 rfl Tryz.ntmps270 (rs:=[.tmp 4]) rfl (by kernel_rfl) (by simp) (by kernel_rfl) ?_
  simp
  refine (nodeT_fn x n).s ?_
  by_cases hz:nodeT x n=0
  ·have e:nodesE x n=nodesL x.args n:=by rw[nodesE_eq,if_neg (by simp[hz])]
   simp[hz]
   refine V.for [1,2] (fun i:Nat=>[(6,.dat (.int .i64 (i:Nat)))]) (fun _=>[])
    (fun i=>i<=x.args.length∧nodesL (x.args.drop i) n=nodesE x n) (fun i=>x.args.length-i) 0 ⟨by simp[e],by simp,by simp⟩ ?_
   rintro i ⟨hi,hinv⟩
   have hlen:=hx.len
   by_cases hlt:i<x.args.length
   ·obtain⟨y,hy1⟩:∃y,x.args[i]'hlt=y:=⟨_,rfl⟩
    have hy0:x.args[i]?=some y:=by rw[List.getElem?_eq_getElem hlt,hy1]
    have hmem:y∈x.args:=List.mem_of_getElem? hy0
    rw[List.drop_eq_getElem_cons hlt,hy1,nodesL]at hinv
    simp[hlt,hy1,encE_eq]
    refine (nodes_fn N y (by have:=Expr.lt_of_mem hmem;omega) (hx.args y hmem) n).s ?_
    by_cases hd:nodesE y n=0
    ·simp[hd]at hinv
     simp[hd]
     exact⟨by omega,i+1,⟨hlt,hinv⟩,by omega,by simp⟩
    ·simp[hd]at hinv
     rw[<- hinv]
     simp[hd]
   ·have hie:i=x.args.length:=by omega
    subst hie
    simp[nodesL]at hinv
    simp[<- hinv]
  ·have e:nodesE x n=nodeT x n:=by rw[nodesE_eq,if_pos hz]
   rw[e]
   simp[hz]
def refCheckE (x:Expr) (n:Int):Int:=if n<0∨n>256 then 2 else if lightE x=false then 5 else nodesE x n
theorem refCheck_fn (x:Expr) (hx:OkE x) (n:Int):CallFn Tryz.prog 189 [aE x,.dat (.int .i64 n)] (.dat (.int .i64 (refCheckE x n))):=by
 refine callFn_of Tryz.func189 rfl Tryz.ntmps189 (rs:=[.tmp 4]) rfl (by kernel_rfl) (by simp) (by kernel_rfl) ?_
 simp
 refine⟨fun h=>by simp[refCheckE,h],fun h0 h1=>?_⟩
 refine (light_fn x hx).s ?_
 cases hl:lightE x with
 | false=>simp[refCheckE,hl,Int.not_lt.2 h0,Int.not_lt.2 h1]
 | true=>
  simp
  refine (nodes_fn (SizeOf.sizeOf x+1) x (by omega) hx n).s ?_
  simp[refCheckE,hl,Int.not_lt.2 h0,Int.not_lt.2 h1]
def firstC (c:Control):Int:=2*c.actuators+c.inputs.length
def countC (c:Control):Int:=2*c.actuators+c.inputs.length+c.signals.length
theorem first_fn (c:Control) (h:Sm c):CallFn Tryz.prog 119 [aC c] (aI (firstC c)):=by
 obtain⟨h1,h2,h3⟩:=h
 refine callFz_of Tryz.func119 rfl Tryz.ntmps119 (rs:=[.tmp 2]) rfl (by kernel_rfl) (by simp) (by kernel_rfl) ?_
 simp[firstC]
 omega
theorem signals_fn (c:Control) (h:Sm c):CallFn Tryz.prog 23 [aC c] (aI (firstC c)):=by
 obtain⟨h1,h2,h3⟩:=h
 refine callFz_of Tryz.func23 rfl Tryz.ntmps23 (rs:=[.tmp 2]) rfl (by kernel_rfl) (by simp) (by kernel_rfl) ?_
 simp[firstC]
 omega
theorem lines_fn (c:Control) (h:Sm c):CallFn Tryz.prog 190 [aC c] (aI (countC c)):=by
 obtain⟨h1,h2,h3⟩:=h
 refine callFz_of Tryz.func190 rfl Tryz.ntmps190 (rs:=[.tmp 2]) rfl (by kernel_rfl) (by simp) (by kernel_rfl) ?_
 simp[countC]
 omega
theorem count_c (c:Control) (h:Sm c):CallFn Tryz.prog 83 [aC c] (aI (countC c)):=by
 refine callFz_of Tryz.func83 rfl Tryz.ntmps83 (rs:=[.tmp 2]) rfl (by kernel_rfl) (by simp) (by kernel_rfl) ?_
 simp
 refine V.draw (fun s=>if s=4 then some (.fn (aI (firstC c))) else none) (by kernel_rfl) (by kernel_rfl) (by simp) ?_
 have:=first_fn c h
 obtain⟨h1,h2,h3⟩:=h
 simp[reads,firstC,countC]
 simp[firstC]at this
 exact⟨this,by omega,by omega⟩
def zeroE (x:Expr):Bool:=x.op==0&&x.index==0&&(x.args.length:Int)==0
theorem zero_fn (x:Expr):CallFn Tryz.prog 323 [aE x] (aB (zeroE x)):=by
 refine callFz_of Tryz.func323 rfl Tryz.ntmps323 (rs:=[.tmp 2]) rfl (by kernel_rfl) (by simp) (by kernel_rfl) ?_
 simp[reads,zeroE]
theorem zeroR_fn (x:Expr):CallFn Tryz.prog 192 [aE x] (aB (zeroE x)):=by
 refine callFz_of Tryz.func192 rfl Tryz.ntmps192 (rs:=[.tmp 2]) rfl (by kernel_rfl) (by simp) (by kernel_rfl) ?_
 simp[reads,zeroE]
def lineName (k:Int):List UInt8:=encU (97+k.tdiv 2)++encU (48+k.tmod 2)
def namedC (c:Control) (k:Int):List UInt8:=
 if k<2*c.actuators then lineName k
 else if k<firstC c then c.inputs.getD (k-2*c.actuators).toNat []
 else ((c.signals[(k-firstC c).toNat]?).map (·.name)).getD []
theorem encU_ascii {n:Int}(h0:0<=n) (h1:n<128):encU n=[UInt8.ofNat n.toNat]:=by
 have hv:Utf8.valid n=true:=by simp[Utf8.valid];omega
 simp only[encU,Utf8.encode,hv,if_true]
 rw[if_pos (by omega)]
theorem named_sig {c:Control}{k:Int}{s:Signal}(h0:firstC c<=k) (ha:2*c.actuators<=firstC c) (hs:c.signals[(k-firstC c).toNat]?=some s):namedC c k=s.name:=by
 unfold namedC
 rw[if_neg (by omega),if_neg (by omega),hs]
 rfl
theorem named_inp {c:Control}{k:Int}{s:List UInt8}(h0:2*c.actuators<=k) (h1:k<firstC c) (hs:c.inputs[(k-2*c.actuators).toNat]?=some s):namedC c k=s:=by
 unfold namedC
 rw[if_neg (by omega),if_pos h1,List.getD_eq_getElem?_getD,hs]
 rfl
theorem getI {α:Type}{l:List α}{k:Int}(h0:0<=k) (h1:k<l.length):∃y,l[k.toNat]?=some y:=⟨_,List.getElem?_eq_getElem (by omega)⟩
theorem named_fn (c:Control) (h:Sm c) (ha:0<=c.actuators∧c.actuators<=6) (k:Int) (h0:0<=k) (h1:k<countC c):CallFn Tryz.prog 241 [aC c,aI k] (aT (namedC c k)):=by
 have hs:=h
 obtain⟨g1,g2,g3⟩:=h
 have hf:firstC c=2*c.actuators+c.inputs.length:=rfl
 have hcn:countC c=2*c.actuators+c.inputs.length+c.signals.length:=rfl
 refine callFz_of Tryz.func241 rfl Tryz.ntmps241 (rs:=[.tmp 4]) rfl (by kernel_rfl) (by simp) (by kernel_rfl) ?_
 simp
 refine (first_fn c hs).s ?_
 by_cases hk1:k<2*c.actuators
 ·simp[hk1]
  have ed:k.tdiv 2=k / 2:=Int.tdiv_eq_ediv_of_nonneg h0
  have em:k.tmod 2=k % 2:=Int.tmod_eq_emod_of_nonneg h0
  have e1:=encU_ascii (n:=97+k.tdiv 2) (by omega) (by omega)
  have e2:=encU_ascii (n:=48+k.tmod 2) (by omega) (by omega)
  rw[show namedC c k=encU (97+k.tdiv 2)++encU (48+k.tmod 2) by unfold namedC;rw[if_pos hk1];rfl,e1,e2]
  simp
  omega
 ·by_cases hk2:k<firstC c
  ·obtain⟨y,hy⟩:=getI (l:=c.inputs) (k:=k-2*c.actuators) (by omega) (by omega)
   rw[named_inp (by omega) hk2 hy]
   simp[hk1,hk2,hy]
   omega
  ·obtain⟨y,hy⟩:=getI (l:=c.signals) (k:=k-firstC c) (by omega) (by omega)
   rw[named_sig (by omega) (by omega) hy]
   simp[hk1,hk2,hy]
   omega
theorem NamedR_fn (c:Control) (h:Sm c) (ha:0<=c.actuators∧c.actuators<=6) (k:Int) (h0:0<=k) (h1:k<countC c):CallFn Tryz.prog 187 [aC c,aI k] (aT (namedC c k)):=by
 have hs:=h
 obtain⟨g1,g2,g3⟩:=h
 have hf:firstC c=2*c.actuators+c.inputs.length:=rfl
 have hcn:countC c=2*c.actuators+c.inputs.length+c.signals.length:=rfl
 refine callFz_of Tryz.func187 rfl Tryz.ntmps187 (rs:=[.tmp 4]) rfl (by kernel_rfl) (by simp) (by kernel_rfl) ?_
 by_cases hk1:k<2*c.actuators
 ·simp[hk1]
  refine⟨by omega,V.draw (fun _=>none) (by kernel_rfl) (by kernel_rfl) (by simp) ?_⟩
  have ed:k.tdiv 2=k / 2:=Int.tdiv_eq_ediv_of_nonneg h0
  have em:k.tmod 2=k % 2:=Int.tmod_eq_emod_of_nonneg h0
  have e1:=encU_ascii (n:=97+k.tdiv 2) (by omega) (by omega)
  have e2:=encU_ascii (n:=48+k.tmod 2) (by omega) (by omega)
  rw[show namedC c k=encU (97+k.tdiv 2)++encU (48+k.tmod 2) by unfold namedC;rw[if_pos hk1];rfl,e1,e2]
  simp[reads]
  obtain hk | hk | hk | hk | hk | hk | hk | hk | hk | hk | hk | hk:k=0∨k=1∨k=2∨k=3∨k=4∨k=5∨k=6∨k=7∨k=8∨k=9∨k=10∨k=11:=by omega
  all_goals (subst hk;simp)<;>omega
 ·simp[hk1]
  refine⟨by omega,(signals_fn c hs).s ?_⟩
  by_cases hk2:k<firstC c
  ·obtain⟨y,hy⟩:=getI (l:=c.inputs) (k:=k-2*c.actuators) (by omega) (by omega)
   rw[named_inp (by omega) hk2 hy]
   simp[hk2,hy]
   omega
  ·obtain⟨y,hy⟩:=getI (l:=c.signals) (k:=k-firstC c) (by omega) (by omega)
   rw[named_sig (by omega) (by omega) hy]
   simp[hk2]
   refine V.draw (fun s=>if s=40 then some (.fn (aI (firstC c))) else none) (by kernel_rfl) (by kernel_rfl) (by simp) ?_
   simp[reads,hy]
   exact⟨signals_fn c hs,by omega⟩
def partB (b:UInt8):Bool:=(97<=b.toNat&&b.toNat<=122)||(65<=b.toNat&&b.toNat<=90)||(48<=b.toNat&&b.toNat<=57)||b.toNat==95
def partI (b:Int):Bool:=(decide (97<=b)&&decide (b<=122))||(decide (65<=b)&&decide (b<=90))||(decide (48<=b)&&decide (b<=57))||b==95
theorem part_fn (b:Int) (h0:0<=b) (h1:b<=255):CallFn Tryz.prog 326 [.dat (.int .u8 b)] (aB (partI b)):=by
 refine callFz_of Tryz.func326 rfl Tryz.ntmps326 (rs:=[.tmp 2]) rfl (by kernel_rfl) (by simp) (by kernel_rfl) ?_
 simp[reads,partI]
 omega
theorem take_eq {α:Type}{xs ys:List α}{i:Nat}{x y:α}(h:xs.take i=ys.take i) (hx:xs[i]?=some x) (hy:ys[i]?=some y) (e:x=y):xs.take (i+1)=ys.take (i+1):=by
 rw[List.take_add_one,List.take_add_one,h,hx,hy,e]
theorem ne_of_get {α:Type}{xs ys:List α}{i:Nat}{x y:α}(hx:xs[i]?=some x) (hy:ys[i]?=some y) (e:x≠y):xs≠ys:=by
 rintro rfl;rw[hx]at hy;exact e (Option.some.inj hy)
def NoF {α:Type}(p:α->Bool) (xs:List α):Prop:=∀y∈xs,p y=false
@[simp] theorem NoF_nil {α:Type}(p:α->Bool):NoF p []=True:=by simp[NoF]
theorem findIdx_step {α:Type}{p:α->Bool}{xs:List α}{i:Nat}{x:α}(h:NoF p (xs.take i)) (hx:xs[i]?=some x):(p x=false->NoF p (xs.take (i+1)))∧(p x=true->xs.findIdx? p=some i):=by
 obtain⟨hi,rfl⟩:=List.getElem?_eq_some_iff.1 hx
 constructor
 ·intro e y hy
  rw[List.take_add_one,hx]at hy
  rcases List.mem_append.1 hy with hy | hy
  ·exact h y hy
  ·simp at hy;subst hy;exact e
 ·intro e
  rw[List.findIdx?_eq_some_iff_getElem]
  refine⟨hi,e,fun j hj=>?_⟩
  have:=h xs[j] (List.mem_take_iff_getElem.2 ⟨j,by omega,rfl⟩)
  simp[this]
theorem findIdx_none {α:Type}{p:α->Bool}{xs:List α}(h:NoF p (xs.take xs.length)):xs.findIdx? p=none:=by
 rw[List.take_length]at h
 rw[List.findIdx?_eq_none_iff]
 intro x hx
 simp[h x hx]
def idxI (o:Option Nat):Int:=match o with
 | some i=>i
 | none=>-1
@[simp] theorem idxI_some (i:Nat):idxI (some i)=i:=rfl
@[simp] theorem idxI_none:idxI none = -1:=rfl
theorem idxI_ge (o:Option Nat):decide (0<=idxI o)=o.isSome:=by cases o<;>simp[idxI]<;>omega
theorem eqI_fn (xs ys:List (Int)) (hx:Sh xs) (hy:Sh ys):CallFn Tryz.prog 37 [aIs xs,aIs ys] (aB (decide (xs=ys))):=by
 refine callFz_of Tryz.func37 rfl Tryz.ntmps37 (rs:=[.tmp 4]) rfl (by kernel_rfl) (by simp) (by kernel_rfl) ?_
 by_cases hl:xs.length=ys.length
 ·simp[hl]
  refine V.forI (σ:=Unit) xs.length [0,1,12] (by simp;exact rfl) (fun i _=>[(13,aI i)]) (fun _ _=>[]) (fun i _=>xs.take i=ys.take i) () (by simp) (by simp) ⟨by simp;exact rfl,by simp⟩ ?_ ?_
  ·rintro i-hi hI
   have h1:=List.getElem?_eq_getElem hi
   have h2:=List.getElem?_eq_getElem (show i<ys.length by omega)
   simp[<- hl,hi]
   refine V.draw (fun _=>none) (by kernel_rfl) (by kernel_rfl) (by simp) ?_
   simp[reads,h1,h2,<- hl,hi]
   by_cases e:xs[i]=ys[i]
   ·simp[e]
    exact⟨by omega,take_eq hI h1 h2 e⟩
   ·simp[e]
    exact ne_of_get h1 h2 e
  ·rintro-hI
   rw[List.take_length,hl,List.take_length]at hI
   simp[hl,hI]
 ·have hl':¬(xs.length:Int)=ys.length:=by omega
  simp[hl']
  rintro rfl
  exact hl rfl
theorem idxF_fn (xs:List Int) (p:Int->Bool) (f:FuncId) (first caps:List A) (hx:Sh xs) (hp:∀n∈xs,CallFn Tryz.prog f (first++[aI n]++caps) (aB (p n))) :
  CallFn Tryz.prog 156 [aIs xs,.fn f first caps] (aI (idxI (xs.findIdx? p))):=by
 refine callFz_of Tryz.func156 rfl Tryz.ntmps156 (rs:=[.tmp 4]) rfl (by kernel_rfl) (by simp) (by kernel_rfl) ?_
 simp
 refine V.forI (σ:=Unit) xs.length [0,1,7] (by simp;exact rfl) (fun i _=>[(8,aI i)]) (fun _ _=>[]) (fun i _=>NoF p (xs.take i)) () (by simp) (by simp) ⟨by simp;exact rfl,by simp⟩ ?_ ?_
 ·rintro i-hi hI
  have h1:=List.getElem?_eq_getElem hi
  have hs:=findIdx_step (p:=p) hI h1
  have hc:=hp xs[i] (List.getElem_mem hi)
  simp at hc
  simp[hi,h1]
  refine hc.s ?_
  cases e:p xs[i]
  ·simp
   exact⟨by omega,hs.1 e⟩
  ·rw[hs.2 e]
   simp
 ·rintro-hI
  rw[findIdx_none hI]
  simp
theorem containsF_fn (xs:List Int) (p:Int->Bool) (f:FuncId) (first caps:List A) (hx:Sh xs) (hp:∀n∈xs,CallFn Tryz.prog f (first++[aI n]++caps) (aB (p n))) :
  CallFn Tryz.prog 87 [aIs xs,.fn f first caps] (aB (xs.any p)):=by
 refine callFz_of Tryz.func87 rfl Tryz.ntmps87 (rs:=[.tmp 4]) rfl (by kernel_rfl) (by simp) (by kernel_rfl) ?_
 simp
 refine (idxF_fn xs p f first caps hx hp).s ?_
 simp
 rw[idxI_ge,List.findIdx?_isSome]
theorem CallS.nilcase {g:FuncId}{xs:List (List L)}{az bz:List A}{H:Heap}{K:A->Heap->Prop}(h1:xs=[]->CallS Tryz.prog g (az++.nils::bz) H K) (h2:CallS Tryz.prog g (az++.nn xs::bz) H K):CallS Tryz.prog g (az++.dat (.sl xs)::bz) H K:=by
 refine⟨h2.1,fun x args H0 hi hd=>?_⟩
 have key:∀ {b:A},(∀v,D x (.dat (.sl xs)) v->D x b v->True)->True:=fun _=>trivial
 have hl:=hd.length
 have hsplit:∃v us ws,args.toList=us++v::ws∧Ds x az us∧D x (.dat (.sl xs)) v∧Ds x bz ws:=by
  have e:=List.take_append_drop az.length args.toList
  have ht:=hd.take az.length
  have hdr:=hd.drop az.length
  simp only[List.take_left,List.drop_left]at ht hdr
  cases hw:args.toList.drop az.length with
  | nil=>rw[hw]at hdr;simp[Ds]at hdr
  | cons v ws=>
   rw[hw]at hdr e
   simp only[Ds]at hdr
   exact⟨v,_,ws,e.symm,ht,hdr.1,hdr.2⟩
 obtain⟨v,us,ws,e,d1,d2,d3⟩:=hsplit
 by_cases hv:v=.slice none 0 0
 ·subst hv
  have hx:xs=[]:=by
   simp only[D,RdL]at d2
   rcases d2 with⟨_,h⟩|⟨b,off,cap,h,_⟩|⟨_,h,_⟩
   ·exact h
   ·cases h
   ·cases h
  refine (h1 hx).2 x args H0 hi ?_
  rw[e]
  exact d1.append (by simp[Ds,D];exact d3)
 ·refine h2.2 x args H0 hi ?_
  rw[e]
  exact d1.append (by simp only[Ds,D];exact⟨⟨by simpa [D]using d2,hv⟩,d3⟩)
theorem cloneI_o (xs:List (Int)) (hx:xs.length<=4294967296):CallOwn Tryz.prog 78 [aIs xs] 3 1 (xs.map rI):=by
 refine CallS.nilcase (az:=[]) (bz:=[]) ?_ ?_
 ·intro hn
  have hn:xs=[]:=by simpa using hn
  subst hn
  refine callO_of Tryz.func78 rfl Tryz.ntmps78 (rs:=[.tmp 2]) rfl (by kernel_rfl) (by simp) (by kernel_rfl) ?_
  simp
 ·refine callO_of Tryz.func78 rfl Tryz.ntmps78 (rs:=[.tmp 2]) rfl (by kernel_rfl) (by simp) (by kernel_rfl) ?_
  simp
  omega
theorem cloneB_o (xs:List (Bool)) (hx:xs.length<=4294967296):CallOwn Tryz.prog 118 [aBs xs] 4 1 (xs.map rB):=by
 refine CallS.nilcase (az:=[]) (bz:=[]) ?_ ?_
 ·intro hn
  have hn:xs=[]:=by simpa using hn
  subst hn
  refine callO_of Tryz.func118 rfl Tryz.ntmps118 (rs:=[.tmp 2]) rfl (by kernel_rfl) (by simp) (by kernel_rfl) ?_
  simp
 ·refine callO_of Tryz.func118 rfl Tryz.ntmps118 (rs:=[.tmp 2]) rfl (by kernel_rfl) (by simp) (by kernel_rfl) ?_
  simp
  omega
theorem CallS.rt' {P:Program}{k:Nat}{g:FuncId}{az:List A}{H:Heap}{K:A->Heap->Prop}(h:CallS P g az H K):CallS P g az (Go.Proofs.YtafamcbdaeppoaaGreatDoor.rt k H) fun r H'=>∃H2,H'=Go.Proofs.YtafamcbdaeppoaaGreatDoor.rt k H2∧K r H2:=by
 refine⟨h.1,fun x args H0 hi hd=>(h.2 x args H0 (hi.ents (by simp[rt_snd])) hd).mono ?_⟩
 rintro _ _ ⟨y,v,r,H',a,b,c,d,e,g⟩
 exact⟨y,v,r,Go.Proofs.YtafamcbdaeppoaaGreatDoor.rt k H',a,b,c,d.ents (by simp[rt_snd]),e,H',rfl,g⟩
theorem get!_list (s:List UInt8) (i:Nat) (h:i<s.length):(ByteArray.mk s.toArray).get! i=s[i]:=by
 simp[ByteArray.get!,h]
theorem decode_ascii {s:List UInt8}{i:Nat}(h:i<s.length) (hb:s[i].toNat<128):Utf8.decode ⟨s.toArray⟩ i=(s[i].toNat,1):=by
 simp[Utf8.decode,get!_list s i h,hb]
theorem decode_high {s:List UInt8}{i:Nat}(h:i<s.length) (hb:128<=s[i].toNat):128<=(Utf8.decode ⟨s.toArray⟩ i).1∧(Utf8.decode ⟨s.toArray⟩ i).1<=1114111:=by
 have hv:∀c:Nat,Utf8.valid c=true->c<=1114111:=by
  intro c hc
  simp[Utf8.valid]at hc
  omega
 have hlt:s[i].toNat<256:=s[i].toNat_lt
 simp only[Utf8.decode,Nat.add_zero,get!_list s i h,Utf8.runeError]
 rw[if_neg (by omega)]
 split
 ·split<;>simp<;>omega
 ·split
  ·split
   ·rename_i h1
    simp only[Bool.and_eq_true,decide_eq_true_eq]at h1
    exact⟨by simp only[];omega,hv _ h1.2⟩
   ·simp
  ·split
   ·split
    ·rename_i h1
     simp only[Bool.and_eq_true,decide_eq_true_eq]at h1
     exact⟨by simp only[];omega,hv _ h1.2⟩
    ·simp
   ·simp
theorem indexFuncS_fn (s:List UInt8) (hs:Sh s) (p:Int->Bool) (hp:∀r,128<=r->p r=true) (f:FuncId) (first caps:List A)
  (hf:∀r,0<=r->r<=1114111->CallFn Tryz.prog f (first++[.dat (.int .i32 r)]++caps) (aB (p r))) :
  CallFn Tryz.prog 397 [aT s,.fn f first caps,aB true] (aI (idxI (s.findIdx? fun b=>p b.toNat))):=by
 refine callFz_of Tryz.func397 rfl Tryz.ntmps397 (rs:=[.tmp 6]) rfl (by kernel_rfl) (by simp) (by kernel_rfl) ?_
 simp
 intro b
 refine V.forI (σ:=Unit) s.length [1,2,10] (by simp;exact rfl) (fun _ _=>[]) (fun i _=>[(10,.raw b (.stringIter ⟨s.toArray⟩ i))]) (fun i _=>NoF (fun b:UInt8=>p b.toNat) (s.take i)) () (by simp) (by simp) ⟨by simp;exact rfl,by simp⟩ ?_ ?_
 ·rintro i-hi hI
  have h1:=List.getElem?_eq_getElem hi
  have hs1:=findIdx_step (p:=fun b:UInt8=>p b.toNat) hI h1
  have hsz:i<(ByteArray.mk s.toArray).size:=by simpa [ByteArray.size]using hi
  rcases Nat.lt_or_ge s[i].toNat 128 with hb | hb
  ·have hd:=decode_ascii hi hb
   have hc:=hf s[i].toNat (by omega) (by omega)
   simp at hc
   simp[hsz,hd]
   refine hc.s ?_
   cases e:p s[i].toNat
   ·simp
    exact hs1.1 e
   ·rw[hs1.2 e]
    simp
  ·have hd:=decode_high hi hb
   have hc:=hf (Utf8.decode ⟨s.toArray⟩ i).1 (by omega) (by omega)
   have e1:=hp (Utf8.decode ⟨s.toArray⟩ i).1 (by omega)
   have e2:=hp s[i].toNat (by omega)
   simp at hc
   simp[hsz]
   refine hc.s ?_
   rw[e1,hs1.2 e2]
   simp
 ·rintro-hI
  rw[findIdx_none hI]
  have hsz:¬s.length<(ByteArray.mk s.toArray).size:=by simp[ByteArray.size]
  simp[hsz]
theorem IndexFuncS_fn (s:List UInt8) (hs:Sh s) (p:Int->Bool) (hp:∀r,128<=r->p r=true) (f:FuncId) (first caps:List A)
  (hf:∀r,0<=r->r<=1114111->CallFn Tryz.prog f (first++[.dat (.int .i32 r)]++caps) (aB (p r))) :
  CallFn Tryz.prog 368 [aT s,.fn f first caps] (aI (idxI (s.findIdx? fun b=>p b.toNat))):=by
 refine callFz_of Tryz.func368 rfl Tryz.ntmps368 (rs:=[.tmp 4]) rfl (by kernel_rfl) (by simp) (by kernel_rfl) ?_
 simp
 refine (indexFuncS_fn s hs p hp f first caps hf).s ?_
 simp
theorem ContainsFuncS_fn (s:List UInt8) (hs:Sh s) (p:Int->Bool) (hp:∀r,128<=r->p r=true) (f:FuncId) (first caps:List A)
  (hf:∀r,0<=r->r<=1114111->CallFn Tryz.prog f (first++[.dat (.int .i32 r)]++caps) (aB (p r))) :
  CallFn Tryz.prog 324 [aT s,.fn f first caps] (aB (s.any fun b=>p b.toNat)):=by
 refine callFz_of Tryz.func324 rfl Tryz.ntmps324 (rs:=[.tmp 4]) rfl (by kernel_rfl) (by simp) (by kernel_rfl) ?_
 simp
 refine (IndexFuncS_fn s hs p hp f first caps hf).s ?_
 simp
 rw[idxI_ge,List.findIdx?_isSome]
def badR (r:Int):Bool:=decide (122<r) || !partI r
theorem badR_fn (r:Int) (h0:0<=r) (h1:r<=1114111):CallFn Tryz.prog 325 [.dat (.int .i32 r)] (aB (badR r)):=by
 refine callFz_of Tryz.func325 rfl Tryz.ntmps325 (rs:=[.tmp 2]) rfl (by kernel_rfl) (by simp) (by kernel_rfl) ?_
 simp[reads]
 refine⟨by omega,GCall.fn (aB (partI r)) (fun h=>⟨by omega,part_fn r h0 (by omega)⟩) ?_⟩
 simp[reads,badR]
def wordS (s:List UInt8):Bool:=match s with
 | []=>false
 | b::_=>decide (97<=b.toNat)&&decide (b.toNat<=122)&&s.all partB
def nameE (s:List UInt8) (seen:List (List UInt8)):Int:=if wordS s=false then 3 else if s.length>24 then 17 else if s∈seen then 7 else 0
theorem badR_part (b:UInt8):badR b.toNat = !partB b:=by
 simp only[badR,partI,partB]
 have:=b.toNat_lt
 rw[Bool.eq_iff_iff]
 simp
 omega
theorem all_bad (s:List UInt8):(s.any fun b=>badR b.toNat) = !s.all partB:=by
 simp only[badR_part]
 induction s with
 | nil=>rfl
 | cons b s ih=>simp[ih]
def mapOf (names:List (List UInt8)):List (L×L):=names.zipIdx.map fun p=>(.str p.1,.int .i64 p.2)
theorem mget_of_aux (s:List UInt8):∀(names:List (List UInt8)) (k:Nat),mget ((names.zipIdx k).map fun p=>(L.str p.1,L.int .i64 p.2)) (.str s)=(names.findIdx? (·==s)).map fun i=>.int .i64 (i+k:Nat)
 | [],_=>rfl
 | n::ns,k=>by
  simp only[List.zipIdx_cons,List.map_cons,mget,leq,List.findIdx?_cons]
  by_cases h:n=s
  ·simp[h]
  ·simp only[beq_iff_eq,h,if_false,mget_of_aux s ns (k+1)]
   cases ns.findIdx? (·==s)<;>simp
   omega
theorem mget_of (names:List (List UInt8)) (s:List UInt8):mget (mapOf names) (.str s)=(names.findIdx? (·==s)).map fun i=>.int .i64 i:=by
 have:=mget_of_aux s names 0
 simpa [mapOf]using this
theorem mput_of_aux (s:List UInt8) (v:L):∀(names:List (List UInt8)) (k:Nat),s∉names->mput ((names.zipIdx k).map fun p=>(L.str p.1,L.int .i64 p.2)) (.str s) v=(names.zipIdx k).map (fun p=>(L.str p.1,L.int .i64 p.2))++[(.str s,v)]
 | [],_,_=>rfl
 | n::ns,k,h=>by
  simp only[List.mem_cons,not_or]at h
  simp only[List.zipIdx_cons,List.map_cons,mput,leq,beq_iff_eq,Ne.symm h.1,if_false,mput_of_aux s v ns (k+1) h.2,List.cons_append]
theorem mput_of {names:List (List UInt8)}{s:List UInt8}(h:s∉names):mput (mapOf names) (.str s) (.int .i64 names.length)=mapOf (names++[s]):=by
 have:=mput_of_aux s (.int .i64 names.length) names 0 h
 simp only[mapOf,this,List.zipIdx_append,List.map_append]
 simp
@[simp] theorem mapOf_length (names:List (List UInt8)):(mapOf names).length=names.length:=by simp[mapOf]
abbrev chkBox (b r:Nat) (c:Control):Nat×Ent:=(32,.box b [.dat (.int .i64 c.actuators),.dat (.sl (c.inputs.map encT)),.dat (.sl (c.signals.map encS)),.dat (.sl (c.plus.map encI)),.dat (.sl (c.minus.map encI)),.map 30 r,
 .fn 238 [.ptr 32 b 0] [],.fn 239 [.ptr 32 b 0] [],.fn 240 [.ptr 32 b 0] []])
abbrev chkMap (r:Nat) (names:List (List UInt8)):Nat×Ent:=(30,.map r .string (mapOf names))
theorem cname_s (b r:Nat) (c:Control) (s:List UInt8) (hs:Sh s) (names:List (List UInt8)) (hn:names.length<=1000000):CallS Tryz.prog 242 [.ptr 32 b 0,aT s] [chkBox b r c,chkMap r names]
  fun rr H'=>rr=aI (nameE s names)∧H'=[chkBox b r c,chkMap r (if nameE s names=0 then names++[s] else names)]:=by
 refine CallS.dropP (callS_of Tryz.func242 rfl Tryz.ntmps242 (rs:=[.tmp 4]) rfl (by kernel_rfl) (by simp) (by kernel_rfl) (K:=fun rr H'=>rr=aI (nameE s names)∧subP [chkBox b r c,chkMap r (if nameE s names=0 then names++[s] else names)] H') ?_) ?_
 ·cases s with
  | nil=>
   simp[reads]
   refine GCall.fn (aB false) (by simp) ?_
   simp[nameE,wordS,subP.refl]
  | cons b0 s'=>
   simp[reads]
   refine GCall.fn (aB (!(b0::s').all partB)) (fun h=>⟨h,?_⟩) ?_
   ·rw[<- all_bad]
    exact ContainsFuncS_fn (b0::s') hs badR (by intro r h;simp[badR];omega) _ [] [] (fun r h0 h1=>by simpa using badR_fn r h0 h1)
   ·simp[reads]
    have hlen:(b0::s').length=s'.length+1:=rfl
    refine⟨fun h=>?_,fun h1 h2 h3 h4=>?_⟩
    ·have e:nameE (b0::s') names=3:=by
      rw[nameE,if_pos]
      simp[wordS]
      intro g1 g2 g3
      rcases h with (h | h) | h | h
      ·omega
      ·omega
      ·rw[h]at g3;cases g3
      ·exact h
     simp[e,subP.refl]
    ·have hw:wordS (b0::s')=true:=by
      simp[wordS]
      exact⟨⟨by omega,by omega⟩,h3,h4⟩
     refine⟨fun h5=>?_,fun h5=>⟨fun h6=>?_,fun h6=>?_⟩⟩
     ·have e:nameE (b0::s') names=17:=by simp[nameE,hw];omega
      simp[e,subP.refl]
     ·rw[mget_of]at h6
      have hm:(b0::s')∈names:=by
       simp[List.findIdx?_isSome]at h6
       exact h6
      have e:nameE (b0::s') names=7:=by simp[nameE,hw,hm];omega
      simp[e,subP.refl]
     ·rw[mget_of]at h6
      have hm:(b0::s')∉names:=by
       simp at h6
       intro hm
       exact h6 _ hm rfl
      have e:nameE (b0::s') names=0:=by simp[nameE,hw,hm];omega
      refine V.draw (fun _=>none) (by kernel_rfl) (by kernel_rfl) (by simp) ?_
      simp[e]
      rw[mput_of hm]
      exact subP.refl _
 ·rintro rr H' ⟨h1,h2⟩
  exact⟨_,h2,h1,rfl⟩
mutual
def varsE:Expr->List Int
 | ⟨op,ix,args⟩=>(if op=1 then [ix] else [])++varsL args
def varsL:List Expr->List Int
 | []=>[]
 | x::xs=>varsE x++varsL xs
end
theorem varsE_eq (x:Expr):varsE x=(if x.op=1 then [x.index] else [])++varsL x.args:=by cases x;simp[varsE]
theorem varsL_mem {n:Int}{y:Expr}(hn:n∈varsE y):∀ {l:List Expr},y∈l->n∈varsL l
 | [],h=>by simp at h
 | z::l,h=>by
  simp only[varsL,List.mem_append]
  rcases List.mem_cons.1 h with rfl | h
  ·exact .inl hn
  ·exact .inr (varsL_mem hn h)
theorem visitV_s {σ:Type}{b3 b4:Nat}{f:FuncId}{first caps:List A}{Hc:σ->Heap}{step:σ->Int->σ}:∀(N:Nat) (x:Expr),SizeOf.sizeOf x<N->OkE x->∀(s:σ),
  (∀s,∀n∈varsE x,CallS Tryz.prog f (first++aI n::caps) (Hc s) fun _ H'=>H'=Hc (step s n)) ->
  CallS Tryz.prog 367 [aE x,.ptr 3 b3 0,.ptr 4 b4 0] ((4,.box b4 [.fn 367 [] [.ptr 3 b3 0,.ptr 4 b4 0]])::(3,.box b3 [.fn f first caps])::rt 1000 (Hc s))
   fun _ H'=>H'=(4,.box b4 [.fn 367 [] [.ptr 3 b3 0,.ptr 4 b4 0]])::(3,.box b3 [.fn f first caps])::rt 1000 (Hc ((varsE x).foldl step s))
 | 0,_,h,_,_,_=>absurd h (Nat.not_lt_zero _)
 | N+1,x,hN,hx,s,hf=>by
  refine CallS.dropP (callS_of Tryz.func367 rfl Tryz.ntmps367 (rs:=[]) rfl (by kernel_rfl) (by simp) (by kernel_rfl) (K:=fun _ H'=>subP ((4,.box b4 [.fn 367 [] [.ptr 3 b3 0,.ptr 4 b4 0]])::(3,.box b3 [.fn f first caps])::rt 1000 (Hc ((varsE x).foldl step s))) H') ?_) (fun _ _ h=>⟨_,h,rfl⟩)
  have hset:∃s1:σ,s1=(if x.op=1 then step s x.index else s)∧(varsL x.args).foldl step s1=(varsE x).foldl step s:=by
   refine⟨_,rfl,?_⟩
   rw[varsE_eq]
   by_cases h:x.op=1<;>simp[h]
  obtain⟨s1,hs1,he⟩:=hset
  by_cases hop:x.op=1
  all_goals simp[hop]
  ·rw[if_pos hop]at hs1
   refine ((hf s x.index (by rw[varsE_eq];simp[hop])).rt'.c1.c1).mono ?_
   rintro r H' ⟨_,⟨_,⟨H1,rfl,rfl⟩,rfl⟩,rfl⟩
   rw[<- hs1]
   simp
   refine V.for' [2,14,15] (fun p=>[(16,.dat (.int .i64 (p.1:Nat)))]) (fun p=>(4,.box b4 [.fn 367 [] [.ptr 3 b3 0,.ptr 4 b4 0]])::(3,.box b3 [.fn f first caps])::rt 1000 (Hc p.2))
    (fun p:Nat×σ=>p.1<=x.args.length∧(varsL (x.args.drop p.1)).foldl step p.2=(varsE x).foldl step s) (fun p=>x.args.length-p.1) (0,s1) ⟨by simp[he],by simp,subP.refl _⟩ ?_
   rintro⟨i,s2⟩ ⟨hi,hinv⟩
   simp only at hi hinv
   have hlen:=hx.len
   by_cases hlt:i<x.args.length
   ·obtain⟨y,hy1⟩:∃y,x.args[i]'hlt=y:=⟨_,rfl⟩
    have hmem:y∈x.args:=by rw[<- hy1];exact List.getElem_mem hlt
    rw[List.drop_eq_getElem_cons hlt,hy1,varsL,List.foldl_append]at hinv
    simp[hlt,hy1,encE_eq]
    intro b
    have ih:=visitV_s (b3:=b3) (b4:=b4) (Hc:=Hc) (step:=step) (f:=f) (first:=first) (caps:=caps) N y (by have:=Expr.lt_of_mem hmem;omega) (hx.args y hmem) s2 (fun s n hn=>hf s n (by rw[varsE_eq];exact List.mem_append.2 (.inr (varsL_mem hn hmem))))
    refine ih.c1.mono ?_
    rintro r H' ⟨H2,rfl,rfl⟩
    simp
    exact⟨by omega,i+1,_,⟨hlt,hinv⟩,by omega,by simp,(subP.refl _).c _⟩
   ·have hie:i=x.args.length:=by omega
    subst hie
    simp[varsL]at hinv
    simp[hinv]
    exact subP.refl _
  ·rw[if_neg hop]at hs1
   refine V.for' [2,14,15] (fun p=>[(16,.dat (.int .i64 (p.1:Nat)))]) (fun p=>(4,.box b4 [.fn 367 [] [.ptr 3 b3 0,.ptr 4 b4 0]])::(3,.box b3 [.fn f first caps])::rt 1000 (Hc p.2))
    (fun p:Nat×σ=>p.1<=x.args.length∧(varsL (x.args.drop p.1)).foldl step p.2=(varsE x).foldl step s) (fun p=>x.args.length-p.1) (0,s1) ⟨by simp[he],by simp,by rw[hs1];exact subP.refl _⟩ ?_
   rintro⟨i,s2⟩ ⟨hi,hinv⟩
   simp only at hi hinv
   have hlen:=hx.len
   by_cases hlt:i<x.args.length
   ·obtain⟨y,hy1⟩:∃y,x.args[i]'hlt=y:=⟨_,rfl⟩
    have hmem:y∈x.args:=by rw[<- hy1];exact List.getElem_mem hlt
    rw[List.drop_eq_getElem_cons hlt,hy1,varsL,List.foldl_append]at hinv
    simp[hlt,hy1,encE_eq]
    intro b
    have ih:=visitV_s (b3:=b3) (b4:=b4) (Hc:=Hc) (step:=step) (f:=f) (first:=first) (caps:=caps) N y (by have:=Expr.lt_of_mem hmem;omega) (hx.args y hmem) s2 (fun s n hn=>hf s n (by rw[varsE_eq];exact List.mem_append.2 (.inr (varsL_mem hn hmem))))
    refine ih.c1.mono ?_
    rintro r H' ⟨H2,rfl,rfl⟩
    simp
    exact⟨by omega,i+1,_,⟨hlt,hinv⟩,by omega,by simp,(subP.refl _).c _⟩
   ·have hie:i=x.args.length:=by omega
    subst hie
    simp[varsL]at hinv
    simp[hinv]
    exact subP.refl _
theorem each_s {σ:Type}{f:FuncId}{first caps:List A}{Hc:σ->Heap}{step:σ->Int->σ}(x:Expr) (hx:OkE x) (s:σ) (hf:∀s,∀n∈varsE x,CallS Tryz.prog f (first++aI n::caps) (Hc s) fun _ H'=>H'=Hc (step s n)) :
  CallS Tryz.prog 321 [aE x,.fn f first caps] (Hc s) fun _ H'=>H'=Hc ((varsE x).foldl step s):=by
 refine CallS.rt (k:=1000) (CallS.dropP (callS_of Tryz.func321 rfl Tryz.ntmps321 (rs:=[]) rfl (by kernel_rfl) (by simp) (by kernel_rfl) (K:=fun _ H'=>subP (rt 1000 (Hc ((varsE x).foldl step s))) H') ?_) ?_)
 ·simp
  intro b3 b4
  refine (visitV_s (SizeOf.sizeOf x+1) x (by omega) hx s hf).mono ?_
  rintro r H' rfl
  simp
  exact ((subP.refl _).c _).c _
 ·rintro r H' h
  exact⟨_,h,_,rfl,rfl⟩
def kindAt (c:Control) (k:Int):Int:=((c.signals[k.toNat]?).map (·.kind)).getD 0
def lateStep (c:Control) (i:Int) (late:Bool) (line:Int):Bool:=late||(decide (i<=line-firstC c)&&kindAt c (line-firstC c)==0)
def lateC (c:Control) (i:Int) (x:Expr):Bool:=(varsE x).foldl (lateStep c i) false
theorem gate1_s (b r b2 b5 b6:Nat) (c:Control) (h:Sm c) (s5:List A) (i:Int) (h0:0<=i∧i<c.signals.length) (late:Bool) (line:Int) (hl:0<=line∧line<countC c) :
  CallS Tryz.prog 322 [aI line,.ptr 2 b2 0,.ptr 6 b6 0,.rptr [.int .i64 i]] [(6,.box b6 [.dat (.bool late)]),(5,.box b5 s5),(2,.box b2 [.ptr 32 b 0]),chkBox b r c]
   fun _ H'=>H'=[(6,.box b6 [.dat (.bool (lateStep c i late line))]),(5,.box b5 s5),(2,.box b2 [.ptr 32 b 0]),chkBox b r c]:=by
 have hs:=h
 obtain⟨g1,g2,g3⟩:=h
 have hcn:countC c=firstC c+c.signals.length:=rfl
 have hfc:firstC c=2*c.actuators+c.inputs.length:=rfl
 refine CallS.dropP (callS_of Tryz.func322 rfl Tryz.ntmps322 (rs:=[]) rfl (by kernel_rfl) (by simp) (by kernel_rfl) (K:=fun _ H'=>subP [(6,.box b6 [.dat (.bool (lateStep c i late line))]),(5,.box b5 s5),(2,.box b2 [.ptr 32 b 0]),chkBox b r c] H') ?_) (fun _ _ h=>⟨_,h,rfl⟩)
 simp
 refine (first_fn c hs).s ?_
 simp
 refine⟨by omega,?_⟩
 obtain⟨y,hy⟩:∃y,c.signals[(line-firstC c).toNat]?=some y:=⟨_,List.getElem?_eq_getElem (by omega)⟩
 by_cases hk:i<=line-firstC c
 ·simp[hk,hy]
  refine⟨fun h=>⟨h,by omega,by omega⟩,?_⟩
  have e:lateStep c i late line=(late||y.kind==0):=by simp[lateStep,hk,kindAt,hy]
  rw[e]
  exact subP.refl _
 ·simp[hk,hy]
  have e:lateStep c i late line=late:=by simp[lateStep,hk]
  rw[e]
  exact subP.refl _
abbrev sigA (s:Signal):List A:=[.dat (.str s.name),.dat (.int .i64 s.kind),.dat (.int .i64 s.on.op),.dat (.int .i64 s.on.index),.dat (.sl (s.on.args.map encE)),.dat (.int .i64 s.off.op),.dat (.int .i64 s.off.index),.dat (.sl (s.off.args.map encE)),.dat (.int .i64 s.delay),.dat (.bool s.init)]
def gateE (c:Control) (i:Int) (s:Signal):Int:=if lateC c i s.on then 9 else if !zeroE s.off||s.init||s.delay != 0 then 3 else 0
def memE (c:Control) (s:Signal):Int:=if checkE s.off (countC c)≠0 then checkE s.off (countC c) else if s.delay≠0 then 3 else 0
def timE (s:Signal):Int:=if s.delay<1∨s.delay>1000000 then 2 else if !zeroE s.off||s.init then 3 else 0
theorem gate_s (b r:Nat) (c:Control) (h:Sm c) (i:Nat) (s:Signal) (hi:c.signals[i]?=some s) (hx:OkS s) (hv:∀n∈varsE s.on,0<=n∧n<countC c):CallS Tryz.prog 238 [.ptr 32 b 0,aI i] [chkBox b r c] fun rr H'=>rr=aI (gateE c i s)∧H'=[chkBox b r c]:=by
 have hs:=h
 obtain⟨g1,g2,g3⟩:=h
 obtain⟨hlt,hy1⟩:=List.getElem?_eq_some_iff.1 hi
 refine CallS.dropP (callS_of Tryz.func238 rfl Tryz.ntmps238 (rs:=[.tmp 4]) rfl (by kernel_rfl) (by simp) (by kernel_rfl) (K:=fun rr H'=>rr=aI (gateE c i s)∧subP [chkBox b r c] H') ?_) (fun _ _ h=>⟨_,h.2,h.1,rfl⟩)
 simp
 intro b2
 refine V.draw (fun _=>none) (by kernel_rfl) (by kernel_rfl) (by simp) ?_
 simp[hy1,hlt]
 intro b5 b6
 refine (each_s (σ:=Bool) (f:=322) (first:=[]) (caps:=[.ptr 2 b2 0,.ptr 6 b6 0,.rptr [.int .i64 i]]) (Hc:=fun late=>[(6,.box b6 [.dat (.bool late)]),(5,.box b5 (sigA s)),(2,.box b2 [.ptr 32 b 0]),chkBox b r c]) (step:=lateStep c i) s.on hx.on false (fun late n hn=>by simpa using gate1_s b r b2 b5 b6 c hs (sigA s) i ⟨by omega,by omega⟩ late n (hv n hn))).mono ?_
 rintro rr H' rfl
 simp
 have e:lateC c i s.on=(varsE s.on).foldl (lateStep c i) false:=rfl
 rw[<- e]
 cases hlate:lateC c i s.on
 ·simp
  refine (zero_fn s.off).s ?_
  simp[gateE,hlate]
  have hsub:subP [chkBox b r c] [(6,.box b6 [.dat (.bool false)]),(5,.box b5 (sigA s)),(2,.box b2 [.ptr 32 b 0]),chkBox b r c]:=(((subP.refl _).c _).c _).c _
  refine⟨fun h=>⟨fun h1 h2 h3=>?_,hsub⟩,fun h1 h2 h3=>⟨⟨⟨h1,h2⟩,h3⟩,hsub⟩⟩
  rcases h with (h | h) | h<;>simp_all
 ·simp[gateE,hlate]
  exact (((subP.refl _).c _).c _).c _
theorem memory_s (b r:Nat) (c:Control) (h:Sm c) (i:Nat) (s:Signal) (hi:c.signals[i]?=some s) (hx:OkS s):CallS Tryz.prog 239 [.ptr 32 b 0,aI i] [chkBox b r c] fun rr H'=>rr=aI (memE c s)∧H'=[chkBox b r c]:=by
 obtain⟨hlt,hy1⟩:=List.getElem?_eq_some_iff.1 hi
 refine CallS.dropP (callS_of Tryz.func239 rfl Tryz.ntmps239 (rs:=[.tmp 4]) rfl (by kernel_rfl) (by simp) (by kernel_rfl) (K:=fun rr H'=>rr=aI (memE c s)∧subP [chkBox b r c] H') ?_) (fun _ _ h=>⟨_,h.2,h.1,rfl⟩)
 simp
 refine V.draw (fun t=>if t=19 then some (.fn (aI (countC c))) else if t=20 then some (.fn (aI (checkE s.off (countC c)))) else none) (by kernel_rfl) (by kernel_rfl) (by simp) ?_
 have e1:=count_c c h
 have e2:=check_fn s.off hx.off (countC c)
 simp[hy1,hlt]at e1 e2 ⊢
 refine⟨e1,e2,fun hc=>?_,fun hc=>⟨fun hd=>?_,fun hd=>?_⟩⟩
 ·simp[memE,hc,subP.refl]
 ·simp[memE,hc,hd,subP.refl]
 ·simp[memE,hc,hd,subP.refl]
theorem timer_s (b r:Nat) (c:Control) (i:Nat) (s:Signal) (hi:c.signals[i]?=some s) (hx:OkS s):CallS Tryz.prog 240 [.ptr 32 b 0,aI i] [chkBox b r c] fun rr H'=>rr=aI (timE s)∧H'=[chkBox b r c]:=by
 obtain⟨hlt,hy1⟩:=List.getElem?_eq_some_iff.1 hi
 refine CallS.dropP (callS_of Tryz.func240 rfl Tryz.ntmps240 (rs:=[.tmp 4]) rfl (by kernel_rfl) (by simp) (by kernel_rfl) (K:=fun rr H'=>rr=aI (timE s)∧subP [chkBox b r c] H') ?_) (fun _ _ h=>⟨_,h.2,h.1,rfl⟩)
 simp[hy1,hlt]
 intro b5
 have hsub:∀l,subP [chkBox b r c] [(5,.box b5 l),chkBox b r c]:=fun l=>(subP.refl _).c _
 refine⟨fun hd=>?_,fun h1 h2=>?_⟩
 ·simp[timE,hsub]
  omega
 ·refine (zero_fn s.off).s ?_
  cases hz:zeroE s.off<;>cases hi2:s.init<;>simp[timE,hz,hi2,hsub]<;>omega
def signalE (c:Control) (i:Int) (s:Signal) (names:List (List UInt8)):Int:=
 if nameE s.name names≠0 then nameE s.name names
 else if s.kind<0∨s.kind>=3 then 1
 else if checkE s.on (countC c)≠0 then checkE s.on (countC c)
 else if s.kind=0 then gateE c i s else if s.kind=1 then memE c s else timE s
theorem signal_s (b r:Nat) (c:Control) (h:Sm c) (i:Nat) (s:Signal) (hi:c.signals[i]?=some s) (hx:OkS s) (names:List (List UInt8)) (hn:names.length<=1000000) (hv:checkE s.on (countC c)=0->∀n∈varsE s.on,0<=n∧n<countC c) :
  CallS Tryz.prog 243 [.ptr 32 b 0,aI i] [chkBox b r c,chkMap r names] fun rr H'=>rr=aI (signalE c i s names)∧H'=[chkBox b r c,chkMap r (if nameE s.name names=0 then names++[s.name] else names)]:=by
 obtain⟨hlt,hy1⟩:=List.getElem?_eq_some_iff.1 hi
 refine CallS.dropP (callS_of Tryz.func243 rfl Tryz.ntmps243 (rs:=[.tmp 4]) rfl (by kernel_rfl) (by simp) (by kernel_rfl) (K:=fun rr H'=>rr=aI (signalE c i s names)∧subP [chkBox b r c,chkMap r (if nameE s.name names=0 then names++[s.name] else names)] H') ?_) (fun _ _ h=>⟨_,h.2,h.1,rfl⟩)
 simp[hy1,hlt]
 intro b5
 refine (cname_s b r c s.name hx.name names hn).c1.mono ?_
 rintro rr H' ⟨_,⟨rfl,rfl⟩,rfl⟩
 by_cases hne:nameE s.name names=0
 ·have hsub:∀l,subP [chkBox b r c,chkMap r (names++[s.name])] [(5,.box b5 l),chkBox b r c,chkMap r (names++[s.name])]:=fun l=>(subP.refl _).c _
  simp[hne]
  refine⟨fun hk=>?_,fun hk0 hk3=>?_⟩
  ·simp[signalE,hne,hsub]
   omega
  ·refine V.draw (fun t=>if t=37 then some (.fn (aI (countC c))) else if t=38 then some (.fn (aI (checkE s.on (countC c)))) else none) (by kernel_rfl) (by kernel_rfl) (by simp) ?_
   have e1:=count_c c h
   have e2:=check_fn s.on hx.on (countC c)
   simp at e1 e2 ⊢
   refine⟨e1,e2,fun hc=>?_,fun hc=>?_⟩
   ·simp[signalE,hne,hc,hsub,Int.not_lt.2 hk0]
    omega
   ·obtain hk | hk | hk:s.kind=0∨s.kind=1∨s.kind=2:=by omega
    ·have e:signalE c i s names=gateE c i s:=by simp[signalE,hne,hc,hk]
     refine V.draw (fun t=>if t=50 then some (.ro (aI (signalE c i s names))) else none) (by kernel_rfl) (by kernel_rfl) (by simp) ?_
     simp[hk,hsub]
     rw[e]
     exact⟨gate_s b r c h i s hi hx (hv hc),by rw[if_pos hne];exact hsub _⟩
    ·have e:signalE c i s names=memE c s:=by simp[signalE,hne,hc,hk]
     refine V.draw (fun t=>if t=50 then some (.ro (aI (signalE c i s names))) else none) (by kernel_rfl) (by kernel_rfl) (by simp) ?_
     simp[hk,hsub]
     rw[e]
     exact⟨memory_s b r c h i s hi hx,by rw[if_pos hne];exact hsub _⟩
    ·have e:signalE c i s names=timE s:=by simp[signalE,hne,hc,hk]
     refine V.draw (fun t=>if t=50 then some (.ro (aI (signalE c i s names))) else none) (by kernel_rfl) (by kernel_rfl) (by simp) ?_
     simp[hk,hsub]
     rw[e]
     exact⟨timer_s b r c i s hi hx,by rw[if_pos hne];exact hsub _⟩
 ·have hsub:∀l,subP [chkBox b r c,chkMap r names] [(5,.box b5 l),chkBox b r c,chkMap r names]:=fun l=>(subP.refl _).c _
  simp[hne,signalE,hsub]
end Go.Proofs.YtafamcbdaeppoaaGreatDoor
