/- Texts joined by a program: Ke,Kf,Kg,Kh,Ki,Kj. -/
import Derived.Test.YtpadinblmjlggaaGreatDoorW14
import Derived.Test.YtpadinblmjlggaaGreatDoorW12
import Derived.Test.YtpadinblmjlggaaGreatDoorW11
set_option linter.unusedSimpArgs false
set_option linter.unusedVariables false
set_option maxHeartbeats 8000000
set_option maxRecDepth 10000
namespace Go.Proofs.YtpadinblmjlggaaGreatDoor
theorem LetterR_fn (n:Nat):CallFn Tryz.prog 303 [.dat (.int .u8 n)] (aB (letC n)):=by
 refine callFz_of Tryz.func303 rfl Tryz.ntmps303 (rs:=[.tmp 2]) rfl (by kernel_rfl) (by simp) (by kernel_rfl) ?_
 simp
 unfold letC
 by_cases h1:97<=n<;>by_cases h2:n<=122<;>by_cases h3:65<=n<;>by_cases h4:n<=90<;>simp[h1,h2,h3,h4]<;>omega
theorem DigitR_fn (n:Nat):CallFn Tryz.prog 325 [.dat (.int .u8 n)] (aB (digQ n)):=by
 refine callFz_of Tryz.func325 rfl Tryz.ntmps325 (rs:=[.tmp 2]) rfl (by kernel_rfl) (by simp) (by kernel_rfl) ?_
 simp
 unfold digQ
 by_cases h1:48<=n<;>by_cases h2:n<=57<;>simp[h1,h2]<;>omega
theorem innerR_fn (n:Nat):CallFn Tryz.prog 304 [.dat (.int .u8 n)] (aB (innC n)):=by
 have h1:=LetterR_fn n
 have h2:=DigitR_fn n
 refine callFz_of Tryz.func304 rfl Tryz.ntmps304 (rs:=[.tmp 2]) rfl (by kernel_rfl) (by simp) (by kernel_rfl) ?_
 simp
 refine h1.s ?_
 unfold innC
 cases letC n
 ·simp
  refine GCall.fn (aB (digQ n)) (fun _=>⟨trivial,h2⟩) ?_
  cases digQ n
  ·by_cases h:n=95
   ·subst h;simp
   ·simp[h]
    try omega
  ·simp
 ·simp
  refine GCall.fn .undef (fun h=>absurd h (by simp)) ?_
  simp
theorem WordR_fn (s:List UInt8) (hs:s.length<=1000000000):CallFn Tryz.prog 274 [aT s] (aI (wordE s)):=by
 refine callFz_of Tryz.func274 rfl Tryz.ntmps274 (rs:=[.tmp 2]) rfl (by kernel_rfl) (by simp) (by kernel_rfl) ?_
 cases s with
 | nil=>
  unfold wordE
  simp
  refine GCall.fn .undef (fun h=>absurd h (by simp)) ?_
  simp
 | cons b r=>
  have hcf:=LetterR_fn b.toNat
  have hw:wordE (b::r)=if letC b.toNat=false then 3 else if ((b::r).all fun b=>innC b.toNat)=false then 3 else if 24<r.length+1 then 17 else 0:=by
   simp[wordE]
  obtain⟨s,hsd⟩:∃s,b::r=s:=⟨_,rfl⟩
  have hl:s.length=r.length+1:=by rw[<- hsd];rfl
  have hb0:s[0]?=some b:=by rw[<- hsd];rfl
  rw[hsd]at hs hw ⊢
  rw[<- hl]at hw
  rw[hw]
  have hpos:0<s.length:=by omega
  have hne:¬(s.length:Int)=0:=by omega
  have hb1:s[0]=b:=by simpa [List.getElem?_eq_getElem hpos]using hb0
  have hnil:¬s=[]:=by rintro rfl;simp at hpos
  simp[hne,hb0,hb1,hpos,hnil]
  refine GCall.fn (aB (letC b.toNat)) (fun _=>⟨trivial,hcf⟩) ?_
  cases letC b.toNat
  ·simp
  ·simp[hnil]
   refine V.forI (σ:=Unit) s.length [0] (by simp;exact rfl) (fun i _=>[(2,aI 0),(3,aI i)]) (fun _ _=>[]) (fun i _=>∀j (hj:j<s.length),j<i->innC s[j].toNat=true) () (by simp) (by simp) ⟨by simp;exact rfl,by simp⟩ ?_ ?_
   ·rintro i-hi hI
    obtain⟨b,hb1⟩:∃b,s[i]=b:=⟨_,rfl⟩
    have hbo:s[i]?=some b:=by rw[List.getElem?_eq_getElem hi,hb1]
    have hin:=innerR_fn b.toNat
    simp[hi,hbo,hb1]
    refine hin.s ?_
    cases h:innC b.toNat
    ·have:(s.all fun b=>innC b.toNat)=false:=List.all_eq_false.2 ⟨b,List.mem_of_getElem? hbo,by simp[h]⟩
     simp[this]
    ·simp
     refine⟨by omega,fun j hj hji=>?_⟩
     by_cases e:j=i
     ·subst e
      rw[hb1,h]
     ·exact hI j hj (by omega)
   ·rintro-hI
    have:(s.all fun b=>innC b.toNat)=true:=by
     rw[List.all_eq_true]
     intro b hb
     obtain⟨j,hj,e⟩:=List.getElem_of_mem hb
     rw[<- e,hI j hj hj]
    simp[this]
    by_cases h24:24<s.length
    ·simp[h24]
     try omega
    ·simp[h24]
     try omega
theorem RightK_fn (k:Int):CallFn Tryz.prog 226 [aI k] (aI (if 0<=k∧k<14 then 0 else 1)):=by
 refine callFz_of Tryz.func226 rfl Tryz.ntmps226 (rs:=[.tmp 2]) rfl (by kernel_rfl) (by simp) (by kernel_rfl) ?_
 by_cases h1:k<0
 ·simp[h1]
  try omega
 ·by_cases h2:14<=k
  ·simp[h1,h2]
   try omega
  ·simp[h1,h2]
   try omega
theorem CheckP_fn (p:Prt) (hs:p.name.length<=1000000000):CallFn Tryz.prog 220 [.record (encPa p)] (aI (partE p)):=by
 obtain⟨k,n,d⟩:=p
 have h1:=RightK_fn k
 have h2:=WordR_fn n hs
 refine callFz_cut 2 Tryz.func220 rfl Tryz.ntmps220 (rs:=[.tmp 2]) rfl (by kernel_rfl) (by simp) (by kernel_rfl) ?_
 unfold partE
 simp
 refine h1.s ?_
 by_cases hk:0<=k∧k<14
 ·simp[hk]
  refine V.cutV [(1,.rptr [.int .i64 k,.str n,.int .i64 d]),(2,aI 0),(3,aI 0)] (Hs:=[]) (by simp) (by simp) (V.of_vc ?_)
  simp
  refine h2.s ?_
  by_cases hw:wordE n=0
  ·simp[hw]
   by_cases h12:k=12
   ·subst h12
    by_cases ha:d<1
    ·simp[ha]
     omega
    ·by_cases hb:1000000<d
     ·simp[ha,hb]
     ·simp[ha,hb]
   ·by_cases ha:d=0
    ·simp[h12,ha]
     omega
    ·simp[h12,ha]
     omega
  ·simp[hw]
   intro h
   have:=h hk.1
   omega
 ·simp[hk]
def stepP (s:List UInt8) (q:List (List UInt8)×Bool) (x:List UInt8):List (List UInt8)×Bool:=
 if q.2=false∧ltB x s=false then (if x=s then (q.1++[s],true) else (q.1++[s]++[x],true)) else (if x=s then q else (q.1++[x],q.2))
def putT (l:List (List UInt8)) (s:List UInt8):List (List UInt8):=if (l.foldl (stepP s) ([],false)).2=true then (l.foldl (stepP s) ([],false)).1 else (l.foldl (stepP s) ([],false)).1++[s]
theorem foldl_take {α β:Type}{f:β->α->β}{b:β}{l:List α}{i:Nat}{x:α}(h:l[i]?=some x):(l.take (i+1)).foldl f b=f ((l.take i).foldl f b) x:=by
 rw[List.take_add_one,h,List.foldl_append]
 rfl
theorem stepP_len (s:List UInt8):∀(l:List (List UInt8)),(l.foldl (stepP s) ([],false)).1.length<=2*l.length:=by
 have:∀(l:List (List UInt8)) (q:List (List UInt8)×Bool),(l.foldl (stepP s) q).1.length<=q.1.length+2*l.length:=by
  intro l
  induction l with
  | nil=>simp
  | cons x l ih=>
   intro q
   rw[List.foldl_cons]
   have:=ih (stepP s q x)
   have h2:(stepP s q x).1.length<=q.1.length+2:=by
    unfold stepP
    (repeat' split)<;>simp
   simp only[List.length_cons]
   omega
 intro l
 simpa using this l ([],false)
theorem Put_fn (l:List (List UInt8)) (s:List UInt8) (hl:l.length<=1000000):CallFn Tryz.prog 239 [aTs l,aT s] (aTs (putT l s)):=by
 have hlen:=stepP_len s
 refine callFz_of Tryz.func239 rfl Tryz.ntmps239 (rs:=[.tmp 4]) rfl (by kernel_rfl) (by simp) (by kernel_rfl) ?_
 simp
 refine V.forI (σ:=Value) l.length [0,1,4] (by simp;exact rfl) (fun i g=>[(5,.own 50 g),(6,aB ((l.take i).foldl (stepP s) ([],false)).2),(7,aI i)])
  (fun i g=>[(50,.seq g 9 1 (((l.take i).foldl (stepP s) ([],false)).1.map rT))]) (fun _ _=>True) (.slice none 0 0) trivial (by simp) ⟨by simp;exact rfl,by simp⟩ ?_ ?_
 ·rintro i g hi -
  obtain⟨x,hx⟩:∃x,l[i]=x:=⟨_,rfl⟩
  have hxo:l[i]?=some x:=by rw[List.getElem?_eq_getElem hi,hx]
  have hln:=hlen (l.take i)
  rw[List.length_take]at hln
  have hmin:min i l.length<=1000000:=by omega
  rw[foldl_take hxo]
  generalize (l.take i).foldl (stepP s) ([],false)=q at *
  obtain⟨q1,q2⟩:=q
  simp only at hln
  cases q2
  ·cases hlt:ltB x s
   ·by_cases e:x=s
    ·subst e
     simp[hi,hx,hxo,stepP,hlt]
     omega
    ·simp[hi,hx,hxo,stepP,hlt,e]
     omega
   ·have e:¬x=s:=by rintro rfl;rw[ltB_irrefl]at hlt;cases hlt
    simp[hi,hx,hxo,stepP,hlt,e]
    omega
  ·by_cases e:x=s
   ·subst e
    simp[hi,hx,hxo,stepP]
    omega
   ·simp[hi,hx,hxo,stepP,e]
    omega
 ·rintro g -
  have hln:=hlen l
  unfold putT
  simp only[List.take_length]
  generalize l.foldl (stepP s) ([],false)=q at *
  obtain⟨q1,q2⟩:=q
  simp only at hln
  cases q2
  ·simp
   omega
  ·simp
def rowL (w l p0 p1 p2 p3 p4:List UInt8):List L:=[.str w,.str l,.str p0,.str p1,.str p2,.str p3,.str p4]
def rowsL:List (List L):=[
 rowL [115,117,112,112,108,121] [90] [] [49,32] [] [] [],
 rowL [99,121,108,105,110,100,101,114] [65] [] [] [] [] [50,32,52,32],
 rowL [118,97,108,118,101,53,50] [86] [49,32] [50,32,52,32] [51,32,53,32] [49,50,32,49,52,32] [],
 rowL [118,97,108,118,101,53,50,115] [86] [49,32] [50,32,52,32] [51,32,53,32] [49,52,32] [],
 rowL [118,97,108,118,101,51,50] [86] [49,32] [50,32] [51,32] [49,50,32] [],
 rowL [118,97,108,118,101,51,50,111] [86] [49,32] [50,32] [51,32] [49,48,32] [],
 rowL [108,105,109,105,116] [83] [49,32] [50,32] [51,32] [] [],
 rowL [98,117,116,116,111,110] [83] [49,32] [50,32] [51,32] [] [],
 rowL [115,104,117,116,116,108,101] [86] [49,32,49,49,32] [50,32] [] [] [],
 rowL [116,119,105,110] [86] [49,32,49,49,32] [50,32] [] [] [],
 rowL [113,117,105,99,107] [86] [49,32] [50,32] [51,32] [] [],
 rowL [116,104,114,111,116,116,108,101] [86] [49,32] [50,32] [] [] [],
 rowL [100,101,108,97,121] [86] [49,32] [50,32] [51,32] [49,50,32] [],
 rowL [99,111,117,110,116,101,114] [86] [49,32] [50,32] [51,32] [49,50,32] []]
theorem Rows_fn:CallFn Tryz.prog 98 [] (.dat (.sl rowsL)):=by
 refine callFz_of Tryz.func98 rfl Tryz.ntmps98 (rs:=[.tmp 0]) rfl (by kernel_rfl) (by simp) (by kernel_rfl) ?_
 simp[rowsL,rowL]
theorem HasT_fn (l:List (List UInt8)) (s:List UInt8) (hl:Sh l):CallFn Tryz.prog 173 [aTs l,aT s] (aB (l.any (s==·))):=by
 refine callFz_of Tryz.func173 rfl Tryz.ntmps173 (rs:=[.tmp 4]) rfl (by kernel_rfl) (by simp) (by kernel_rfl) ?_
 simp
 refine V.forI (σ:=Unit) l.length [0,1] (by simp;exact rfl) (fun i _=>[(4,aB false),(5,aI i)]) (fun _ _=>[]) (fun i _=>NoF (s==·) (l.take i)) () (by simp) (by simp) ⟨by simp;exact rfl,by simp⟩ ?_ ?_
 ·rintro i-hi hI
  obtain⟨x,hx⟩:∃x,l[i]=x:=⟨_,rfl⟩
  have hxo:l[i]?=some x:=by rw[List.getElem?_eq_getElem hi,hx]
  have hs:=findIdx_step (p:=(s==·)) hI hxo
  simp[hi,hx,hxo]
  by_cases e:x=s
  ·subst e
   have:l.any (x==·)=true:=List.any_eq_true.2 ⟨x,List.mem_of_getElem? hxo,by simp⟩
   simp[this]
   exact List.mem_of_getElem? hxo
  ·have e2:¬s=x:=fun h=>e h.symm
   simp[e]
   exact⟨by omega,hs.1 (by simp[e2])⟩
 ·rintro-hI
  have:l.any (s==·)=false:=by
   rw[List.any_eq_false]
   intro y hy
   rw[List.take_length]at hI
   simpa using hI y hy
  simp[this]
def stepN (q:List (List UInt8)×List UInt8) (b:UInt8):List (List UInt8)×List UInt8:=if b=32 then (putT q.1 q.2,[]) else (q.1,q.2++[b])
def namesT (s:List UInt8):List (List UInt8):=(s.foldl stepN ([],[])).1
theorem stepP_len1 (s:List UInt8) (l:List (List UInt8)):(l.foldl (stepP s) ([],false)).1.length+(if (l.foldl (stepP s) ([],false)).2=true then 0 else 1)<=l.length+1:=by
 have:∀(l:List (List UInt8)) (q:List (List UInt8)×Bool),(l.foldl (stepP s) q).1.length+(if (l.foldl (stepP s) q).2=true then 0 else 1)<=q.1.length+(if q.2=true then 0 else 1)+l.length:=by
  intro l
  induction l with
  | nil=>simp
  | cons x l ih=>
   intro q
   rw[List.foldl_cons]
   have:=ih (stepP s q x)
   have h2:(stepP s q x).1.length+(if (stepP s q x).2=true then 0 else 1)<=q.1.length+(if q.2=true then 0 else 1)+1:=by
    obtain⟨q1,q2⟩:=q
    unfold stepP
    cases q2<;>(repeat' split)<;>simp_all
   simp only[List.length_cons]
   omega
 have:=this l ([],false)
 simp at this ⊢
 omega
theorem putT_len (l:List (List UInt8)) (s:List UInt8):(putT l s).length<=l.length+1:=by
 have:=stepP_len1 s l
 unfold putT
 split
 ·rename_i h
  rw[if_pos h]at this
  omega
 ·rename_i h
  rw[if_neg h]at this
  simp
  omega
theorem names_len (s:List UInt8):∀i,((s.take i).foldl stepN ([],[])).1.length<=i∧((s.take i).foldl stepN ([],[])).2.length<=i:=by
 intro i
 induction i with
 | zero=>simp
 | succ i ih=>
  cases h:s[i]? with
  | none=>
   rw[List.take_add_one,h]
   simp only[Option.toList_none,List.append_nil]
   omega
  | some b=>
   rw[foldl_take h]
   generalize (s.take i).foldl stepN ([],[])=q at *
   unfold stepN
   split
   ·have:=putT_len q.1 q.2
    simp
    omega
   ·simp
    omega
theorem names_fn (s:List UInt8) (hs:s.length<=1000):CallFn Tryz.prog 174 [aT s] (aTs (namesT s)):=by
 have hlen:=names_len s
 refine callFz_of Tryz.func174 rfl Tryz.ntmps174 (rs:=[.tmp 2]) rfl (by kernel_rfl) (by simp) (by kernel_rfl) ?_
 simp
 refine V.forI (σ:=Unit) s.length [0,2] (by simp;exact rfl) (fun i _=>[(3,.dat (.sl (((s.take i).foldl stepN ([],[])).1.map encT))),(4,aT ((s.take i).foldl stepN ([],[])).2),(5,aI i)]) (fun _ _=>[]) (fun _ _=>True) () trivial (by simp) ⟨by simp;exact rfl,by simp⟩ ?_ ?_
 ·rintro i-hi -
  obtain⟨x,hx⟩:∃x,s[i]=x:=⟨_,rfl⟩
  have hxo:s[i]?=some x:=by rw[List.getElem?_eq_getElem hi,hx]
  obtain⟨h1,h2⟩:=hlen i
  rw[foldl_take hxo]
  generalize (s.take i).foldl stepN ([],[])=q at *
  obtain⟨q1,q2⟩:=q
  simp only at h1 h2
  have hp:=Put_fn q1 q2 (by omega)
  have hsl:List.drop i (List.take (i+1) s)=[x]:=by
   rw[List.take_add_one,hxo,List.drop_append_of_le_length (by rw[List.length_take];omega),List.drop_of_length_le (by rw[List.length_take];omega)]
   rfl
  by_cases e:x=32
  ·subst e
   rw[show stepN (q1,q2) 32=(putT q1 q2,[]) from rfl]
   simp[hi,hx,hxo]
   refine hp.s ?_
   simp
   omega
  ·have e2:¬((x.toNat:Int)=32):=fun h=>e (UInt8.toNat.inj (show x.toNat=32 by omega))
   rw[show stepN (q1,q2) x=(q1,q2++[x]) from by simp[stepN,e]]
   simp[hi,hx,hxo,e2,hsl]
   omega
 ·rintro - -
  simp[namesT]
theorem row_ex:∀k,k<14->∃w l p0 p1 p2 p3 p4,rowsL[k]?=some (rowL w l p0 p1 p2 p3 p4)∧rolesK k=[namesT p0,namesT p1,namesT p2,namesT p3,namesT p4] ∧
  (p0.length<=6∧p1.length<=6∧p2.length<=6∧p3.length<=6∧p4.length<=6)∧(p2=[]↔(manyK k=1∧k≠10)):=
 k_cases ⟨⟨_,_,_,_,_,_,_,rfl,rfl,by decide,by decide⟩,⟨_,_,_,_,_,_,_,rfl,rfl,by decide,by decide⟩,⟨_,_,_,_,_,_,_,rfl,rfl,by decide,by decide⟩,⟨_,_,_,_,_,_,_,rfl,rfl,by decide,by decide⟩,
  ⟨_,_,_,_,_,_,_,rfl,rfl,by decide,by decide⟩,⟨_,_,_,_,_,_,_,rfl,rfl,by decide,by decide⟩,⟨_,_,_,_,_,_,_,rfl,rfl,by decide,by decide⟩,⟨_,_,_,_,_,_,_,rfl,rfl,by decide,by decide⟩,
  ⟨_,_,_,_,_,_,_,rfl,rfl,by decide,by decide⟩,⟨_,_,_,_,_,_,_,rfl,rfl,by decide,by decide⟩,⟨_,_,_,_,_,_,_,rfl,rfl,by decide,by decide⟩,⟨_,_,_,_,_,_,_,rfl,rfl,by decide,by decide⟩,
  ⟨_,_,_,_,_,_,_,rfl,rfl,by decide,by decide⟩,⟨_,_,_,_,_,_,_,rfl,rfl,by decide,by decide⟩⟩
theorem rolesK_len:∀k,k<14->(∀l∈rolesK k,l.length<=2):=by decide
theorem manyK_or:∀k,k<14->(manyK k=1∨manyK k=2):=by decide
theorem rowsL_len:rowsL.length=14:=rfl
theorem rowsL_rl:rl rowsL 7:=by
 intro r hr
 simp only[rowsL,List.mem_cons,List.not_mem_nil,or_false]at hr
 rcases hr with rfl | rfl | rfl | rfl | rfl | rfl | rfl | rfl | rfl | rfl | rfl | rfl | rfl | rfl<;>rfl
theorem Many_fn (k:Nat) (hk:k<14):CallFn Tryz.prog 59 [aI k] (aI (manyK k)):=by
 obtain⟨w,l,p0,p1,p2,p3,p4,h1,-,-,h4⟩:=row_ex k hk
 have h2:=manyK_or k hk
 have h10:manyK 10=1:=rfl
 have hr:=Rows_fn
 have hrl:=rowsL_len
 have h7:=rowsL_rl
 have hk':(k:Int)<14:=by omega
 generalize rowsL=R at *
 obtain⟨hil,hi1⟩:=List.getElem?_eq_some_iff.1 h1
 refine callFz_of Tryz.func59 rfl Tryz.ntmps59 (rs:=[.tmp 2]) rfl (by kernel_rfl) (by simp) (by kernel_rfl) ?_
 simp
 refine hr.s ?_
 simp[hk,hk',hrl,hi1,h1,rowL,h7]
 by_cases e:p2=[]
 ·have:=h4.1 e
  simp[e,this]
 ·by_cases e2:k=10
  ·subst e2
   simp[e,h10]
  ·have:manyK k=2:=by
    rcases h2 with h | h
    ·exact absurd (h4.2 ⟨h,e2⟩) e
    ·exact h
   simp[e,e2,this]
   omega
theorem Plays_fn (k:Nat) (hk:k<14) (t:List UInt8):CallFn Tryz.prog 112 [aI k,aT t] (aI (idxI (roleK k t))):=by
 obtain⟨w,l,p0,p1,p2,p3,p4,h1,h3,⟨l0,l1,l2,l3,l4⟩,-⟩:=row_ex k hk
 have hr:=Rows_fn
 have hrl:=rowsL_len
 have h7:=rowsL_rl
 have hk':(k:Int)<14:=by omega
 have hlen:=rolesK_len k hk
 generalize rowsL=R at *
 obtain⟨hil,hi1⟩:=List.getElem?_eq_some_iff.1 h1
 have n0:=names_fn p0 (by omega)
 have n1:=names_fn p1 (by omega)
 have n2:=names_fn p2 (by omega)
 have n3:=names_fn p3 (by omega)
 have n4:=names_fn p4 (by omega)
 unfold roleK
 rw[h3]at hlen ⊢
 simp only[List.mem_cons,List.not_mem_nil,or_false,forall_eq_or_imp,forall_eq]at hlen
 obtain⟨m0,m1,m2,m3,m4⟩:=hlen
 generalize namesT p0=r0 at *
 generalize namesT p1=r1 at *
 generalize namesT p2=r2 at *
 generalize namesT p3=r3 at *
 generalize namesT p4=r4 at *
 have c0:=HasT_fn r0 t (by unfold Sh;omega)
 have c1:=HasT_fn r1 t (by unfold Sh;omega)
 have c2:=HasT_fn r2 t (by unfold Sh;omega)
 have c3:=HasT_fn r3 t (by unfold Sh;omega)
 have c4:=HasT_fn r4 t (by unfold Sh;omega)
 refine callFz_of Tryz.func112 rfl Tryz.ntmps112 (rs:=[.tmp 4]) rfl (by kernel_rfl) (by simp) (by kernel_rfl) ?_
 simp
 refine V.forI (σ:=Unit) 5 [0,1] (by simp;exact rfl) (fun i _=>[(4,aI 0),(5,aI i)]) (fun _ _=>[]) (fun i _=>NoF (fun l:List (List UInt8)=>l.any (t==·)) ([r0,r1,r2,r3,r4].take i)) () (by simp) (by simp) ⟨by simp;exact rfl,by simp⟩ ?_ ?_
 ·rintro i-hi hI
  have:i=0∨i=1∨i=2∨i=3∨i=4:=by omega
  rcases this with rfl | rfl | rfl | rfl | rfl
  ·have hs:=findIdx_step (p:=fun l:List (List UInt8)=>l.any (t==·)) hI (show [r0,r1,r2,r3,r4][0]?=some r0 from rfl)
   simp
   refine hr.s ?_
   simp[hk,hk',hrl,hi1,h1,rowL,h7]
   refine n0.s ?_
   simp
   refine c0.s ?_
   cases e:r0.any (t==·)
   ·simp
    exact hs.1 e
   ·rw[hs.2 e]
    simp[idxI]
  ·have hs:=findIdx_step (p:=fun l:List (List UInt8)=>l.any (t==·)) hI (show [r0,r1,r2,r3,r4][1]?=some r1 from rfl)
   simp
   refine hr.s ?_
   simp[hk,hk',hrl,hi1,h1,rowL,h7]
   refine n1.s ?_
   simp
   refine c1.s ?_
   cases e:r1.any (t==·)
   ·simp
    exact hs.1 e
   ·rw[hs.2 e]
    simp[idxI]
  ·have hs:=findIdx_step (p:=fun l:List (List UInt8)=>l.any (t==·)) hI (show [r0,r1,r2,r3,r4][2]?=some r2 from rfl)
   simp
   refine hr.s ?_
   simp[hk,hk',hrl,hi1,h1,rowL,h7]
   refine n2.s ?_
   simp
   refine c2.s ?_
   cases e:r2.any (t==·)
   ·simp
    exact hs.1 e
   ·rw[hs.2 e]
    simp[idxI]
  ·have hs:=findIdx_step (p:=fun l:List (List UInt8)=>l.any (t==·)) hI (show [r0,r1,r2,r3,r4][3]?=some r3 from rfl)
   simp
   refine hr.s ?_
   simp[hk,hk',hrl,hi1,h1,rowL,h7]
   refine n3.s ?_
   simp
   refine c3.s ?_
   cases e:r3.any (t==·)
   ·simp
    exact hs.1 e
   ·rw[hs.2 e]
    simp[idxI]
  ·have hs:=findIdx_step (p:=fun l:List (List UInt8)=>l.any (t==·)) hI (show [r0,r1,r2,r3,r4][4]?=some r4 from rfl)
   simp
   refine hr.s ?_
   simp[hk,hk',hrl,hi1,h1,rowL,h7]
   refine n4.s ?_
   simp
   refine c4.s ?_
   cases e:r4.any (t==·)
   ·simp
    exact hs.1 e
   ·rw[hs.2 e]
    simp[idxI]
 ·rintro-hI
  rw[findIdx_none hI]
  simp[idxI]
theorem allF_len:∀k,k<14->((rolesK k).flatten.foldl putT [])=portsK k:=by decide
theorem putF_len (xs:List (List UInt8)):∀(l:List (List UInt8)),(xs.foldl putT l).length<=l.length+xs.length:=by
 induction xs with
 | nil=>simp
 | cons x xs ih=>
  intro l
  have:=ih (putT l x)
  have:=putT_len l x
  simp
  omega
theorem AllK_fn (k:Nat) (hk:k<14):CallFn Tryz.prog 227 [aI k] (aTs (portsK k)):=by
 obtain⟨w,l,p0,p1,p2,p3,p4,h1,h3,⟨l0,l1,l2,l3,l4⟩,-⟩:=row_ex k hk
 have hr:=Rows_fn
 have hrl:=rowsL_len
 have h7:=rowsL_rl
 have hk':(k:Int)<14:=by omega
 have hlen:=rolesK_len k hk
 rw[<- allF_len k hk]
 generalize rowsL=R at *
 obtain⟨hil,hi1⟩:=List.getElem?_eq_some_iff.1 h1
 have n0:=names_fn p0 (by omega)
 have n1:=names_fn p1 (by omega)
 have n2:=names_fn p2 (by omega)
 have n3:=names_fn p3 (by omega)
 have n4:=names_fn p4 (by omega)
 rw[h3]at hlen ⊢
 simp only[List.mem_cons,List.not_mem_nil,or_false,forall_eq_or_imp,forall_eq]at hlen
 obtain⟨m0,m1,m2,m3,m4⟩:=hlen
 generalize namesT p0=r0 at *
 generalize namesT p1=r1 at *
 generalize namesT p2=r2 at *
 generalize namesT p3=r3 at *
 generalize namesT p4=r4 at *
 have hround:∀(F xs:List (List UInt8)),F.length<=20->xs.length<=2->∀j (hj:j<xs.length),CallFn Tryz.prog 239 [aTs ((xs.take j).foldl putT F),aT xs[j]] (aTs ((xs.take (j+1)).foldl putT F)):=by
  intro F xs hF hx j hj
  have h:=putF_len (xs.take j) F
  rw[List.length_take]at h
  rw[foldl_take (List.getElem?_eq_getElem hj)]
  exact Put_fn _ _ (by omega)
 have hb:∀i,i<=5->(([r0,r1,r2,r3,r4].take i).flatten.foldl putT []).length<=10:=by
  intro i hi
  have h:=putF_len ([r0,r1,r2,r3,r4].take i).flatten []
  have:i=0∨i=1∨i=2∨i=3∨i=4∨i=5:=by omega
  rcases this with rfl | rfl | rfl | rfl | rfl | rfl<;>simp at h ⊢<;>omega
 refine callFz_of Tryz.func227 rfl Tryz.ntmps227 (rs:=[.tmp 2]) rfl (by kernel_rfl) (by simp) (by kernel_rfl) ?_
 simp
 refine V.forI (σ:=Unit) 5 [0,2] (by simp;exact rfl) (fun i _=>[(3,.dat (.sl ((([r0,r1,r2,r3,r4].take i).flatten.foldl putT []).map encT))),(4,aI i)]) (fun _ _=>[]) (fun _ _=>True) () trivial (by simp) ⟨by simp;exact rfl,by simp⟩ ?_ ?_
 ·rintro i-hi -
  have hbi:=hb i (by omega)
  have:i=0∨i=1∨i=2∨i=3∨i=4:=by omega
  rcases this with rfl | rfl | rfl | rfl | rfl
  ·obtain⟨F,hF⟩:∃F,([r0,r1,r2,r3,r4].take 0).flatten.foldl putT []=F:=⟨_,rfl⟩
   have hF2:([r0,r1,r2,r3,r4].take (0+1)).flatten.foldl putT []=r0.foldl putT F:=by
    rw[<- hF]
    simp[List.foldl_append]
   rw[hF2,hF]
   rw[hF]at hbi
   have hrd:=hround F r0 (by omega) m0
   simp
   refine hr.s ?_
   simp[hk,hk',hrl,hi1,h1,rowL,h7]
   refine n0.s ?_
   simp
   refine V.forI (σ:=Unit) r0.length [0,2,4,5] (by simp;exact rfl) (fun j _=>[(3,.dat (.sl (((r0.take j).foldl putT F).map encT))),(6,aI j)]) (fun _ _=>[]) (fun _ _=>True) () trivial (by simp) ⟨by simp;exact rfl,by simp⟩ ?_ ?_
   ·rintro j-hj -
    have hp:=hrd j hj
    obtain⟨x,hx⟩:∃x,r0[j]=x:=⟨_,rfl⟩
    have hxo:r0[j]?=some x:=by rw[List.getElem?_eq_getElem hj,hx]
    rw[hx]at hp
    generalize (r0.take (j+1)).foldl putT F=G2 at *
    generalize (r0.take j).foldl putT F=G at *
    simp[hj,hx,hxo]
    refine hp.s ?_
    simp
    omega
   ·rintro - -
    simp
  ·obtain⟨F,hF⟩:∃F,([r0,r1,r2,r3,r4].take 1).flatten.foldl putT []=F:=⟨_,rfl⟩
   have hF2:([r0,r1,r2,r3,r4].take (1+1)).flatten.foldl putT []=r1.foldl putT F:=by
    rw[<- hF]
    simp[List.foldl_append]
   rw[hF2,hF]
   rw[hF]at hbi
   have hrd:=hround F r1 (by omega) m1
   simp
   refine hr.s ?_
   simp[hk,hk',hrl,hi1,h1,rowL,h7]
   refine n1.s ?_
   simp
   refine V.forI (σ:=Unit) r1.length [0,2,4,5] (by simp;exact rfl) (fun j _=>[(3,.dat (.sl (((r1.take j).foldl putT F).map encT))),(6,aI j)]) (fun _ _=>[]) (fun _ _=>True) () trivial (by simp) ⟨by simp;exact rfl,by simp⟩ ?_ ?_
   ·rintro j-hj -
    have hp:=hrd j hj
    obtain⟨x,hx⟩:∃x,r1[j]=x:=⟨_,rfl⟩
    have hxo:r1[j]?=some x:=by rw[List.getElem?_eq_getElem hj,hx]
    rw[hx]at hp
    generalize (r1.take (j+1)).foldl putT F=G2 at *
    generalize (r1.take j).foldl putT F=G at *
    simp[hj,hx,hxo]
    refine hp.s ?_
    simp
    omega
   ·rintro - -
    simp
  ·obtain⟨F,hF⟩:∃F,([r0,r1,r2,r3,r4].take 2).flatten.foldl putT []=F:=⟨_,rfl⟩
   have hF2:([r0,r1,r2,r3,r4].take (2+1)).flatten.foldl putT []=r2.foldl putT F:=by
    rw[<- hF]
    simp[List.foldl_append]
   rw[hF2,hF]
   rw[hF]at hbi
   have hrd:=hround F r2 (by omega) m2
   simp
   refine hr.s ?_
   simp[hk,hk',hrl,hi1,h1,rowL,h7]
   refine n2.s ?_
   simp
   refine V.forI (σ:=Unit) r2.length [0,2,4,5] (by simp;exact rfl) (fun j _=>[(3,.dat (.sl (((r2.take j).foldl putT F).map encT))),(6,aI j)]) (fun _ _=>[]) (fun _ _=>True) () trivial (by simp) ⟨by simp;exact rfl,by simp⟩ ?_ ?_
   ·rintro j-hj -
    have hp:=hrd j hj
    obtain⟨x,hx⟩:∃x,r2[j]=x:=⟨_,rfl⟩
    have hxo:r2[j]?=some x:=by rw[List.getElem?_eq_getElem hj,hx]
    rw[hx]at hp
    generalize (r2.take (j+1)).foldl putT F=G2 at *
    generalize (r2.take j).foldl putT F=G at *
    simp[hj,hx,hxo]
    refine hp.s ?_
    simp
    omega
   ·rintro - -
    simp
  ·obtain⟨F,hF⟩:∃F,([r0,r1,r2,r3,r4].take 3).flatten.foldl putT []=F:=⟨_,rfl⟩
   have hF2:([r0,r1,r2,r3,r4].take (3+1)).flatten.foldl putT []=r3.foldl putT F:=by
    rw[<- hF]
    simp[List.foldl_append]
   rw[hF2,hF]
   rw[hF]at hbi
   have hrd:=hround F r3 (by omega) m3
   simp
   refine hr.s ?_
   simp[hk,hk',hrl,hi1,h1,rowL,h7]
   refine n3.s ?_
   simp
   refine V.forI (σ:=Unit) r3.length [0,2,4,5] (by simp;exact rfl) (fun j _=>[(3,.dat (.sl (((r3.take j).foldl putT F).map encT))),(6,aI j)]) (fun _ _=>[]) (fun _ _=>True) () trivial (by simp) ⟨by simp;exact rfl,by simp⟩ ?_ ?_
   ·rintro j-hj -
    have hp:=hrd j hj
    obtain⟨x,hx⟩:∃x,r3[j]=x:=⟨_,rfl⟩
    have hxo:r3[j]?=some x:=by rw[List.getElem?_eq_getElem hj,hx]
    rw[hx]at hp
    generalize (r3.take (j+1)).foldl putT F=G2 at *
    generalize (r3.take j).foldl putT F=G at *
    simp[hj,hx,hxo]
    refine hp.s ?_
    simp
    omega
   ·rintro - -
    simp
  ·obtain⟨F,hF⟩:∃F,([r0,r1,r2,r3,r4].take 4).flatten.foldl putT []=F:=⟨_,rfl⟩
   have hF2:([r0,r1,r2,r3,r4].take (4+1)).flatten.foldl putT []=r4.foldl putT F:=by
    rw[<- hF]
    simp[List.foldl_append]
   rw[hF2,hF]
   rw[hF]at hbi
   have hrd:=hround F r4 (by omega) m4
   simp
   refine hr.s ?_
   simp[hk,hk',hrl,hi1,h1,rowL,h7]
   refine n4.s ?_
   simp
   refine V.forI (σ:=Unit) r4.length [0,2,4,5] (by simp;exact rfl) (fun j _=>[(3,.dat (.sl (((r4.take j).foldl putT F).map encT))),(6,aI j)]) (fun _ _=>[]) (fun _ _=>True) () trivial (by simp) ⟨by simp;exact rfl,by simp⟩ ?_ ?_
   ·rintro j-hj -
    have hp:=hrd j hj
    obtain⟨x,hx⟩:∃x,r4[j]=x:=⟨_,rfl⟩
    have hxo:r4[j]?=some x:=by rw[List.getElem?_eq_getElem hj,hx]
    rw[hx]at hp
    generalize (r4.take (j+1)).foldl putT F=G2 at *
    generalize (r4.take j).foldl putT F=G at *
    simp[hj,hx,hxo]
    refine hp.s ?_
    simp
    omega
   ·rintro - -
    simp
 ·rintro - -
  simp
def ventK (k pos:Nat):List UInt8:=
 if k=2∨k=3 then (if pos=1 then [50] else [52])
 else if k=4∨k=6∨k=7∨k=12∨k=13 then (if pos=1 then [] else [50])
 else if k=5 then (if pos=1 then [50] else [])
 else []
def toK (k pos:Nat):List UInt8:=match passK k pos with
 | p::_=>p.to
 | []=>[]
theorem Open_fn (k:Nat) (hk:k<14) (pos:Nat) (hp:pos<=1000):CallFn Tryz.prog 306 [aI k,aI pos] (.tuple [aT (toK k pos),aT (ventK k pos)]):=by
 refine callFz_of Tryz.func306 rfl Tryz.ntmps306 (rs:=[.tmp 4,.tmp 5]) rfl (by kernel_rfl) (by simp) (by kernel_rfl) ?_
 have:k=0∨k=1∨k=2∨k=3∨k=4∨k=5∨k=6∨k=7∨k=8∨k=9∨k=10∨k=11∨k=12∨k=13:=by omega
 by_cases e:pos=1
 ·subst e
  rcases this with rfl | rfl | rfl | rfl | rfl | rfl | rfl | rfl | rfl | rfl | rfl | rfl | rfl | rfl<;>simp[toK,ventK,passK]
 ·have e2:¬(pos:Int)=1:=by omega
  rcases this with rfl | rfl | rfl | rfl | rfl | rfl | rfl | rfl | rfl | rfl | rfl | rfl | rfl | rfl<;>simp[toK,ventK,passK,e,e2]
abbrev encPs (p:PassP):List L:=[.str p.to,.sl (p.src.map encT),.bool p.all]
theorem passK_one:∀k,k<14->∀pos,pos<2->(toK k pos=[]∧passK k pos=[])∨(toK k pos≠[]∧passK k pos=[⟨toK k pos,(rolesK k).getD 0 [],k==9⟩]):=by decide
theorem Passed_fn (k:Nat) (hk:k<14) (pos:Nat) (hp:pos<2):CallFn Tryz.prog 277 [aI k,aI pos] (.dat (.sl ((passK k pos).map encPs))):=by
 obtain⟨w,l,p0,p1,p2,p3,p4,h1,h3,⟨l0,l1,l2,l3,l4⟩,-⟩:=row_ex k hk
 have hr:=Rows_fn
 have hrl:=rowsL_len
 have h7:=rowsL_rl
 have hk':(k:Int)<14:=by omega
 have hop:=Open_fn k hk pos (by omega)
 have hone:=passK_one k hk pos hp
 generalize rowsL=R at *
 obtain⟨hil,hi1⟩:=List.getElem?_eq_some_iff.1 h1
 have n0:=names_fn p0 (by omega)
 rw[h3]at hone
 simp only[List.getD_cons_zero]at hone
 generalize namesT p0=r0 at *
 generalize toK k pos=t at *
 generalize ventK k pos=v at *
 refine callFz_of Tryz.func277 rfl Tryz.ntmps277 (rs:=[.tmp 4]) rfl (by kernel_rfl) (by simp) (by kernel_rfl) ?_
 simp
 refine hop.s ?_
 rcases hone with⟨e1,e2⟩|⟨e1,e2⟩
 ·simp[e1,e2]
 ·simp[e1]
  refine hr.s ?_
  simp[hk,hk',hrl,hi1,h1,rowL,h7]
  refine n0.s ?_
  simp[e2]
  rw[Bool.eq_iff_iff]
  simp only[beq_iff_eq]
  omega
theorem Piloted_fn (k:Nat) (hk:k<14):CallFn Tryz.prog 36 [aI k] (.tuple [aT (plusK k),aT (minusK k)]):=by
 refine callFz_of Tryz.func36 rfl Tryz.ntmps36 (rs:=[.tmp 2,.tmp 3]) rfl (by kernel_rfl) (by simp) (by kernel_rfl) ?_
 have:k=0∨k=1∨k=2∨k=3∨k=4∨k=5∨k=6∨k=7∨k=8∨k=9∨k=10∨k=11∨k=12∨k=13:=by omega
 rcases this with rfl | rfl | rfl | rfl | rfl | rfl | rfl | rfl | rfl | rfl | rfl | rfl | rfl | rfl<;>simp[plusK,minusK]
theorem IndexR_fn (c:Cir) (t:List UInt8) (hs:Sh c.parts):CallFn Tryz.prog 305 [aCi c,aT t] (aI (idxI (findN c.parts t))):=by
 obtain⟨ps,l⟩:=c
 simp only at hs
 unfold findN
 refine callFz_of Tryz.func305 rfl Tryz.ntmps305 (rs:=[.tmp 4]) rfl (by kernel_rfl) (by simp) (by kernel_rfl) ?_
 simp
 refine V.forI (σ:=Unit) ps.length [1,2] (by simp;exact rfl) (fun i _=>[(4,aI 0),(5,aI i)]) (fun _ _=>[]) (fun i _=>NoF (fun p:Prt=>p.name==t) (ps.take i)) () (by simp) (by simp) ⟨by simp;exact rfl,by simp⟩ ?_ ?_
 ·rintro i-hi hI
  obtain⟨x,hx⟩:∃x,ps[i]=x:=⟨_,rfl⟩
  have hxo:ps[i]?=some x:=by rw[List.getElem?_eq_getElem hi,hx]
  have hst:=findIdx_step (p:=fun p:Prt=>p.name==t) hI hxo
  simp[hi,hx,hxo]
  by_cases e:x.name=t
  ·rw[hst.2 (by simp[e])]
   simp[e,idxI]
  ·simp[e]
   exact⟨by omega,hst.1 (by simp[e])⟩
 ·rintro-hI
  rw[findIdx_none hI]
  simp[idxI]
def cylN (ps:List Prt) (t:List UInt8):Bool:=match findN ps t with
 | some j=>(ps[j]?).any fun q=>q.kind==1
 | none=>false
theorem findN_lt {ps:List Prt}{t:List UInt8}{j:Nat}(h:findN ps t=some j):∃q,ps[j]?=some q∧q.name=t:=by
 unfold findN at h
 obtain⟨hj,h1,_⟩:=List.findIdx?_eq_some_iff_getElem.1 h
 exact⟨ps[j],List.getElem?_eq_getElem hj,by simpa using h1⟩
theorem cylinderR_fn (c:Cir) (t:List UInt8) (hs:Sh c.parts):CallFn Tryz.prog 275 [aCi c,aT t] (aB (cylN c.parts t)):=by
 have hf:=IndexR_fn c t hs
 have hlt:=@findN_lt c.parts t
 obtain⟨ps,l⟩:=c
 simp only at hs hf hlt
 unfold cylN
 refine callFz_of Tryz.func275 rfl Tryz.ntmps275 (rs:=[.tmp 4]) rfl (by kernel_rfl) (by simp) (by kernel_rfl) ?_
 simp
 refine hf.s ?_
 cases h:findN ps t with
 | none=>cases h0:ps[0]?<;>simp[idxI,h0]
 | some j=>
  obtain⟨q,hq,_⟩:=hlt h
  obtain⟨hj,hq1⟩:=List.getElem?_eq_some_iff.1 hq
  simp[idxI,hq,hq1,hj]
theorem belongsR_fn (c:Cir) (t:List UInt8) (hs:Sh c.parts) (ht:t.length<=1000) (hne:∀p∈c.parts,p.name≠[]):CallFn Tryz.prog 221 [aCi c,aT t] (aB (ownN c.parts t)):=by
 have hcy:=fun u=>cylinderR_fn c u hs
 have hnil:findN c.parts []=none:=by
  unfold findN
  rw[List.findIdx?_eq_none_iff]
  intro p hp
  simpa using hne p hp
 have ho:ownN c.parts t=((t.getLast? == some 48||t.getLast? == some 49)&&cylN c.parts t.dropLast):=rfl
 rw[ho]
 obtain⟨ps,l⟩:=c
 simp only at hs hcy hnil
 refine callFz_of Tryz.func221 rfl Tryz.ntmps221 (rs:=[.tmp 4]) rfl (by kernel_rfl) (by simp) (by kernel_rfl) ?_
 rcases List.eq_nil_or_concat t with rfl | ⟨q,x,rfl⟩
 ·simp
  refine V.drawX (fun t=>if t=30 then some (.fn (aB false)) else none) (by kernel_rfl) (by kernel_rfl) (by simp) ?_
  simp
 ·rw[List.concat_eq_append]at *
  have hcq:=hcy q
  have e1:(q++[x])[q.length]?=some x:=by simp
  have e2:List.take q.length (q++[x])=q:=by simp
  rw[show (q++[x]).dropLast=q by simp,show (q++[x]).getLast? = some x by simp]
  simp at ht
  by_cases hq:q=[]
  ·subst hq
   have:cylN ps []=false:=by unfold cylN;rw[hnil]
   rw[this]
   simp
   refine V.drawX (fun t=>if t=30 then some (.fn (aB false)) else none) (by kernel_rfl) (by kernel_rfl) (by simp) ?_
   simp
  ·have hql:0<q.length:=List.length_pos_iff.2 hq
   simp
   refine V.drawX (fun t=>if t=30 then some (.fn (aB (cylN ps q))) else none) (by kernel_rfl) (by kernel_rfl) (by simp) ?_
   have h1l:(1:Int)<(q.length:Int)+1:=by omega
   have hb:∀n:UInt8,((x.toNat:Int)==(n.toNat:Int))=(x==n):=fun n=>by
    rw[Bool.eq_iff_iff]
    simp only[beq_iff_eq]
    exact⟨fun h=>UInt8.toNat.inj (by omega),fun h=>by rw[h]⟩
   have b1:=hb 48
   have b2:=hb 49
   simp only[show ((48:UInt8).toNat:Int)=48 from rfl,show ((49:UInt8).toNat:Int)=49 from rfl]at b1 b2
   simp[e1,e2,hql,h1l,b1,b2]
   exact⟨by omega,by omega,fun h=>⟨h,by omega⟩,fun h=>⟨h,by omega⟩,fun h=>⟨h,by omega⟩,fun h=>⟨h,hcq⟩⟩
theorem BeforeR_fn (a b:PortZ):CallFn Tryz.prog 223 [.record (encPo a),.record (encPo b)] (aB (beforeZ a b)):=by
 obtain⟨a1,a2⟩:=a
 obtain⟨b1,b2⟩:=b
 refine callFz_of Tryz.func223 rfl Tryz.ntmps223 (rs:=[.tmp 4]) rfl (by kernel_rfl) (by simp) (by kernel_rfl) ?_
 unfold beforeZ lexB
 by_cases e:a1=b1
 ·subst e
  simp
 ·simp[e]
theorem EarlierR_fn (a b:PipeZ):CallFn Tryz.prog 151 [.record (encPi a),.record (encPi b)] (aB (earlierZ a b)):=by
 obtain⟨⟨a1,a2⟩,a3,a4⟩:=a
 obtain⟨⟨b1,b2⟩,b3,b4⟩:=b
 have h1:=BeforeR_fn (a1,a2) (b1,b2)
 have h2:=BeforeR_fn (a3,a4) (b3,b4)
 refine callFz_of Tryz.func151 rfl Tryz.ntmps151 (rs:=[.tmp 4]) rfl (by kernel_rfl) (by simp) (by kernel_rfl) ?_
 unfold earlierZ
 rw[lexB]
 by_cases e1:a1=b1
 ·by_cases e2:a2=b2
  ·subst e1 e2
   simp
   refine h2.s ?_
   simp
  ·subst e1
   simp[e2]
   refine h1.s ?_
   simp[e2]
 ·simp[e1]
  refine h1.s ?_
  simp[e1]
theorem roleK_lt (k:Nat) (t:List UInt8):(idxI (roleK k t)<0)↔hasK k t=false:=by
 unfold roleK hasK
 rw[<- List.findIdx?_isSome]
 cases (rolesK k).findIdx? fun l=>l.any (t==·) with
 | none=>simp[idxI]
 | some j=>simp[idxI]
def KindsOK (ps:List Prt):Prop:=∀p∈ps,0<=p.kind∧p.kind<14
theorem portR_fn (c:Cir) (q:PortZ) (hk:KindsOK c.parts) (hs:c.parts.length<=1000000):CallFn Tryz.prog 222 [aCi c,.record (encPo q)] (.tuple [aI (if inPort c.parts q=true then 0 else 2),aI (if inPort c.parts q=true∧hasPort c.parts q=false then 6 else 0)]):=by
 obtain⟨q1,q2⟩:=q
 obtain⟨ps,l⟩:=c
 unfold inPort hasPort
 simp only at hk hs
 refine callFz_of Tryz.func222 rfl Tryz.ntmps222 (rs:=[.tmp 4,.tmp 5]) rfl (by kernel_rfl) (by simp) (by kernel_rfl) ?_
 by_cases h1:q1<0
 ·have:¬ 0<=q1:=by omega
  simp[h1,this]
 ·by_cases h2:(ps.length:Int)<=q1
  ·have:¬q1<ps.length:=by omega
   simp[h1,h2,this]
  ·obtain⟨n,rfl⟩:∃n:Nat,q1=n:=⟨q1.toNat,by omega⟩
   have hn:n<ps.length:=by omega
   obtain⟨p,hp⟩:∃p,ps[n]=p:=⟨_,rfl⟩
   have hpo:ps[n]?=some p:=by rw[List.getElem?_eq_getElem hn,hp]
   have hkp:=hk p (List.mem_of_getElem? hpo)
   obtain⟨pk,pn,pd⟩:=p
   simp only at hkp
   obtain⟨k,rfl⟩:∃k:Nat,pk=k:=⟨pk.toNat,by omega⟩
   have hpl:=Plays_fn k (by omega) q2
   have hlt:=roleK_lt k q2
   have h3:¬((ps.length:Int)<=n):=h2
   have h4:¬((n:Int)<0):=h1
   have h5:(n:Int)<ps.length:=by omega
   generalize idxI (roleK k q2)=r at *
   simp[h3,h4,h5,hpo,hp,hn]
   refine V.drawX (fun t=>if t=26 then some (.fn (aI r)) else none) (by kernel_rfl) (by kernel_rfl) (by simp) ?_
   simp[hpo,hp,hn]
   exact⟨hpl,hlt.1,fun h=>by
    cases hh:hasK k q2 with
    | true=>rfl
    | false=>have:=hlt.2 hh;omega⟩
def pipe1 (ps:List Prt) (x:PipeZ):Int:=
 if inPort ps x.1=false∨inPort ps x.2=false then 2
 else if hasPort ps x.1=false∨hasPort ps x.2=false then 6
 else if beforeZ x.1 x.2=false then 9 else 0
theorem pipeR_fn (c:Cir) (x:PipeZ) (hk:KindsOK c.parts) (hs:c.parts.length<=1000000):CallFn Tryz.prog 150 [aCi c,.record (encPi x)] (aI (pipe1 c.parts x)):=by
 obtain⟨⟨a1,a2⟩,b1,b2⟩:=x
 have h1:=portR_fn c (a1,a2) hk hs
 have h2:=portR_fn c (b1,b2) hk hs
 have h3:=BeforeR_fn (a1,a2) (b1,b2)
 unfold pipe1
 obtain⟨ps,l⟩:=c
 simp only at h1 h2 h3 ⊢
 generalize inPort ps (a1,a2)=i1 at *
 generalize inPort ps (b1,b2)=i2 at *
 generalize hasPort ps (a1,a2)=p1 at *
 generalize hasPort ps (b1,b2)=p2 at *
 generalize beforeZ (a1,a2) (b1,b2)=bf at *
 refine callFz_of Tryz.func150 rfl Tryz.ntmps150 (rs:=[.tmp 4]) rfl (by kernel_rfl) (by simp) (by kernel_rfl) ?_
 cases i1
 ·simp at h1 ⊢
  refine h1.s ?_
  simp
  refine h2.s ?_
  simp
 ·cases i2
  ·simp at h1 h2 ⊢
   refine h1.s ?_
   simp
   refine h2.s ?_
   simp
  ·simp at h1 h2 ⊢
   refine h1.s ?_
   simp
   refine h2.s ?_
   cases p1
   ·simp
   ·cases p2
    ·simp
    ·simp
     refine h3.s ?_
     cases bf<;>simp
def partsZ (ps:List Prt):Int:=
 if 64<ps.length then 5
 else if firstE (stepE ps) ps.length≠0 then firstE (stepE ps) ps.length
 else firstE (limE ps) ps.length
theorem cirE_eq (c:Cir):cirE c=if partsZ c.parts≠0 then partsZ c.parts else if 256<c.pipes.length then 5 else firstE (pipeE c) c.pipes.length:=by
 unfold cirE partsZ
 by_cases h1:64<c.parts.length
 ·simp[h1]
 ·by_cases h2:firstE (stepE c.parts) c.parts.length=0
  ·simp[h1,h2]
  ·simp[h1,h2]
theorem stepE_eq {ps:List Prt}{i:Nat}{p:Prt}(h:ps[i]?=some p) (h0:partE p=0):(i=0->stepE ps i=0)∧(∀j q,i=j+1->ps[j]?=some q->stepE ps i=if ltB q.name p.name=true then 0 else 9):=by
 constructor
 ·rintro rfl
  simp[stepE,h,h0]
 ·rintro j q rfl hq
  simp[stepE,h,h0,hq]
theorem stepE_err {ps:List Prt}{i:Nat}{p:Prt}(h:ps[i]?=some p) (h0:partE p≠0):stepE ps i=partE p:=by
 simp[stepE,h,h0]
theorem step_part {ps:List Prt}{n:Nat}(h:firstE (stepE ps) n=0):∀i p,i<n->ps[i]?=some p->partE p=0:=by
 intro i p hi hp
 have:=firstE_zero n h i hi
 by_cases h0:partE p=0
 ·exact h0
 ·rw[stepE_err hp h0]at this
  exact absurd this h0
theorem partE_kind {p:Prt}(h:partE p=0):0<=p.kind∧p.kind<14:=by
 unfold partE at h
 split at h
 ·cases h
 ·rename_i h1
  exact Classical.not_not.1 h1
theorem partE_name {p:Prt}(h:partE p=0):p.name≠[]∧p.name.length<=24:=by
 unfold partE at h
 split at h
 ·cases h
 ·split at h
  ·rename_i h1;exact absurd h h1
  ·rename_i h1
   have h2:=Classical.not_not.1 h1
   unfold wordE at h2
   split at h2
   ·cases h2
   ·rename_i h3
    split at h2
    ·cases h2
    ·split at h2
     ·cases h2
     ·refine⟨?_,by omega⟩
      intro e
      rw[e]at h3
      simp at h3
theorem partsR_fn (c:Cir) (hs:c.parts.length<=64->∀p∈c.parts,p.name.length<=1000) (hl:Sh c.parts):CallFn Tryz.prog 149 [aCi c] (aI (partsZ c.parts)):=by
 have hbel:=fun t h1 h2=>belongsR_fn c t hl h1 h2
 obtain⟨ps,l⟩:=c
 simp only at hs hl hbel ⊢
 unfold partsZ
 refine callFz_of Tryz.func149 rfl Tryz.ntmps149 (rs:=[.tmp 2]) rfl (by kernel_rfl) (by simp) (by kernel_rfl) ?_
 simp
 refine⟨fun h1 h2=>absurd h1 (by omega),fun h64=>?_⟩
 have hs:=hs (by omega)
 have h64':¬ 64<ps.length:=by omega
 rw[if_neg h64']
 refine V.forI (σ:=Unit) ps.length [1] (by simp;exact rfl) (fun i _=>[(2,aI 0),(3,aI i)]) (fun _ _=>[]) (fun i _=>firstE (stepE ps) i=0) () rfl (by simp) ⟨by simp;exact rfl,by simp⟩ ?_ ?_
 ·rintro i-hi hI
  obtain⟨p,hp⟩:∃p,ps[i]=p:=⟨_,rfl⟩
  have hpo:ps[i]?=some p:=by rw[List.getElem?_eq_getElem hi,hp]
  have hc:=CheckP_fn p (by have:=hs p (List.mem_of_getElem? hpo);omega)
  have h1:=firstE_step hI
  have h2:=firstE_hit hI hi
  by_cases h0:partE p=0
  ·rw[h0]at hc
   obtain⟨e0,es⟩:=stepE_eq hpo h0
   cases i with
   | zero=>
    simp[hi,hp,hpo]
    refine hc.s ?_
    simp
    refine V.drawX (fun _=>none) (by kernel_rfl) (by kernel_rfl) (by simp) ?_
    simp[hpo,hp,hi]
    rw[show (0+1:Nat)=1 from rfl]at h1
    rw[h1,e0 rfl]
   | succ j=>
    have hj:j<ps.length:=by omega
    obtain⟨q,hq⟩:∃q,ps[j]=q:=⟨_,rfl⟩
    have hqo:ps[j]?=some q:=by rw[List.getElem?_eq_getElem hj,hq]
    have e1:=es j q rfl hqo
    have hi':(j:Int)+1<ps.length:=by omega
    have h01:(0:Int)<=j+1:=by omega
    simp[hi,hi',h01,hp,hpo]
    refine hc.s ?_
    simp
    refine V.drawX (fun _=>none) (by kernel_rfl) (by kernel_rfl) (by simp) ?_
    simp[hpo,hp,hi,hi',h01,hqo,hq,hj]
    rw[h1,e1]
    rw[e1]at h2
    cases hlt:ltB q.name p.name
    ·rw[hlt]at h2
     have h9:=h2 (by simp)
     simp only[Bool.false_eq_true,if_false]at h9
     rw[h9]
     refine⟨by omega,fun _=>by simp,fun a b=>?_⟩
     exact absurd (ltB_total hlt a) (fun e=>b e.symm)
    ·have h3:Go.Op.bytesLess p.name q.name=false:=ltB_asymm hlt
     have h4:¬p.name=q.name:=fun e=>by rw[e,ltB_irrefl]at hlt;cases hlt
     refine⟨by omega,fun h=>?_,fun _ _=>⟨by omega,by simp⟩⟩
     rcases h with h | h
     ·rw[h3]at h;cases h
     ·exact absurd h h4
  ·simp[hi,hp,hpo]
   refine hc.s ?_
   have e1:=stepE_err hpo h0
   rw[e1]at h2
   simp[h0,h2 h0]
 ·rintro-hI
  rw[hI]
  have hpart:=step_part hI
  have hne:∀p∈ps,p.name≠[]:=fun p hp=>by
   obtain⟨i,hi,e⟩:=List.getElem_of_mem hp
   exact (partE_name (hpart i p hi (by rw[List.getElem?_eq_getElem hi,e]))).1
  simp
  refine V.forI (σ:=Unit) ps.length [1] (by simp;exact rfl) (fun i _=>[(2,aI 0),(5,aI i)]) (fun _ _=>[]) (fun i _=>firstE (limE ps) i=0) () rfl (by simp) ⟨by simp;exact rfl,by simp⟩ ?_ ?_
  ·rintro i-hi hI2
   obtain⟨p,hp⟩:∃p,ps[i]=p:=⟨_,rfl⟩
   have hpo:ps[i]?=some p:=by rw[List.getElem?_eq_getElem hi,hp]
   have hpm:=List.mem_of_getElem? hpo
   have hc:=hbel p.name (hs p hpm) hne
   have h1:=firstE_step hI2
   have h2:=firstE_hit hI2 hi
   have e1:limE ps i=if p.kind=6∧ownN ps p.name=false then 6 else 0:=by simp[limE,hpo]
   simp[hi,hp,hpo]
   refine V.drawX (fun t=>if t=66 then some (.fn (aB (ownN ps p.name))) else none) (by kernel_rfl) (by kernel_rfl) (by simp) ?_
   simp[hpo,hp,hi]
   rw[h1,e1]
   rw[e1]at h2
   exact⟨fun h=>⟨h,hc⟩,fun h6 ho=>by rw[h2 (by simp[h6,ho])];simp[h6,ho],fun h=>⟨by omega,if_neg (fun ⟨a,b⟩=>by rw[h a]at b;cases b)⟩⟩
  ·rintro-hI2
   rw[hI2]
   simp
theorem pipeE_eq {c:Cir}{i:Nat}{x:PipeZ}(h:c.pipes[i]?=some x) (h0:pipe1 c.parts x=0):(i=0->pipeE c i=0)∧(∀j y,i=j+1->c.pipes[j]?=some y->pipeE c i=if earlierZ y x=true then 0 else 9):=by
 unfold pipe1 at h0
 by_cases h1:inPort c.parts x.1=false∨inPort c.parts x.2=false
 ·rw[if_pos h1]at h0;cases h0
 rw[if_neg h1]at h0
 by_cases h2:hasPort c.parts x.1=false∨hasPort c.parts x.2=false
 ·rw[if_pos h2]at h0;cases h0
 rw[if_neg h2]at h0
 by_cases h3:beforeZ x.1 x.2=false
 ·rw[if_pos h3]at h0;cases h0
 constructor
 ·rintro rfl
  simp[pipeE,h,h1,h2,h3]
 ·rintro j y rfl hy
  simp[pipeE,h,h1,h2,h3,hy]
theorem pipeE_err {c:Cir}{i:Nat}{x:PipeZ}(h:c.pipes[i]?=some x) (h0:pipe1 c.parts x≠0):pipeE c i=pipe1 c.parts x:=by
 unfold pipe1 at h0 ⊢
 unfold pipeE
 rw[h]
 simp only
 by_cases h1:inPort c.parts x.1=false∨inPort c.parts x.2=false
 ·rw[if_pos h1,if_pos h1]
 rw[if_neg h1]at h0
 rw[if_neg h1,if_neg h1]
 by_cases h2:hasPort c.parts x.1=false∨hasPort c.parts x.2=false
 ·rw[if_pos h2,if_pos h2]
 rw[if_neg h2]at h0
 rw[if_neg h2,if_neg h2]
 by_cases h3:beforeZ x.1 x.2=false
 ·rw[if_pos h3,if_pos h3]
 ·rw[if_neg h3]at h0
  exact absurd rfl h0
theorem CirCheckR_fn (c:Cir) (hs:c.parts.length<=64->∀p∈c.parts,p.name.length<=1000) (hl:Sh c.parts) (hl2:Sh c.pipes):CallFn Tryz.prog 92 [aCi c] (aI (cirE c)):=by
 have hp:=partsR_fn c hs hl
 rw[cirE_eq]
 have hpi:partsZ c.parts=0->KindsOK c.parts∧c.parts.length<=64:=by
  intro h
  unfold partsZ at h
  by_cases h1:64<c.parts.length
  ·rw[if_pos h1]at h;cases h
  ·rw[if_neg h1]at h
   by_cases h2:firstE (stepE c.parts) c.parts.length=0
   ·refine⟨fun p hp=>?_,by omega⟩
    obtain⟨i,hi,e⟩:=List.getElem_of_mem hp
    exact partE_kind (step_part h2 i p hi (by rw[List.getElem?_eq_getElem hi,e]))
   ·rw[if_pos h2]at h
    exact absurd h h2
 have hpp:=fun x hk hn=>pipeR_fn c x hk hn
 obtain⟨ps,l⟩:=c
 simp only at hp hpi hpp hl2 ⊢
 refine callFz_of Tryz.func92 rfl Tryz.ntmps92 (rs:=[.tmp 2]) rfl (by kernel_rfl) (by simp) (by kernel_rfl) ?_
 simp
 refine hp.s ?_
 by_cases h0:partsZ ps=0
 ·obtain⟨hk,h64⟩:=hpi h0
  simp[h0]
  refine⟨fun h1 h2=>absurd h1 (by omega),fun h256=>?_⟩
  have h256':¬ 256<l.length:=by omega
  rw[if_neg h256']
  refine V.forI (σ:=Unit) l.length [1] (by simp;exact rfl) (fun i _=>[(2,aI 0),(4,aI i)]) (fun _ _=>[]) (fun i _=>firstE (pipeE ⟨ps,l⟩) i=0) () rfl (by simp) ⟨by simp;exact rfl,by simp⟩ ?_ ?_
  ·rintro i-hi hI
   obtain⟨x,hx⟩:∃x,l[i]=x:=⟨_,rfl⟩
   have hxo:l[i]?=some x:=by rw[List.getElem?_eq_getElem hi,hx]
   have hc:=hpp x hk (by omega)
   have h1:=firstE_step hI
   have h2:=firstE_hit hI hi
   by_cases hp1:pipe1 ps x=0
   ·rw[hp1]at hc
    obtain⟨e0,es⟩:=pipeE_eq (c:=⟨ps,l⟩) hxo hp1
    cases i with
    | zero=>
     rw[h1,e0 rfl]
     simp[hi,hx,hxo]
     refine V.drawX (fun t=>if t=28 then some (.fn (aI 0)) else none) (by kernel_rfl) (by kernel_rfl) (by simp) ?_
     simp[hi,hx,hxo]
     refine⟨hc,?_⟩
     refine V.drawX (fun t=>if t=46 then some (.fn (aB true)) else none) (by kernel_rfl) (by kernel_rfl) (by simp) ?_
     simp[hi,hx,hxo]
    | succ j=>
     have hj:j<l.length:=by omega
     obtain⟨y,hy⟩:∃y,l[j]=y:=⟨_,rfl⟩
     have hyo:l[j]?=some y:=by rw[List.getElem?_eq_getElem hj,hy]
     have e1:=es j y rfl hyo
     have hi':(j:Int)+1<l.length:=by omega
     have h01:(0:Int)<=j+1:=by omega
     have hear:=EarlierR_fn y x
     rw[h1,e1]
     rw[e1]at h2
     generalize earlierZ y x=ea at *
     simp[hi,hi',h01,hx,hxo]
     refine V.drawX (fun t=>if t=28 then some (.fn (aI 0)) else none) (by kernel_rfl) (by kernel_rfl) (by simp) ?_
     simp[hi,hi',h01,hx,hxo]
     refine⟨hc,?_⟩
     refine V.drawX (fun t=>if t=46 then some (.fn (aB ea)) else none) (by kernel_rfl) (by kernel_rfl) (by simp) ?_
     simp[hi,hi',h01,hx,hxo,hj,hy,hyo]
     refine⟨by omega,hear,fun h=>?_,fun h=>⟨by omega,h⟩⟩
     subst h
     rw[h2 (by simp),h0]
     simp
   ·have e1:=pipeE_err (c:=⟨ps,l⟩) hxo hp1
    rw[e1]at h2
    simp[hi,hx,hxo]
    refine V.drawX (fun t=>if t=28 then some (.fn (aI (pipe1 ps x))) else none) (by kernel_rfl) (by kernel_rfl) (by simp) ?_
    simp[hi,hx,hxo]
    refine⟨hc,?_⟩
    simp[hp1,h2 hp1,h0]
  ·rintro-hI
   rw[hI]
   simp[h0]
 ·simp[h0]
def fewB (c:Cir):Bool:=
 ((c.parts.take 12).all fun p=>decide (p.name.length<=60))&&((c.pipes.take 24).all fun x=>decide (x.1.2.length<=60)&&decide (x.2.2.length<=60)) &&
 (decide (c.parts.length<=12)||decide (64<c.parts.length)&&decide (c.parts.length<128))&&(decide (c.pipes.length<=24)||decide (256<c.pipes.length)&&decide (c.pipes.length<512))
theorem all_take {α:Type}{l:List α}{p:α->Bool}{i n:Nat}{x:α}(h:l[i]?=some x) (hi:i<n) (hx:p x=false):(l.take n).all p=false:=by
 rw[List.all_eq_false]
 refine⟨x,List.mem_of_getElem? (i:=i) ?_,by simp[hx]⟩
 rw[List.getElem?_take,if_pos hi,h]
theorem all_min {α:Type}{l:List α}{p:α->Bool}{n:Nat}(h:(l.take (min l.length n)).all p=true):(l.take n).all p=true:=by
 have:l.take n=l.take (min l.length n):=by
  by_cases h:l.length<=n
  ·rw[Nat.min_eq_left h,List.take_of_length_le h,List.take_length]
  ·rw[Nat.min_eq_right (by omega)]
 rw[this]
 exact h
theorem all_snoc {α:Type}{l:List α}{p:α->Bool}{i:Nat}{x:α}(h:l[i]?=some x) (h1:(l.take i).all p=true) (hx:p x=true):(l.take (i+1)).all p=true:=by
 rw[List.take_add_one,h,List.all_append,h1]
 simp[hx]
theorem CirFew_fn (c:Cir) (hl:Sh c.parts) (hl2:Sh c.pipes):CallFn Tryz.prog 20 [aCi c] (aB (fewB c)):=by
 obtain⟨ps,l⟩:=c
 unfold fewB
 simp only at hl hl2 ⊢
 have A1:=fun i x=>all_take (l:=ps) (p:=fun p=>decide (p.name.length<=60)) (i:=i) (n:=12) (x:=x)
 have A2:=fun i x=>all_take (l:=l) (p:=fun x=>decide (x.1.2.length<=60)&&decide (x.2.2.length<=60)) (i:=i) (n:=24) (x:=x)
 have B1:=all_min (l:=ps) (p:=fun p=>decide (p.name.length<=60)) (n:=12)
 have B2:=all_min (l:=l) (p:=fun x=>decide (x.1.2.length<=60)&&decide (x.2.2.length<=60)) (n:=24)
 generalize ((ps.take 12).all fun p=>decide (p.name.length<=60))=a1 at *
 generalize ((l.take 24).all fun x=>decide (x.1.2.length<=60)&&decide (x.2.2.length<=60))=a2 at *
 refine callFz_of Tryz.func20 rfl Tryz.ntmps20 (rs:=[.tmp 2]) rfl (by kernel_rfl) (by simp) (by kernel_rfl) ?_
 simp
 refine V.forI (σ:=Unit) (min ps.length 12) [1] (by simp;exact rfl) (fun i _=>[(2,aB false),(3,aI i)]) (fun _ _=>[]) (fun i _=>((ps.take i).all fun p=>decide (p.name.length<=60))=true) () (by simp) (by simp) ⟨by simp;exact rfl,by simp⟩ ?_ ?_
 ·rintro i-hi hI
  have hi1:i<ps.length:=by omega
  have hi2:(i:Int)<12:=by omega
  obtain⟨p,hp⟩:∃p,ps[i]=p:=⟨_,rfl⟩
  have hpo:ps[i]?=some p:=by rw[List.getElem?_eq_getElem hi1,hp]
  by_cases h60:p.name.length<=60
  ·have h2:¬(60:Int)<p.name.length:=by omega
   have h3:=all_snoc hpo hI (by simp[h60])
   generalize ((ps.take (i+1)).all fun p=>decide (p.name.length<=60))=z at *
   simp[hi1,hi2,hp,hpo,h2,h3]
   omega
  ·have h2:(60:Int)<p.name.length:=by omega
   have:=A1 i p hpo (by omega) (by simp;omega)
   generalize ((ps.take (i+1)).all fun p=>decide (p.name.length<=60))=z at *
   simp[hi1,hi2,hp,hpo,h2,this]
 ·rintro-hI
  have ha1:=B1 hI
  subst ha1
  have hcase:min ps.length 12=ps.length∨(min ps.length 12=12∧(12:Int)<ps.length∧12<ps.length):=by omega
  rcases hcase with e | ⟨e,e2,e3⟩
  all_goals
   rw[e]
   first | simp[e2,e3] | simp
   refine V.forI (σ:=Unit) (min l.length 24) [1] (by simp;exact rfl) (fun i _=>[(2,aB false),(4,aI i)]) (fun _ _=>[]) (fun i _=>((l.take i).all fun x=>decide (x.1.2.length<=60)&&decide (x.2.2.length<=60))=true) () (by simp) (by simp) ⟨by simp;exact rfl,by simp⟩ ?_ ?_
   ·rintro i-hi hI
    have hi1:i<l.length:=by omega
    have hi2:(i:Int)<24:=by omega
    obtain⟨x,hx⟩:∃x,l[i]=x:=⟨_,rfl⟩
    have hxo:l[i]?=some x:=by rw[List.getElem?_eq_getElem hi1,hx]
    by_cases h60:x.1.2.length<=60
    ·have g1:¬(60:Int)<x.1.2.length:=by omega
     by_cases h61:x.2.2.length<=60
     ·have g2:¬(60:Int)<x.2.2.length:=by omega
      have h3:=all_snoc hxo hI (by simp[h60,h61])
      generalize ((l.take (i+1)).all fun x=>decide (x.1.2.length<=60)&&decide (x.2.2.length<=60))=z at *
      simp[hi1,hi2,hx,hxo,g1,g2,h3]
      omega
     ·have g2:(60:Int)<x.2.2.length:=by omega
      have:=A2 i x hxo (by omega) (by simp;omega)
      generalize ((l.take (i+1)).all fun x=>decide (x.1.2.length<=60)&&decide (x.2.2.length<=60))=z at *
      simp[hi1,hi2,hx,hxo,g1,g2,this]
    ·have g1:(60:Int)<x.1.2.length:=by omega
     have:=A2 i x hxo (by omega) (by simp;omega)
     generalize ((l.take (i+1)).all fun x=>decide (x.1.2.length<=60)&&decide (x.2.2.length<=60))=z at *
     simp[hi1,hi2,hx,hxo,g1,this]
   ·rintro-hI2
    have ha2:=B2 hI2
    subst ha2
    have hcase2:min l.length 24=l.length∨(min l.length 24=24∧(24:Int)<l.length∧24<l.length):=by omega
    rcases hcase2 with f | ⟨f,f2,f3⟩
    all_goals
     rw[f]
     first | simp[e2,e3,f2,f3] | simp[e2,e3] | simp[f2,f3] | simp
     repeat' apply And.intro
     all_goals
      first
      | omega
      | (rw[Bool.eq_iff_iff]
         simp only[Bool.and_eq_true,Bool.or_eq_true,decide_eq_true_eq]
         omega)
end Go.Proofs.YtpadinblmjlggaaGreatDoor
