/- Texts joined by a program: Kd,Kk,Kx,Kp,Km. -/
import Derived.Test.YtpadinblmjlggaaGreatDoorW13
import Derived.Test.YtpadinblmjlggaaGreatDoorW11
import Derived.Test.YtpadinblmjlggaaGreatDoorW14
import Derived.Test.YtpadinblmjlggaaGreatDoorW12
set_option linter.unusedSimpArgs false
set_option linter.unusedVariables false
set_option maxHeartbeats 8000000
set_option maxRecDepth 100000
namespace Go.Proofs.YtpadinblmjlggaaGreatDoor
theorem IndexByte_fn (s:List UInt8) (n:Int):CallFn Tryz.prog 141 [.dat (.str s),.dat (.int .u8 n)] (aI (Go.Lib.indexByte s n.toNat.toUInt8)):=by
 refine⟨⟨_,Tryz.func141,by kernel_rfl,by kernel_rfl⟩,fun x args H0 hi hd=>?_⟩
 obtain⟨u,v,e,hu,hv⟩:=Ds.two hd
 simp only[D,RdL]at hu hv
 subst hu hv
 have ha:args=#[.string ⟨s.toArray⟩,.int .u8 n]:=by
  rcases args with⟨l⟩
  simp only at e
  rw[e]
 subst ha
 refine (Any.strings_IndexByte ibLays ⟨s.toArray⟩ n x.w).mono ?_
 rintro _ _ ⟨rfl,rfl⟩
 refine⟨x,_,_,[],rfl,rfl,.refl x,by simpa using hi,?_,rfl,rfl⟩
 simp only[D,RdL]
def signsT:List UInt8:=[43,45,42,47,40,41,91,93,123,125,60,62,61,44,59,58,124,38,33,35,46]
def clsG (n:Nat):Int:=if 65<=n∧n<=90 then 1 else if 97<=n∧n<=122 then 1 else if 48<=n∧n<=57 then 2 else if n=95 then 3 else if n=32 then 5 else if n=10 then 5 else if 0<=Go.Lib.indexByte signsT n.toUInt8 then 4 else 0
theorem clsG_one (n:Nat):clsG n=1↔letC n=true:=by
 unfold clsG letC
 simp only[Bool.or_eq_true,decide_eq_true_eq]
 (repeat' split)<;>omega
theorem clsG_inn (n:Nat):(clsG n=1∨clsG n=2∨clsG n=3)↔innC n=true:=by
 unfold clsG innC letC digQ
 simp only[Bool.or_eq_true,decide_eq_true_eq]
 (repeat' split)<;>omega
theorem rngG_tab:tabF 0=some [.int .u8 65,.int .u8 90,.int .u8 1,.int .u8 97,.int .u8 122,.int .u8 1,.int .u8 48,.int .u8 57,.int .u8 2,.int .u8 95,.int .u8 95,.int .u8 3,.int .u8 32,.int .u8 32,.int .u8 5,.int .u8 10,.int .u8 10,.int .u8 5]:=rfl
theorem classG_fn (n:Nat) (hn:n<256):CallFn Tryz.prog 242 [.dat (.int .u8 n)] (aI (clsG n)):=by
 have hib:=IndexByte_fn signsT n
 rw[Int.toNat_natCast]at hib
 refine callFz_of Tryz.func242 rfl Tryz.ntmps242 (rs:=[.tmp 2]) rfl (by kernel_rfl) (by simp) (by kernel_rfl) ?_
 simp
 refine V.forI (σ:=Unit) 6 [0] (by simp;exact rfl) (fun i _=>[(2,aI 0),(5,aI i)]) (fun _ _=>[]) (fun i _=>(1<=i->¬(65<=n∧n<=90))∧(2<=i->¬(97<=n∧n<=122))∧(3<=i->¬(48<=n∧n<=57))∧(4<=i->n≠95)∧(5<=i->n≠32)∧(6<=i->n≠10)) () (by simp) (by simp) ⟨by simp;exact rfl,by simp⟩ ?_ ?_
 ·rintro i-hi ⟨h1,h2,h3,h4,h5,h6⟩
  have:i=0∨i=1∨i=2∨i=3∨i=4∨i=5:=by omega
  rcases this with rfl | rfl | rfl | rfl | rfl | rfl
  all_goals
   simp[rngG_tab]
   unfold clsG
   simp only[Nat.zero_le,Nat.le_refl,forall_const,Nat.reduceLeDiff]at h1 h2 h3 h4 h5 h6
   refine⟨fun a b=>?_,fun a=>?_⟩
   ·(repeat' split)<;>omega
   ·omega
 ·rintro-⟨h1,h2,h3,h4,h5,h6⟩
  simp
  refine hib.s ?_
  unfold clsG
  rw[if_neg (h1 (by omega)),if_neg (h2 (by omega)),if_neg (h3 (by omega)),if_neg (h4 (by omega)),if_neg (h5 (by omega)),if_neg (h6 (by omega))]
  by_cases h:0<=Go.Lib.indexByte signsT n.toUInt8
  ·simp[h]
  ·simp[h]
def runN (s:List UInt8):Nat:=s.findIdx fun b=>!innC b.toNat
abbrev clsK3:List (List L):=[[.int .i64 1],[.int .i64 2],[.int .i64 3]]
theorem runG_fn (s:List UInt8) (hs:s.length<=1000000000):CallFn Tryz.prog 243 [aT s,.dat (.sl clsK3)] (aI (runN s)):=by
 refine callFz_of Tryz.func243 rfl Tryz.ntmps243 (rs:=[.tmp 4]) rfl (by kernel_rfl) (by simp) (by kernel_rfl) ?_
 simp
 refine V.forI (σ:=Unit) s.length [0,1,10] (by simp;exact rfl) (fun i _=>[(4,aI 0),(11,aI i)]) (fun _ _=>[]) (fun i _=>∀j (hj:j<s.length),j<i->innC s[j].toNat=true) () (by simp) (by simp) ⟨by simp;exact rfl,by simp⟩ ?_ ?_
 ·rintro i-hi hI
  obtain⟨b,hb1⟩:∃b,s[i]=b:=⟨_,rfl⟩
  have hbo:s[i]?=some b:=by rw[List.getElem?_eq_getElem hi,hb1]
  have hcf:=classG_fn b.toNat b.toNat_lt
  have hci:=clsG_inn b.toNat
  have hstop:innC b.toNat=false->runN s=i:=fun h=>by
   unfold runN
   rw[List.findIdx_eq hi]
   refine⟨by rw[hb1,h];rfl,fun j hj=>?_⟩
   rw[hI j (by omega) hj]
   rfl
  have hgo:innC b.toNat=true->∀j (hj:j<s.length),j<i+1->innC s[j].toNat=true:=fun h j hj hji=>by
   by_cases e:j=i
   ·subst e
    rw[hb1,h]
   ·exact hI j hj (by omega)
  generalize clsG b.toNat=k at *
  simp[hi]
  refine V.forI (σ:=Unit) 3 [0,1,4,5,10,11,14,15] (by simp;exact rfl) (fun j _=>[(6,aB (decide (1<=k∧k<=j))),(16,aI j)]) (fun _ _=>[]) (fun _ _=>True) () trivial (by simp;omega) ⟨by simp;exact rfl,by simp⟩ ?_ ?_
  ·rintro j-hj -
   have:j=0∨j=1∨j=2:=by omega
   rcases this with rfl | rfl | rfl
   all_goals
    simp[hbo,hb1,hi]
    refine GCall.fn (aI k) (fun h=>⟨h,hcf⟩) ?_
    try simp
    rw[Bool.eq_iff_iff]
    simp only[Bool.or_eq_true,Bool.and_eq_true,decide_eq_true_eq,beq_iff_eq]
    omega
  ·rintro - -
   simp
   by_cases hk:1<=k∧k<=3
   ·have h1:=hci.1 (by omega)
    simp[hk]
    exact⟨by omega,by omega,hgo h1⟩
   ·have h1:innC b.toNat=false:=by
     cases h:innC b.toNat with
     | false=>rfl
     | true=>have:=hci.2 h;omega
    have hk2:¬(1<=k∧k<=3):=hk
    rw[hstop h1]
    simp[hk2]
    try omega
 ·rintro-hI
  have:runN s=s.length:=by
   unfold runN
   rw[List.findIdx_eq_length]
   intro b hb
   obtain⟨j,hj,e⟩:=List.getElem_of_mem hb
   rw[<- e,hI j hj hj]
   rfl
  rw[this]
  simp
theorem runN_all (s:List UInt8):runN s=s.length↔(s.all fun b=>innC b.toNat)=true:=by
 unfold runN
 rw[List.findIdx_eq_length,List.all_eq_true]
 constructor
 ·intro h b hb
  simpa using h b hb
 ·intro h b hb
  simp[h b hb]
theorem WordG_fn (s:List UInt8) (hs:s.length<=1000000000):CallFn Tryz.prog 181 [aT s] (aI (wordE s)):=by
 refine callFz_of Tryz.func181 rfl Tryz.ntmps181 (rs:=[.tmp 2]) rfl (by kernel_rfl) (by simp) (by kernel_rfl) ?_
 have hrf:=runG_fn s hs
 have hra:=runN_all s
 cases s with
 | nil=>
  unfold wordE
  simp
  refine GCall.fn .undef (fun h=>absurd h (by simp)) ?_
  simp
  refine GCall.fn .undef (fun h=>absurd h (by simp)) ?_
  simp
 | cons b r=>
  have hcf:=classG_fn b.toNat b.toNat_lt
  have hc1:=clsG_one b.toNat
  have hw:wordE (b::r)=if letC b.toNat=false then 3 else if ((b::r).all fun b=>innC b.toNat)=false then 3 else if 24<r.length+1 then 17 else 0:=by
   simp[wordE]
  rw[hw]
  simp only[List.length_cons]at hs hra hrf
  generalize runN (b::r)=n at *
  generalize ((b::r).all fun b=>innC b.toNat)=a at *
  generalize letC b.toNat=d at *
  generalize clsG b.toNat=k at *
  simp
  refine GCall.fn (aI k) (fun _=>⟨trivial,hcf⟩) ?_
  simp
  by_cases hk:k=1
  ·have hd:d=true:=hc1.1 hk
   subst hd
   simp[hk]
   refine GCall.fn (aI n) (fun _=>⟨trivial,hrf⟩) ?_
   simp
   by_cases hn:n=r.length+1
   ·have ha:=hra.1 hn
    subst ha
    by_cases h24:24<r.length+1
    ·simp[hn,h24]
     omega
    ·simp[hn,h24]
     omega
   ·have ha:a=false:=by
     cases a with
     | false=>rfl
     | true=>exact absurd (hra.2 rfl) hn
    subst ha
    have hn2:¬((n:Int)=(r.length:Int)+1):=by omega
    simp[hn2]
    try omega
  ·have hd:d=false:=by
    cases d with
    | false=>rfl
    | true=>exact absurd (hc1.2 rfl) hk
   subst hd
   simp[hk]
   refine GCall.fn .undef (fun h=>absurd h (by simp)) ?_
   simp
   exact⟨hk,fun h=>absurd h hk⟩
theorem find_bad (k:Int) (h:¬(0<=k∧k<14)):∃R:List A,R.length=12∧R.all cellB=true∧CallFn Tryz.prog 148 [aI k] (.tuple [.agg R,aI 1]):=by
 refine⟨[.dat (.str []),.dat (.str []),.dat (.sl []),.dat (.sl []),.dat (.sl []),.dat (.sl []),.dat (.sl []),.dat (.str []),.dat (.str []),aI 0,.nilf,.nilf],rfl,rfl,?_⟩
 refine callFz_of Tryz.func148 rfl Tryz.ntmps148 (rs:=[.cell 2 226,.tmp 3]) rfl (by kernel_rfl) (by simp) (by kernel_rfl) ?_
 simp
 intro b2
 exact fun h1 h2=>absurd ⟨h1,h2⟩ h
theorem partG_fn (p:Prt) (hs:p.name.length<=1000000000):CallFn Tryz.prog 121 [.record (encPa p)] (aI (partE p)):=by
 obtain⟨k,n,d⟩:=p
 have hw:=WordG_fn n hs
 have hf:∃(R:List A) (z:Int),R.length=12∧R.all cellB=true∧CallFn Tryz.prog 148 [aI k] (.tuple [.agg R,aI z])∧z=if 0<=k∧k<14 then 0 else 1:=by
  by_cases hk:0<=k∧k<14
  ·obtain⟨n,rfl⟩:∃n:Nat,k=n:=⟨k.toNat,by omega⟩
   have h1:n<14:=by omega
   exact⟨rowOf n,0,row_len n h1,row_cell n h1,find_fn n h1,by rw[if_pos hk]⟩
  ·obtain⟨R,a,b,c⟩:=find_bad k hk
   exact⟨R,1,a,b,c,by rw[if_neg hk]⟩
 obtain⟨R,z,hl,hcell,hf,hz⟩:=hf
 refine callFz_cut 2 Tryz.func121 rfl Tryz.ntmps121 (rs:=[.tmp 2]) rfl (by kernel_rfl) (by simp) (by kernel_rfl) ?_
 unfold partE
 by_cases hk:0<=k∧k<14
 ·rw[if_pos hk]at hz
  subst hz
  simp
  refine hf.s ?_
  simp
  intro b3
  refine⟨⟨hl,by omega,fun x hx=>?_⟩,?_⟩
  ·have hx2:=List.all_eq_true.1 hcell x hx
   cases x<;>exact hx2
  ·refine V.cutV [(1,.rptr [.int .i64 k,.str n,.int .i64 d]),(2,aI 0)] (Hs:=[]) (by simp) (by simp) (V.of_vc ?_)
   simp[hk]
   refine hw.s ?_
   by_cases hwz:wordE n=0
   ·simp[hwz]
    by_cases h12:k=12
    ·subst h12
     by_cases ha:d<1
     ·simp[ha]
      omega
     ·by_cases hb:1000000<d
      ·simp[ha,hb]
      ·simp[ha,hb]
    ·by_cases ha:d=0
     ·simp[h12,ha]
      omega
     ·simp[h12,ha]
      omega
   ·simp[hwz]
    intro h
    have:=h hk.1
    omega
 ·rw[if_neg hk]at hz
  subst hz
  simp[hk]
  refine hf.s ?_
  simp
  refine⟨⟨hl,by omega,fun x hx=>?_⟩,fun h1 h2=>absurd ⟨h1,h2⟩ hk⟩
  have hx2:=List.all_eq_true.1 hcell x hx
  cases x<;>exact hx2
def cmpZ (a b:PortZ):Int:=if cmpI a.1 b.1≠0 then cmpI a.1 b.1 else Go.Lib.compareBytes a.2 b.2
def cmpZZ (a b:PipeZ):Int:=if cmpZ a.1 b.1≠0 then cmpZ a.1 b.1 else cmpZ a.2 b.2
theorem compareZ_fn (a b:PortZ):CallFn Tryz.prog 125 [.record (encPo a),.record (encPo b)] (aI (cmpZ a b)):=by
 obtain⟨a1,a2⟩:=a
 obtain⟨b1,b2⟩:=b
 have h1:=cmpI_fn a1 b1
 have h2:=Compare_fnT a2 b2
 have h3:=cmpOr_fn (cmpI a1 b1) (Go.Lib.compareBytes a2 b2)
 refine callFz_of Tryz.func125 rfl Tryz.ntmps125 (rs:=[.tmp 4]) rfl (by kernel_rfl) (by simp) (by kernel_rfl) ?_
 simp
 refine V.drawX (fun t=>if t=9 then some (.fn (aI (cmpI a1 b1))) else if t=14 then some (.fn (aI (Go.Lib.compareBytes a2 b2))) else if t=16 then some (.fn (aI (cmpZ (a1,a2) (b1,b2)))) else none) (by kernel_rfl) (by kernel_rfl) (by simp) ?_
 simp
 exact⟨h1,h2,h3⟩
theorem pipesZ_fn (a b:PipeZ):CallFn Tryz.prog 126 [.record (encPi a),.record (encPi b)] (aI (cmpZZ a b)):=by
 obtain⟨⟨a1,a2⟩,a3,a4⟩:=a
 obtain⟨⟨b1,b2⟩,b3,b4⟩:=b
 have h1:=compareZ_fn (a1,a2) (b1,b2)
 have h2:=compareZ_fn (a3,a4) (b3,b4)
 have h3:=cmpOr_fn (cmpZ (a1,a2) (b1,b2)) (cmpZ (a3,a4) (b3,b4))
 refine callFz_of Tryz.func126 rfl Tryz.ntmps126 (rs:=[.tmp 4]) rfl (by kernel_rfl) (by simp) (by kernel_rfl) ?_
 simp
 refine V.drawX (fun t=>if t=9 then some (.fn (aI (cmpZ (a1,a2) (b1,b2)))) else if t=14 then some (.fn (aI (cmpZ (a3,a4) (b3,b4)))) else if t=16 then some (.fn (aI (cmpZZ ((a1,a2),a3,a4) ((b1,b2),b3,b4)))) else none) (by kernel_rfl) (by kernel_rfl) (by simp) ?_
 simp
 exact⟨h1,h2,h3⟩
theorem cmpIZ_lt (a b:Int):cmpI a b<0↔a<b:=by
 unfold cmpI
 split
 ·omega
 ·split<;>omega
theorem cmpZ_lt (a b:PortZ):cmpZ a b<0↔beforeZ a b=true:=by
 unfold cmpZ beforeZ lexB
 by_cases h:a.1=b.1
 ·rw[if_pos h,if_neg (by rw[h];simp[cmpI]),cmpT_lt]
 ·have h0:cmpI a.1 b.1≠0:=by unfold cmpI;split<;>(try split)<;>omega
  rw[if_neg h,if_pos h0,cmpIZ_lt]
  simp
theorem cmpZ_zero (a b:PortZ):cmpZ a b=0↔a=b:=by
 unfold cmpZ
 by_cases h:a.1=b.1
 ·rw[if_neg (by rw[h];simp[cmpI]),cmpT_zero]
  exact⟨fun h2=>Prod.ext h h2,fun h2=>by rw[h2]⟩
 ·have h0:cmpI a.1 b.1≠0:=by unfold cmpI;split<;>(try split)<;>omega
  rw[if_pos h0]
  exact⟨fun h2=>absurd h2 h0,fun h2=>absurd (by rw[h2]) h⟩
theorem cmpZZ_lt (a b:PipeZ):cmpZZ a b<0↔earlierZ a b=true:=by
 unfold cmpZZ earlierZ lexB
 by_cases h:a.1=b.1
 ·rw[if_pos h,if_neg (by rw[h];simp[cmpZ_zero]),cmpZ_lt]
 ·rw[if_neg h,if_pos (by rw[ne_eq,cmpZ_zero];exact h),cmpZ_lt]
theorem cmpZ_gt (a b:PortZ):0<cmpZ a b↔beforeZ b a=true:=by
 unfold cmpZ beforeZ lexB
 by_cases h:a.1=b.1
 ·rw[if_pos h.symm,if_neg (by rw[h];simp[cmpI]),cmpT_eq]
  cases h1:ltB a.2 b.2 with
  | true=>rw[if_pos rfl,ltB_asymm h1];simp
  | false=>cases h2:ltB b.2 a.2<;>simp
 ·have h0:cmpI a.1 b.1≠0:=by unfold cmpI;split<;>(try split)<;>omega
  rw[if_pos h0,if_neg (fun e:b.1=a.1=>h e.symm)]
  simp only[decide_eq_true_eq]
  unfold cmpI
  split<;>(try split)<;>omega
theorem findZ1_fn (p:Prt) (t:List UInt8):CallFn Tryz.prog 246 [.record (encPa p),.rptr [.str t]] (aB (p.name==t)):=by
 refine callFz_of Tryz.func246 rfl Tryz.ntmps246 (rs:=[.tmp 3]) rfl (by kernel_rfl) (by simp) (by kernel_rfl) ?_
 simp
theorem idxPZ_fn (ps:List Prt) (t:List UInt8) (hx:Sh ps) :
  CallFn Tryz.prog 245 [.dat (.sl (ps.map encPa)),.fn 246 [] [.rptr [.str t]]] (aI (idxI (findN ps t))):=by
 unfold findN
 refine callFz_of Tryz.func245 rfl Tryz.ntmps245 (rs:=[.tmp 4]) rfl (by kernel_rfl) (by simp) (by kernel_rfl) ?_
 simp
 refine V.forI (σ:=Unit) ps.length [0,1,7] (by simp;exact rfl) (fun i _=>[(8,aI i)]) (fun _ _=>[]) (fun i _=>NoF (fun p:Prt=>p.name==t) (ps.take i)) () (by simp) (by simp) ⟨by simp;exact rfl,by simp⟩ ?_ ?_
 ·rintro i-hi hI
  obtain⟨y,hy⟩:∃y,ps[i]=y:=⟨_,rfl⟩
  have h1:ps[i]?=some y:=by rw[List.getElem?_eq_getElem hi,hy]
  have hs:=findIdx_step (p:=fun p:Prt=>p.name==t) hI h1
  have hc:=findZ1_fn y t
  simp[hi,hy]
  refine hc.s ?_
  cases e:(y.name==t)
  ·simp
   exact⟨by omega,hs.1 e⟩
  ·rw[hs.2 e]
   simp
 ·rintro-hI
  rw[findIdx_none hI]
  simp
theorem findZ_fn (c:Cir) (t:List UInt8) (hx:Sh c.parts):CallFn Tryz.prog 183 [aCi c,aT t] (aI (idxI (findN c.parts t))):=by
 have h:=idxPZ_fn c.parts t hx
 refine callFz_of Tryz.func183 rfl Tryz.ntmps183 (rs:=[.tmp 4]) rfl (by kernel_rfl) (by simp) (by kernel_rfl) ?_
 simp
 refine h.s ?_
 simp
def ownI (ps:List Prt) (t:List UInt8):Int:=if ownN ps t=true then idxI (findN ps t.dropLast) else -1
theorem findN_ex {ps:List Prt}{t:List UInt8}{j:Nat}(h:findN ps t=some j):∃q,ps[j]?=some q∧q.name=t:=by
 unfold findN at h
 obtain⟨hj,h1,_⟩:=List.findIdx?_eq_some_iff_getElem.1 h
 exact⟨ps[j],List.getElem?_eq_getElem hj,by simpa using h1⟩
theorem ownI_lt (ps:List Prt) (t:List UInt8):ownI ps t<0↔ownN ps t=false:=by
 unfold ownI
 by_cases h:ownN ps t=true
 ·rw[if_pos h,h]
  unfold ownN at h
  simp only[Bool.and_eq_true]at h
  cases hf:findN ps t.dropLast with
  | none=>rw[hf]at h;simp at h
  | some j=>simp[idxI]
 ·rw[if_neg h]
  simp only[Bool.not_eq_true]at h
  simp[h]
theorem ownerZ_fn (c:Cir) (p:Prt) (hx:Sh c.parts) (hq:p.name.length<=1000) (hn:p.name≠[]):CallFn Tryz.prog 122 [aCi c,.record (encPa p)] (aI (ownI c.parts p.name)):=by
 obtain⟨pk,pn,pd⟩:=p
 simp only at hq hn ⊢
 obtain⟨q,x,rfl⟩:∃q x,pn=q++[x]:=by
  rcases List.eq_nil_or_concat pn with e | ⟨q,x,e⟩
  ·exact absurd e hn
  ·exact⟨q,x,by rw[e,List.concat_eq_append]⟩
 simp at hq
 have hfi:=findZ_fn c q hx
 have c0:=cutSuf_fn q x 48 (by omega)
 have c1:=cutSuf_fn q x 49 (by omega)
 have ho:ownN c.parts (q++[x])=((x==48||x==49)&&match findN c.parts q with
  | some j=>(c.parts[j]?).any fun q=>q.kind==1
  | none=>false):=by
  simp[ownN]
  rfl
 have hex:=@findN_ex c.parts q
 unfold ownI
 rw[ho,show (q++[x]).dropLast=q by simp]
 obtain⟨ps,l⟩:=c
 simp only at hx hfi hex ⊢
 refine callFz_of Tryz.func122 rfl Tryz.ntmps122 (rs:=[.tmp 4]) rfl (by kernel_rfl) (by simp) (by kernel_rfl) ?_
 simp
 refine c0.s ?_
 by_cases h0:x=48
 ·subst h0
  simp
  refine hfi.s ?_
  cases hf:findN ps q with
  | none=>cases hps:ps[0]?<;>simp[idxI,hps]
  | some j=>
   obtain⟨y,hy,_⟩:=hex hf
   obtain⟨hj,hy1⟩:=List.getElem?_eq_some_iff.1 hy
   by_cases hk:y.kind=1
   ·simp[idxI,hy,hy1,hj,hk]
   ·simp[idxI,hy,hy1,hj,hk]
 ·by_cases h1:x=49
  ·subst h1
   simp
   refine c1.s ?_
   simp
   refine hfi.s ?_
   cases hf:findN ps q with
   | none=>cases hps:ps[0]?<;>simp[idxI,hps]
   | some j=>
    obtain⟨y,hy,_⟩:=hex hf
    obtain⟨hj,hy1⟩:=List.getElem?_eq_some_iff.1 hy
    by_cases hk:y.kind=1
    ·simp[idxI,hy,hy1,hj,hk]
    ·simp[idxI,hy,hy1,hj,hk]
  ·simp[h0]
   refine c1.s ?_
   simp[h0,h1]
theorem indexedZ_fn (c:Cir) (a b:PortZ) (hx:Sh c.parts):CallFn Tryz.prog 123 [aCi c,.dat (.sl [encPo a,encPo b])] (aI (if inPort c.parts a=true∧inPort c.parts b=true then 0 else 2)):=by
 obtain⟨ps,l⟩:=c
 simp only at hx ⊢
 unfold inPort
 simp only[decide_eq_true_eq]
 refine callFz_of Tryz.func123 rfl Tryz.ntmps123 (rs:=[.tmp 4]) rfl (by kernel_rfl) (by simp) (by kernel_rfl) ?_
 simp
 refine V.forI (σ:=Unit) 2 [2,7,8] (by simp;exact rfl) (fun i _=>[(4,aI 0),(9,aI i)]) (fun _ _=>[]) (fun i _=>(1<=i->0<=a.1∧a.1<ps.length)∧(2<=i->0<=b.1∧b.1<ps.length)) () (by simp) (by simp) ⟨by simp;exact rfl,by simp⟩ ?_ ?_
 ·rintro i-hi ⟨hI1,hI2⟩
  have hc:i=0∨i=1:=by omega
  rcases hc with rfl | rfl
  ·simp
   intros
   omega
  ·simp
   exact⟨fun h=>by omega,fun h1 h2=>⟨hI1 (by omega),h1,h2⟩⟩
 ·rintro-⟨hI1,hI2⟩
  have:=hI1 (by omega)
  have:=hI2 (by omega)
  simp[*]
theorem portsK_le:∀k,k<14->(portsK k).Pairwise fun a b=>decide (a<=b)=true:=by decide
theorem portsK_perm:∀k,k<14->(rowTs k).flatten.Perm (portsK k):=by decide
theorem ports_eq (k:Nat) (hk:k<14):sortT (portT k)=portsK k:=by
 have h1:(sortT (portT k)).Pairwise fun a b=>decide (a<=b)=true:=by
  unfold sortT
  refine List.pairwise_mergeSort ?_ ?_ _
  ·intro a b c h1 h2
   simp only[decide_eq_true_eq]at *
   exact List.le_trans h1 h2
  ·intro a b
   simp only[Bool.or_eq_true,decide_eq_true_eq]
   exact List.le_total a b
 have h2:(sortT (portT k)).Perm (portsK k):=(List.mergeSort_perm _ _).trans ((List.mergeSort_perm _ _).trans (portsK_perm k hk))
 refine sorted_same (fun a b _ _ h3 h4=>?_) h1 (portsK_le k hk) h2
 simp only[decide_eq_true_eq]at h3 h4
 exact List.le_antisymm h3 h4
theorem portsZ_fn (p:Prt) (hk:0<=p.kind∧p.kind<14):CallFn Tryz.prog 185 [.record (encPa p)] (aTs (portsK p.kind.toNat)):=by
 obtain⟨k,n,d⟩:=p
 simp only at hk ⊢
 obtain⟨m,rfl⟩:∃m:Nat,k=m:=⟨k.toNat,by omega⟩
 have h:=ports_fn m (by omega) n d
 rw[ports_eq m (by omega)]at h
 exact h
theorem containsP_fn (k:Nat) (t:List UInt8):CallFn Tryz.prog 184 [aTs (portsK k),aT t] (aB (hasK k t)):=by
 have hl:=portsK_len k
 have h:=containsT_fn (portsK k) t (by unfold Sh;omega)
 have:(portsK k).any (t==·)=hasK k t:=by
  rw[Bool.eq_iff_iff,hasK_mem,List.any_eq_true]
  constructor
  ·rintro⟨x,hx,e⟩
   rw[beq_iff_eq.1 e]
   exact hx
  ·intro h
   exact⟨t,h,by simp⟩
 rwa [this]at h
theorem existsZ_fn (c:Cir) (a b:PortZ) (hx:Sh c.parts) (hk:∀p∈c.parts,0<=p.kind∧p.kind<14) (ha:inPort c.parts a=true) (hb:inPort c.parts b=true) :
  CallFn Tryz.prog 124 [aCi c,.dat (.sl [encPo a,encPo b])] (aI (if hasPort c.parts a=true∧hasPort c.parts b=true then 0 else 6)):=by
 obtain⟨ps,l⟩:=c
 simp only at hx hk ha hb ⊢
 obtain⟨a1,a2⟩:=a
 obtain⟨b1,b2⟩:=b
 unfold inPort at ha hb
 simp only[decide_eq_true_eq]at ha hb
 obtain⟨i,rfl⟩:∃i:Nat,a1=i:=⟨a1.toNat,by omega⟩
 obtain⟨j,rfl⟩:∃j:Nat,b1=j:=⟨b1.toNat,by omega⟩
 have hi:i<ps.length:=by omega
 have hj:j<ps.length:=by omega
 obtain⟨p,hp⟩:∃p,ps[i]=p:=⟨_,rfl⟩
 have hpo:ps[i]?=some p:=by rw[List.getElem?_eq_getElem hi,hp]
 obtain⟨q,hq⟩:∃q,ps[j]=q:=⟨_,rfl⟩
 have hqo:ps[j]?=some q:=by rw[List.getElem?_eq_getElem hj,hq]
 have f1:=portsZ_fn p (hk p (List.mem_of_getElem? hpo))
 have f2:=portsZ_fn q (hk q (List.mem_of_getElem? hqo))
 have g1:=containsP_fn p.kind.toNat a2
 have g2:=containsP_fn q.kind.toNat b2
 have h1:hasPort ps ((i:Int),a2)=hasK p.kind.toNat a2:=by simp[hasPort,hpo]
 have h2:hasPort ps ((j:Int),b2)=hasK q.kind.toNat b2:=by simp[hasPort,hqo]
 rw[h1,h2]
 generalize hasK p.kind.toNat a2=z1 at *
 generalize hasK q.kind.toNat b2=z2 at *
 generalize portsK p.kind.toNat=F1 at *
 generalize portsK q.kind.toNat=F2 at *
 refine callFz_of Tryz.func124 rfl Tryz.ntmps124 (rs:=[.tmp 4]) rfl (by kernel_rfl) (by simp) (by kernel_rfl) ?_
 simp
 refine V.forI (σ:=Unit) 2 [2,7,8] (by simp;exact rfl) (fun i _=>[(4,aI 0),(9,aI i)]) (fun _ _=>[]) (fun i _=>(1<=i->z1=true)∧(2<=i->z2=true)) () (by simp) (by simp) ⟨by simp;exact rfl,by simp⟩ ?_ ?_
 ·rintro n-hn ⟨hI1,hI2⟩
  have hc:n=0∨n=1:=by omega
  rcases hc with rfl | rfl
  ·simp
   intro b6
   refine V.drawX (fun t=>if t=19 then some (.fn (aTs F1)) else if t=22 then some (.fn (aB z1)) else none) (by kernel_rfl) (by kernel_rfl) (by simp) ?_
   simp[hi,hp,hpo]
   exact⟨f1,g1,fun h=>by simp[h]⟩
  ·simp
   intro b6
   refine V.drawX (fun t=>if t=19 then some (.fn (aTs F2)) else if t=22 then some (.fn (aB z2)) else none) (by kernel_rfl) (by kernel_rfl) (by simp) ?_
   simp[hj,hq,hqo]
   exact⟨f2,g2,fun h=>by simp[h],fun h=>⟨hI1 (by omega),h⟩⟩
 ·rintro-⟨hI1,hI2⟩
  have:=hI1 (by omega)
  have:=hI2 (by omega)
  simp[*]
abbrev encPs' (p:PassP):List L:=[.str p.to,.sl (p.src.map encT),.bool p.all]
theorem pass_fn (a b:List UInt8):CallFn Tryz.prog 299 [aT a,aT b] (.dat (.sl ([(⟨a,[b],false⟩:PassP)].map encPs'))):=by
 refine callFz_of Tryz.func299 rfl Tryz.ntmps299 (rs:=[.tmp 4]) rfl (by kernel_rfl) (by simp) (by kernel_rfl) ?_
 simp
theorem nothing_fn (n:Nat):CallFn Tryz.prog 266 [aI n] (.dat (.sl (([]:List PassP).map encPs'))):=by
 refine callFz_of Tryz.func266 rfl Tryz.ntmps266 (rs:=[.tmp 2]) rfl (by kernel_rfl) (by simp) (by kernel_rfl) ?_
 simp
theorem through_fn (n:Nat):CallFn Tryz.prog 273 [aI n] (.dat (.sl ([(⟨[50],[[49]],false⟩:PassP)].map encPs'))):=by
 have h:=pass_fn [50] [49]
 refine callFz_of Tryz.func273 rfl Tryz.ntmps273 (rs:=[.tmp 2]) rfl (by kernel_rfl) (by simp) (by kernel_rfl) ?_
 simp
 refine h.s ?_
 simp
theorem change_fn (n:Nat) (hn:n<2):CallFn Tryz.prog 268 [aI n] (.dat (.sl ([(⟨if n=1 then [52] else [50],[[49]],false⟩:PassP)].map encPs'))):=by
 have h0:=pass_fn [50] [49]
 have h1:=pass_fn [52] [49]
 have:n=0∨n=1:=by omega
 refine callFz_of Tryz.func268 rfl Tryz.ntmps268 (rs:=[.tmp 2]) rfl (by kernel_rfl) (by simp) (by kernel_rfl) ?_
 rcases this with rfl | rfl
 ·simp
  refine h0.s ?_
  simp
 ·simp
  refine h1.s ?_
  simp
theorem gate1_fn (n:Nat) (o:Nat):CallFn Tryz.prog 300 [aI n,.rptr [.int .i64 o]] (.dat (.sl ((if n=o then [(⟨[50],[[49]],false⟩:PassP)] else []).map encPs'))):=by
 have h:=pass_fn [50] [49]
 refine callFz_of Tryz.func300 rfl Tryz.ntmps300 (rs:=[.tmp 3]) rfl (by kernel_rfl) (by simp) (by kernel_rfl) ?_
 by_cases e:n=o
 ·subst e
  simp
  refine h.s ?_
  simp
 ·have e2:¬(n:Int)=o:=by omega
  simp[e,e2]
theorem merge1_fn (n:Nat) (b:Bool):CallFn Tryz.prog 302 [aI n,.rptr [.bool b]] (.dat (.sl ([(⟨[50],[[49],[49,49]],b⟩:PassP)].map encPs'))):=by
 refine callFz_of Tryz.func302 rfl Tryz.ntmps302 (rs:=[.tmp 3]) rfl (by kernel_rfl) (by simp) (by kernel_rfl) ?_
 simp
theorem row_pass:∀k,k<14->∃f caps,(rowOf k)[10]?=some (.fn f [] caps)∧∀n:Nat,n<2->CallFn Tryz.prog f (aI n::caps) (.dat (.sl ((passK k n).map encPs'))):=by
 refine cat_cases ⟨?_,?_,?_,?_,?_,?_,?_,?_,?_,?_,?_,?_,?_,?_⟩
 ·exact⟨_,_,rfl,fun n hn=>nothing_fn n⟩
 ·exact⟨_,_,rfl,fun n hn=>nothing_fn n⟩
 ·exact⟨_,_,rfl,fun n hn=>change_fn n hn⟩
 ·exact⟨_,_,rfl,fun n hn=>change_fn n hn⟩
 ·exact⟨_,_,rfl,fun n hn=>gate1_fn n 1⟩
 ·refine⟨_,_,rfl,fun n hn=>?_⟩
  have:=gate1_fn n 0
  have e:(if n=0 then [(⟨[50],[[49]],false⟩:PassP)] else [])=passK 5 n:=by
   have:n=0∨n=1:=by omega
   rcases this with rfl | rfl<;>rfl
  rwa [e]at this
 ·exact⟨_,_,rfl,fun n hn=>gate1_fn n 1⟩
 ·exact⟨_,_,rfl,fun n hn=>gate1_fn n 1⟩
 ·exact⟨_,_,rfl,fun n hn=>merge1_fn n false⟩
 ·exact⟨_,_,rfl,fun n hn=>merge1_fn n true⟩
 ·exact⟨_,_,rfl,fun n hn=>through_fn n⟩
 ·exact⟨_,_,rfl,fun n hn=>through_fn n⟩
 ·exact⟨_,_,rfl,fun n hn=>gate1_fn n 1⟩
 ·exact⟨_,_,rfl,fun n hn=>gate1_fn n 1⟩
theorem row_dat:∀k,k<14->(rowOf k)[7]?=some (.dat (.str (plusK k)))∧(rowOf k)[8]?=some (.dat (.str (minusK k)))∧(rowOf k)[9]?=some (aI (manyK k)):=by
 refine cat_cases ⟨?_,?_,?_,?_,?_,?_,?_,?_,?_,?_,?_,?_,?_,?_⟩
 all_goals exact⟨rfl,rfl,rfl⟩
theorem cells_ok {R:List A}(hl:R.length=12) (hc:R.all cellB=true):R.length=12∧R.length<=12∧∀x∈R,(match x with
  | A.any=>false
  | A.undef=>false
  | A.record _=>false
  | A.agg _=>false
  | A.tuple _=>false
  | A.cond _ _=>false
  | A.nn _=>false
  | A.clip _=>false
  | _=>true)=true:=by
 refine⟨hl,by omega,fun x hx=>?_⟩
 have hx2:=List.all_eq_true.1 hc x hx
 cases x<;>exact hx2
theorem Positions_k (k:Nat) (hk:k<14):CallFn Tryz.prog 89 [aI k] (.tuple [aI (manyK k),aI 0]):=by
 have hf:=find_fn k hk
 have hl:=row_len k hk
 have hc:=row_cell k hk
 obtain⟨-,-,h9⟩:=row_dat k hk
 obtain⟨h9l,h91⟩:=List.getElem?_eq_some_iff.1 h9
 refine callFz_of Tryz.func89 rfl Tryz.ntmps89 (rs:=[.tmp 2,.tmp 3]) rfl (by kernel_rfl) (by simp) (by kernel_rfl) ?_
 simp
 refine hf.s ?_
 generalize rowOf k=R at *
 simp
 intro b4
 refine⟨cells_ok hl hc,?_⟩
 simp[hl,h9,h91]
theorem Pilots_k (k:Nat) (hk:k<14):CallFn Tryz.prog 130 [aI k] (.tuple [aT (plusK k),aT (minusK k),aI 0]):=by
 have hf:=find_fn k hk
 have hl:=row_len k hk
 have hc:=row_cell k hk
 obtain⟨h7,h8,-⟩:=row_dat k hk
 obtain⟨h7l,h71⟩:=List.getElem?_eq_some_iff.1 h7
 obtain⟨h8l,h81⟩:=List.getElem?_eq_some_iff.1 h8
 refine callFz_of Tryz.func130 rfl Tryz.ntmps130 (rs:=[.tmp 2,.tmp 3,.tmp 4]) rfl (by kernel_rfl) (by simp) (by kernel_rfl) ?_
 simp
 refine hf.s ?_
 generalize rowOf k=R at *
 simp
 intro b4
 refine⟨cells_ok hl hc,?_⟩
 refine V.drawX (fun _=>none) (by kernel_rfl) (by kernel_rfl) (by simp) ?_
 simp[hl,h7,h71,h8,h81]
theorem placed_k (k:Nat) (hk:k<14) (n:Nat) (hn:n<manyK k):CallFn Tryz.prog 192 [aI k,aI n] (.tuple [.agg (rowOf k),aI 0]):=by
 have hf:=find_fn k hk
 have hl:=row_len k hk
 have hc:=row_cell k hk
 obtain⟨-,-,h9⟩:=row_dat k hk
 obtain⟨h9l,h91⟩:=List.getElem?_eq_some_iff.1 h9
 have hz:=row_frz k hk
 have hnil:=row_nil k hk
 have hls:=row_ls k hk
 have hn2:(n:Int)<manyK k:=by omega
 refine callFz_of Tryz.func192 rfl Tryz.ntmps192 (rs:=[.cell 4 226,.tmp 5]) rfl (by kernel_rfl) (by simp) (by kernel_rfl) ?_
 simp
 intro b4
 refine hf.s ?_
 generalize rowOf k=R at *
 generalize manyK k=m at *
 simp
 intro b6
 refine⟨cells_ok hl hc,?_⟩
 have htk:List.take 12 R=R:=List.take_of_length_le (by omega)
 have hce:=(cells_ok hl hc).2.2
 simp[hl,h9,h91,hn2,hn,htk,hls]
 exact⟨hce,hz _⟩
theorem Passes_k (k:Nat) (hk:k<14) (n:Nat) (hn:n<manyK k):CallFn Tryz.prog 175 [aI k,aI n] (.tuple [.dat (.sl ((passK k n).map encPs')),aI 0]):=by
 have hf:=placed_k k hk n hn
 have hl:=row_len k hk
 have hc:=row_cell k hk
 have hm:manyK k<=2:=by revert k;exact fun k hk=>by intros;exact (show ∀k,k<14->manyK k<=2 by decide) k hk
 obtain⟨f,caps,h10,hp⟩:=row_pass k hk
 have hp:=hp n (by omega)
 obtain⟨h10l,h101⟩:=List.getElem?_eq_some_iff.1 h10
 refine callFz_of Tryz.func175 rfl Tryz.ntmps175 (rs:=[.tmp 4,.tmp 5]) rfl (by kernel_rfl) (by simp) (by kernel_rfl) ?_
 simp
 refine hf.s ?_
 generalize rowOf k=R at *
 simp
 intro b6
 refine⟨cells_ok hl hc,?_⟩
 simp[hl,h10,h101]
 refine hp.s ?_
 simp
theorem row_roles:∀k,k<14->∃r0 r1 r2 r3 r4,rolesK k=[r0,r1,r2,r3,r4]∧List.take 5 (List.drop 2 (rowOf k))=[aTs r0,aTs r1,aTs r2,aTs r3,aTs r4]∧r0.length<=2∧r1.length<=2∧r2.length<=2∧r3.length<=2∧r4.length<=2:=
 cat_cases ⟨⟨_,_,_,_,_,rfl,rfl,by decide,by decide,by decide,by decide,by decide⟩,⟨_,_,_,_,_,rfl,rfl,by decide,by decide,by decide,by decide,by decide⟩,⟨_,_,_,_,_,rfl,rfl,by decide,by decide,by decide,by decide,by decide⟩,⟨_,_,_,_,_,rfl,rfl,by decide,by decide,by decide,by decide,by decide⟩,⟨_,_,_,_,_,rfl,rfl,by decide,by decide,by decide,by decide,by decide⟩,⟨_,_,_,_,_,rfl,rfl,by decide,by decide,by decide,by decide,by decide⟩,⟨_,_,_,_,_,rfl,rfl,by decide,by decide,by decide,by decide,by decide⟩,⟨_,_,_,_,_,rfl,rfl,by decide,by decide,by decide,by decide,by decide⟩,⟨_,_,_,_,_,rfl,rfl,by decide,by decide,by decide,by decide,by decide⟩,⟨_,_,_,_,_,rfl,rfl,by decide,by decide,by decide,by decide,by decide⟩,⟨_,_,_,_,_,rfl,rfl,by decide,by decide,by decide,by decide,by decide⟩,⟨_,_,_,_,_,rfl,rfl,by decide,by decide,by decide,by decide,by decide⟩,⟨_,_,_,_,_,rfl,rfl,by decide,by decide,by decide,by decide,by decide⟩,⟨_,_,_,_,_,rfl,rfl,by decide,by decide,by decide,by decide,by decide⟩⟩
theorem Role_k (k:Nat) (hk:k<14) (t:List UInt8):CallFn Tryz.prog 180 [aI k,aT t] (.tuple [aI ((roleK k t).getD 0:Nat),aI (if (roleK k t).isSome=true then 0 else 6)]):=by
 have hf:=find_fn k hk
 have hl:=row_len k hk
 have hc:=row_cell k hk
 obtain⟨r0,r1,r2,r3,r4,h3,h4,m0,m1,m2,m3,m4⟩:=row_roles k hk
 unfold roleK
 rw[h3]
 have c0:=containsT_fn r0 t (by unfold Sh;omega)
 have c1:=containsT_fn r1 t (by unfold Sh;omega)
 have c2:=containsT_fn r2 t (by unfold Sh;omega)
 have c3:=containsT_fn r3 t (by unfold Sh;omega)
 have c4:=containsT_fn r4 t (by unfold Sh;omega)
 refine callFz_cut 2 Tryz.func180 rfl Tryz.ntmps180 (rs:=[.tmp 4,.tmp 5]) rfl (by kernel_rfl) (by simp) (by kernel_rfl) ?_
 simp
 refine hf.s ?_
 generalize rowOf k=R at *
 simp
 intro b6
 refine⟨cells_ok hl hc,?_⟩
 refine V.cutV [(1,aT t),(6,.ptr 6 b6 0),(7,aI 0),(4,aI 0),(5,aI 0)] (Hs:=[(6,.box b6 R)]) (by simp) (by simp[hl,List.take_of_length_le]) (V.of_vc ?_)
 simp[h4]
 refine⟨by omega,?_⟩
 refine V.forI (σ:=Unit) 5 [1,19] (by simp;exact rfl) (fun i _=>[(4,aI 0),(5,aI 0),(20,aI i)]) (fun _ _=>[]) (fun i _=>NoF (fun l:List (List UInt8)=>l.any (t==·)) ([r0,r1,r2,r3,r4].take i)) () (by simp) (by simp) ⟨by simp;exact rfl,by simp⟩ ?_ ?_
 ·rintro i-hi hI
  have:i=0∨i=1∨i=2∨i=3∨i=4:=by omega
  rcases this with rfl | rfl | rfl | rfl | rfl
  ·simp
   refine c0.s ?_
   cases e:r0.any (t==·)
   ·have hs:=(findIdx_step (p:=fun l:List (List UInt8)=>l.any (t==·)) hI (show [r0,r1,r2,r3,r4][0]?=some r0 from rfl)).1 e
    simp
    exact hs
   ·have hs:=(findIdx_step (p:=fun l:List (List UInt8)=>l.any (t==·)) hI (show [r0,r1,r2,r3,r4][0]?=some r0 from rfl)).2 e
    rw[hs]
    simp
  ·simp
   refine c1.s ?_
   cases e:r1.any (t==·)
   ·have hs:=(findIdx_step (p:=fun l:List (List UInt8)=>l.any (t==·)) hI (show [r0,r1,r2,r3,r4][1]?=some r1 from rfl)).1 e
    simp
    exact hs
   ·have hs:=(findIdx_step (p:=fun l:List (List UInt8)=>l.any (t==·)) hI (show [r0,r1,r2,r3,r4][1]?=some r1 from rfl)).2 e
    rw[hs]
    simp
  ·simp
   refine c2.s ?_
   cases e:r2.any (t==·)
   ·have hs:=(findIdx_step (p:=fun l:List (List UInt8)=>l.any (t==·)) hI (show [r0,r1,r2,r3,r4][2]?=some r2 from rfl)).1 e
    simp
    exact hs
   ·have hs:=(findIdx_step (p:=fun l:List (List UInt8)=>l.any (t==·)) hI (show [r0,r1,r2,r3,r4][2]?=some r2 from rfl)).2 e
    rw[hs]
    simp
  ·simp
   refine c3.s ?_
   cases e:r3.any (t==·)
   ·have hs:=(findIdx_step (p:=fun l:List (List UInt8)=>l.any (t==·)) hI (show [r0,r1,r2,r3,r4][3]?=some r3 from rfl)).1 e
    simp
    exact hs
   ·have hs:=(findIdx_step (p:=fun l:List (List UInt8)=>l.any (t==·)) hI (show [r0,r1,r2,r3,r4][3]?=some r3 from rfl)).2 e
    rw[hs]
    simp
  ·simp
   refine c4.s ?_
   cases e:r4.any (t==·)
   ·have hs:=(findIdx_step (p:=fun l:List (List UInt8)=>l.any (t==·)) hI (show [r0,r1,r2,r3,r4][4]?=some r4 from rfl)).1 e
    simp
    exact hs
   ·have hs:=(findIdx_step (p:=fun l:List (List UInt8)=>l.any (t==·)) hI (show [r0,r1,r2,r3,r4][4]?=some r4 from rfl)).2 e
    rw[hs]
    simp
 ·rintro-hI
  rw[findIdx_none hI]
  simp
section
section
variable (f:PortZ->PortZ) (all:List PortZ)
def rootsN (n:Nat):List PortZ:=(all.take n).filter fun p=>f p==p
def famR (n:Nat) (r:PortZ):List PortZ:=(all.take n).filter fun q=>f q==r
def famN (n:Nat):List (List PortZ):=(rootsN f all n).map (famR f all n)
def atN (n:Nat):List (KeyK×List L):=(rootsN f all n).zipIdx.map fun q=>(q.1,[.int .i64 (q.2:Nat)])
theorem famN_all:famN f all all.length=netsF f all:=by
 unfold famN rootsN netsF
 rw[List.take_length]
 apply List.map_congr_left
 intro r _
 unfold famR
 rw[List.take_length]
theorem famN_len (n:Nat):(famN f all n).length=(rootsN f all n).length:=by simp[famN]
theorem kget_zip (q:PortZ):∀(rs:List PortZ) (k:Nat),kget ((rs.zipIdx k).map fun q=>(q.1,([.int .i64 (q.2:Nat)]:List L))) q=(rs.findIdx? (·==q)).map fun j=>[.int .i64 ((k+j:Nat):Int)]
 | [],k=>rfl
 | r::rs,k=>by
  simp only[List.zipIdx_cons,List.map_cons,kget,List.findIdx?_cons]
  by_cases e:r=q
  ·simp[e]
  ·rw[if_neg e,kget_zip q rs (k+1)]
   simp only[e,beq_iff_eq,if_false,Option.map_map]
   cases rs.findIdx? (·==q) with
   | none=>simp[e]
   | some j=>
    simp[e]
    omega
theorem kget_at (n:Nat) (q:PortZ):kget (atN f all n) q=((rootsN f all n).findIdx? (·==q)).map fun j=>[.int .i64 (j:Nat)]:=by
 unfold atN
 rw[kget_zip]
 simp
theorem kput_new {α:Type}(k:KeyK) (v:α):∀ {es:List (KeyK×α)},kget es k=none->kput es k v=es++[(k,v)]
 | [],_=>rfl
 | e::es,h=>by
  simp only[kget]at h
  split at h
  ·cases h
  ·rename_i hne
   simp only[kput]
   rw[if_neg hne,kput_new k v h]
   rfl
variable {f all}
theorem take_snoc {α:Type}{l:List α}{i:Nat}{x:α}(h:l[i]?=some x):l.take (i+1)=l.take i++[x]:=by rw[List.take_add_one,h];rfl
theorem roots_new {n:Nat}{x:PortZ}(hx:all[n]?=some x) (h:f x=x):rootsN f all (n+1)=rootsN f all n++[x]:=by
 unfold rootsN
 rw[take_snoc hx,List.filter_append]
 simp[h]
theorem roots_old {n:Nat}{x:PortZ}(hx:all[n]?=some x) (h:f x≠x):rootsN f all (n+1)=rootsN f all n:=by
 unfold rootsN
 rw[take_snoc hx,List.filter_append]
 simp[h]
theorem famR_snoc {n:Nat}{x r:PortZ}(hx:all[n]?=some x):famR f all (n+1) r=if f x=r then famR f all n r++[x] else famR f all n r:=by
 unfold famR
 rw[take_snoc hx,List.filter_append]
 by_cases e:f x=r<;>simp[e]
theorem at_new {n:Nat}{x:PortZ}(hx:all[n]?=some x) (h:f x=x) (hn:kget (atN f all n) x=none):kput (atN f all n) x [.int .i64 ((rootsN f all n).length:Nat)]=atN f all (n+1):=by
 rw[kput_new _ _ hn]
 unfold atN
 rw[roots_new hx h,List.zipIdx_append]
 simp
theorem at_old {n:Nat}{x:PortZ}(hx:all[n]?=some x) (h:f x≠x):atN f all (n+1)=atN f all n:=by
 unfold atN
 rw[roots_old hx h]
theorem pairwise_nodup {l:List PortZ}(h:l.Pairwise fun a b=>beforeZ a b=true):l.Nodup:=by
 refine h.imp ?_
 rintro a b hab rfl
 rw[beforeZ_tot.irr]at hab
 cases hab
theorem not_before {n:Nat}{x:PortZ}(hs:all.Pairwise fun a b=>beforeZ a b=true) (hx:all[n]?=some x):x∉all.take n:=by
 intro hm
 obtain⟨i,hi,e⟩:=List.getElem_of_mem hm
 rw[List.length_take]at hi
 obtain⟨hn,hx1⟩:=List.getElem?_eq_some_iff.1 hx
 have h1:=List.pairwise_iff_getElem.1 hs i n (by omega) hn (by omega)
 rw[List.getElem_take]at e
 rw[e,hx1,beforeZ_tot.irr]at h1
 cases h1
theorem root_before {n:Nat}{x:PortZ}(hs:all.Pairwise fun a b=>beforeZ a b=true) (hx:all[n]?=some x) (hle:beforeZ x (f x)=false) (hne:f x≠x) (hm:f x∈all):f x∈all.take n:=by
 obtain⟨i,hi,e⟩:=List.getElem_of_mem hm
 obtain⟨hn,hx1⟩:=List.getElem?_eq_some_iff.1 hx
 have hin:i<n:=by
  rcases Nat.lt_trichotomy i n with h | h | h
  ·exact h
  ·subst h
   exact absurd (e.symm.trans hx1) hne
  ·have h1:=List.pairwise_iff_getElem.1 hs n i hn hi h
   rw[hx1,e]at h1
   rw[h1]at hle
   cases hle
 rw[<- e]
 exact List.mem_of_getElem? (i:=i) (by rw[List.getElem?_take,if_pos hin,List.getElem?_eq_getElem hi])
theorem fam_new {n:Nat}{x:PortZ}(hs:all.Pairwise fun a b=>beforeZ a b=true) (hx:all[n]?=some x) (h:f x=x) (hl:∀p,beforeZ p (f p)=false):famN f all (n+1)=famN f all n++[[x]]∧kget (atN f all n) x=none:=by
 have hnb:=not_before hs hx
 have hr:x∉rootsN f all n:=fun hm=>hnb (List.mem_filter.1 hm).1
 constructor
 ·unfold famN
  rw[roots_new hx h,List.map_append]
  congr 1
  ·apply List.map_congr_left
   intro r hrm
   rw[famR_snoc hx,if_neg (fun e=>hr (by rw[<- h,e];exact hrm))]
  ·rw[List.map_cons,List.map_nil,famR_snoc hx,if_pos h]
   have:famR f all n x=[]:=by
    unfold famR
    rw[List.filter_eq_nil_iff]
    intro q hq
    simp only[beq_iff_eq]
    intro e
    have h1:=hl q
    rw[e]at h1
    obtain⟨i,hi,e2⟩:=List.getElem_of_mem hq
    rw[List.length_take]at hi
    obtain⟨hn,hx1⟩:=List.getElem?_eq_some_iff.1 hx
    have h2:=List.pairwise_iff_getElem.1 hs i n (by omega) hn (by omega)
    rw[List.getElem_take]at e2
    rw[e2,hx1]at h2
    rw[h2]at h1
    cases h1
   rw[this]
   rfl
 ·rw[kget_at]
  have:(rootsN f all n).findIdx? (·==x)=none:=by
   rw[List.findIdx?_eq_none_iff]
   intro r hrm
   simp only[beq_eq_false_iff_ne]
   rintro rfl
   exact hr hrm
  rw[this]
  rfl
theorem fam_old {n:Nat}{x:PortZ}(hs:all.Pairwise fun a b=>beforeZ a b=true) (hx:all[n]?=some x) (h:f x≠x) (hl:beforeZ x (f x)=false) (hi:f (f x)=f x) (hm:f x∈all) :
  ∃k l,k<(rootsN f all n).length∧(famN f all n)[k]?=some l∧famN f all (n+1)=(famN f all n).set k (l++[x])∧kget (atN f all n) (f x)=some [.int .i64 (k:Nat)]:=by
 have hb:=root_before hs hx hl h hm
 have hr:f x∈rootsN f all n:=List.mem_filter.2 ⟨hb,by simp[hi]⟩
 obtain⟨k,hk⟩:∃k,(rootsN f all n).findIdx? (·==f x)=some k:=by
  rw[<- Option.isSome_iff_exists,List.findIdx?_isSome,List.any_eq_true]
  exact⟨f x,hr,by simp⟩
 obtain⟨hkl,hk1,hk2⟩:=List.findIdx?_eq_some_iff_getElem.1 hk
 simp only[beq_iff_eq]at hk1
 have hnd:(rootsN f all n).Nodup:=by
  have:(rootsN f all n).Pairwise fun a b=>beforeZ a b=true:=(hs.sublist (List.take_sublist _ _)).sublist List.filter_sublist
  exact pairwise_nodup this
 refine⟨k,famR f all n (f x),hkl,?_,?_,by rw[kget_at,hk];rfl⟩
 ·unfold famN
  rw[List.getElem?_map,List.getElem?_eq_getElem hkl,hk1]
  rfl
 ·unfold famN
  rw[roots_old hx h]
  apply List.ext_getElem?
  intro j
  rw[List.getElem?_map,List.getElem?_set]
  by_cases e:k=j
  ·subst e
   rw[if_pos rfl,List.getElem?_eq_getElem hkl,hk1]
   simp[famR_snoc hx,hkl]
  ·rw[if_neg e,List.getElem?_map]
   cases hj:(rootsN f all n)[j]? with
   | none=>rfl
   | some r=>
    obtain⟨hjl,hj1⟩:=List.getElem?_eq_some_iff.1 hj
    simp only[Option.map_some,Option.some.injEq]
    rw[famR_snoc hx,if_neg]
    intro e2
    refine e ?_
    have h1:=List.pairwise_iff_getElem.1 hnd
    rcases Nat.lt_trichotomy k j with h3 | h3 | h3
    ·exact absurd (by rw[hk1,hj1,e2]) (h1 k j hkl hjl h3)
    ·exact h3
    ·exact absurd (by rw[hk1,hj1,e2]) (h1 j k hjl hkl h3)
end
end
theorem wfI64 {n:Int}(h:I64 n):(Lit.int .i64 n).wf=true:=by
 unfold Lit.wf
 have h1:IntKind.min .i64 = -9223372036854775808:=by decide
 have h2:IntKind.max .i64=9223372036854775807:=by decide
 simp[h1,h2]
 exact h
theorem port_good (k:KeyK) (hk:okK k):goodK Tryz.prog 73 (kvK k):=by
 obtain⟨n,s⟩:=k
 obtain⟨hn,hs⟩:=hk
 simp only at hn hs
 have h0:(match Tryz.prog.underlying 73 with
  | some (.struct fs)=>decide (fs.toList.map (fun f:Field=>(f.type,f.offset))=[(3,0),(9,1)])&&fs.all (fun f:Field=>f.name != "_")
  | _=>false)=true:=by kernel_rfl
 split at h0<;>try (cases h0;done)
 rename_i fs hu
 simp only[Bool.and_eq_true,decide_eq_true_eq]at h0
 obtain⟨h1,h2⟩:=h0
 have hkt:Tryz.prog.keyType 73=true:=by kernel_rfl
 have hc:Tryz.prog.cellsOf 73=2:=by kernel_rfl
 have hci:Tryz.prog.cellsOf 3=1:=by kernel_rfl
 have hcb:Tryz.prog.cellsOf 9=1:=by kernel_rfl
 have hi:Tryz.prog.underlying 3=some (.int .i64):=by kernel_rfl
 have hb:Tryz.prog.underlying 9=some .string:=by kernel_rfl
 have hpos:decide (0<Tryz.prog.types.size)=true:=by kernel_rfl
 obtain⟨m,hm⟩:∃m,Tryz.prog.types.size=m+1:=⟨Tryz.prog.types.size-1,by
  have:=of_decide_eq_true hpos
  omega⟩
 have hI:Tryz.prog.keyLits (m+1) 3 [.int .i64 n]=some [.int .i64 n]:=by
  simp[Program.keyLits,hi,wfI64 hn]
 have hS:Tryz.prog.keyLits (m+1) 9 [.string ⟨s.toArray⟩]=some [.string s]:=by
  have:(⟨s.toArray⟩:ByteArray).size<=maxLen:=by
   show s.toArray.size<=maxLen
   simp[maxLen]
   omega
  simp[Program.keyLits,hb,this]
 have hl:Tryz.prog.keyLits (Tryz.prog.types.size+1) 73 [.int .i64 n,.string ⟨s.toArray⟩]=some [.int .i64 n,.string s]:=by
  rw[hm]
  unfold Program.keyLits
  rw[hu]
  simp only[hc,h2]
  have hmm:∀l:List (TypeId×Nat),l=fs.toList.map (fun f:Field=>(f.type,f.offset))->(fs.toList.mapM fun f:Field=>Tryz.prog.keyLits (m+1) f.type ((([.int .i64 n,.string ⟨s.toArray⟩]:List Value).drop f.offset).take (Tryz.prog.cellsOf f.type)))=l.mapM fun p=>Tryz.prog.keyLits (m+1) p.1 ((([.int .i64 n,.string ⟨s.toArray⟩]:List Value).drop p.2).take (Tryz.prog.cellsOf p.1)):=by
   rintro l rfl
   rw[List.mapM_map]
   rfl
  rw[hmm _ h1.symm]
  simp[hci,hcb,hI,hS]
 unfold goodK keyBs keyOf
 rw[hu]
 simp only[hkt]
 have hf:(kvK (n,s)).formed Tryz.prog 73=true:=by
  simp[kvK,Value.formed,hu,hc]
 have hcs:(kvK (n,s)).cells.toList=[.int .i64 n,.string ⟨s.toArray⟩]:=rfl
 rw[hf,hcs,hl]
 rfl
@[simp] theorem port_key:KeyP Tryz.prog 73=True:=by
 have h0:(match Tryz.prog.underlying 73 with | some (.array _ _) | some (.struct _)=>true | _=>false)=true:=by kernel_rfl
 exact eq_true ⟨deep_law (m:=4) (by omega) (by kernel_rfl) (by kernel_rfl) h0,port_good⟩
attribute [simp] keyP setK valK datLs
end Go.Proofs.YtpadinblmjlggaaGreatDoor
