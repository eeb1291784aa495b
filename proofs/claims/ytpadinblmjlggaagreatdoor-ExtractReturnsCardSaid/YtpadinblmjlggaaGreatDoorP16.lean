/- Texts joined by a program: Je,Jea,Sk,Iea,Sib,Kd,Kk. -/
import Derived.Shelf.Strconv.Itoa3
import Derived.Shelf.Small.Strs
import Derived.Test.YtpadinblmjlggaaGreatDoorProg
import Derived.KernelRfl
import Derived.Test.YtpadinblmjlggaaGreatDoorP15
import Derived.Test.YtpadinblmjlggaaGreatDoorP13
import Derived.Test.YtpadinblmjlggaaGreatDoorP12
import Derived.Test.YtpadinblmjlggaaGreatDoorP11
set_option linter.unusedSimpArgs false
set_option linter.unusedVariables false

section
namespace Go.Proofs.YtpadinblmjlggaaGreatDoor
set_option maxHeartbeats 8000000
set_option maxRecDepth 10000
theorem growT_o (n : Int) (h0 : 0 ≤ n) (h1 : n ≤ 4294967296) : CallOwn Tryz.prog 285 [.nils,aI n] 9 1 []:=by
 refine callO_of Tryz.func285 rfl Tryz.ntmps285 (rs:=[.tmp 4]) rfl (by kernel_rfl) (by simp) (by kernel_rfl) ?_
 by_cases hn : 0 < n
 ·simp [hn,Int.not_lt.2 h0]
  omega
 ·have e : n = 0:=by omega
  subst e
  simp
def sumT (xss : List (List (List UInt8))) : Nat:=(xss.map List.length).sum
theorem concatT_o (xss : List (List (List UInt8))) (h : sumT xss ≤ 4294967296) (h1 : xss.length ≤ 4294967296) : CallOwn Tryz.prog 240 [.dat (.sl (xss.map fun xs=>[.sl (xs.map encT)]))] 9 1 (xss.flatten.map rT):=by
 refine callO_of Tryz.func240 rfl Tryz.ntmps240 (rs:=[.tmp 2]) rfl (by kernel_rfl) (by simp) (by kernel_rfl) ?_
 have hle : ∀ i,(xss.take i).flatten.length ≤ sumT xss:=by
  intro i
  have e : xss = xss.take i ++ xss.drop i:=(List.take_append_drop i xss).symm
  have : sumT xss = sumT (xss.take i) + sumT (xss.drop i):=by
   unfold sumT
   conv=>lhs; rw [e]
   rw [List.map_append,List.sum_append]
  rw [List.length_flatten]
  unfold sumT at this ⊢
  omega
 have hst : ∀ i y,xss[i]? = some y → (xss.take (i + 1)).flatten = (xss.take i).flatten ++ y:=by
  intro i y hy
  rw [List.take_add_one,hy]
  simp
 obtain ⟨L,hL⟩ : ∃ L : Nat → Nat,∀ i,L i = (xss.take i).flatten.length:=⟨_,fun _=>rfl⟩
 have hL0 : L 0 = 0:=by simp [hL]
 have hLs : ∀ i y,xss[i]? = some y → L (i + 1) = L i + y.length:=by
  intro i y hy
  rw [hL,hL,hst i y hy,List.length_append]
 have hLm : ∀ i,L i ≤ sumT xss:=fun i=>by rw [hL]; exact hle i
 simp
 refine V.forI (σ:=Unit) xss.length [0,2,9,10] (by simp; exact rfl) (fun i _=>[(11,aI i),(3,aI (L i))]) (fun _ _=>[]) (fun _ _=>True) () (by simp) (by simp [hL0]) ⟨by simp; exact rfl,by simp⟩ ?_ ?_
 ·rintro i - hi -
  have hy:=List.getElem?_eq_getElem hi
  have hs:=hLs i _ hy
  have hl:=hLm (i + 1)
  simp [hi,hs]
  omega
 ·rintro - -
  have hl:=hLm xss.length
  simp
  refine (growT_o _ (by omega) (by omega)).s 50 ?_
  intro hd
  simp
  refine V.forL (γ:=Value) xss [2,25,26] (by simp; exact rfl) (fun i _ g=>[(27,aI i),(6,.own 50 g)]) (fun i _ g=>[(50,.seq g 9 1 ((xss.take i).flatten.map rT))]) (fun (_ : Unit) (_ : List (List UInt8))=>(Except.ok () : Except Unit Unit)) (fun _ _=>True) () hd trivial (by simp) ⟨by simp; exact rfl,by simp⟩ ?_ ?_
  ·rintro i - g y hi hy - -
   have hy' : xss[i]? = some y:=by rw [List.getElem?_eq_getElem hi,hy]
   have hs:=hst i _ hy'
   have hl2:=hle (i + 1)
   rw [hs,List.length_append] at hl2
   rw [hs]
   generalize (xss.take i).flatten = zs at hl2
   simp [hi,hy]
   omega
  ·rintro - g - -
   simp
theorem Values_fn (xs : List (List UInt8)) : CallFn Tryz.prog 249 [aTs xs] (.fn 290 [] [.rptr [.sl (xs.map encT)]]):=by
 refine callFz_of Tryz.func249 rfl Tryz.ntmps249 (rs:=[.tmp 2]) rfl (by kernel_rfl) (by simp) (by kernel_rfl) ?_
 simp
theorem values_iter {I : Nat → Heap → Prop} {l : Nat} (xs : List (List UInt8)) (hx : xs.length ≤ 1000) (hy : ∀ i v H,xs[i]? = some v → I i H → CallY Tryz.prog l [aT v] H fun r H'=>r = .dat (.bool true) ∧ I (i + 1) H') (H : Heap) (h0 : I 0 H) :
  CallS Tryz.prog 290 [.yld l,.rptr [.sl (xs.map encT)]] H fun _ H'=>I xs.length H':=by
 have h : CallS Tryz.prog 290 [.yld l,.rptr [.sl (xs.map encT)]] (rt 1000 H) fun _ H'=>∃ H1,I xs.length H1 ∧ subP (rt 1000 H1) H':=by
  refine callS_of Tryz.func290 rfl Tryz.ntmps290 (rs:=[]) rfl (by kernel_rfl) (by simp) (by kernel_rfl) ?_
  simp
  refine V.for' [0,5,6] (fun p=>[(7,.dat (.int .i64 (p.1 : Nat)))]) (fun p=>rt 1000 p.2)
   (fun p : Nat × Heap=>p.1 ≤ xs.length ∧ I p.1 p.2) (fun p=>xs.length - p.1) (0,H) ⟨by simp [h0],by simp,subP.refl _⟩ ?_
  rintro ⟨i,H2⟩ ⟨hi,hinv⟩
  simp only at hi hinv
  by_cases hlt : i < xs.length
  ·obtain ⟨y,hy1⟩ : ∃ y,xs[i]'hlt = y:=⟨_,rfl⟩
   have hy0 : xs[i]? = some y:=by rw [List.getElem?_eq_getElem hlt,hy1]
   simp [hlt,hy1]
   refine (hy i y H2 hy0 hinv).rt.mono ?_
   rintro r H' ⟨H1,rfl,rfl,hk⟩
   simp
   exact ⟨by omega,i + 1,H1,⟨hlt,hk⟩,by omega,by simp,subP.refl _⟩
  ·have hie : i = xs.length:=by omega
   subst hie
   simp
   exact ⟨H2,hinv,subP.refl _⟩
 exact CallS.rt (k:=1000) (CallS.dropP h fun r H' ⟨H1,h1,h2⟩=>⟨_,h2,_,rfl,h1⟩)
theorem values_apd (xs : List (List UInt8)) (hx : xs ≠ []) (hl : xs.length ≤ 1000) {l b2 : Nat} {e0 : Ent} {K : A → Heap → Prop}
  (h1 : ∀ v,CallY Tryz.prog l [aT v] [(99,e0),(2,.box b2 [.nils])] fun r H'=>r = .dat (.bool true) ∧ ∃ g,H' = [(99,e0),(11,.seq g 9 1 [rT v]),(2,.box b2 [.own 11 g])])
  (h2 : ∀ (zs : List (List UInt8)) (g : Value) (v : List UInt8),zs.length < 1000 → CallY Tryz.prog l [aT v] [(99,e0),(11,.seq g 9 1 (zs.map rT)),(2,.box b2 [.own 11 g])] fun r H'=>r = .dat (.bool true) ∧ ∃ g,H' = [(99,e0),(11,.seq g 9 1 ((zs ++ [v]).map rT)),(2,.box b2 [.own 11 g])])
  (hk : ∀ r g,K r [(99,e0),(11,.seq g 9 1 (xs.map rT)),(2,.box b2 [.own 11 g])]) :
  CallS Tryz.prog 290 [.yld l,.rptr [.sl (xs.map encT)]] [(99,e0),(2,.box b2 [.nils])] K:=by
 refine (values_iter (I:=fun i H=>(i = 0 ∧ H = [(99,e0),(2,.box b2 [.nils])]) ∨ (0 < i ∧ ∃ g,H = [(99,e0),(11,.seq g 9 1 ((xs.take i).map rT)),(2,.box b2 [.own 11 g])])) xs hl ?_ _ (.inl ⟨rfl,rfl⟩)).mono ?_
 ·rintro i v H hv (⟨rfl,rfl⟩ | ⟨hi,g,rfl⟩)
  ·have htk : xs.take (0 + 1) = [v]:=by rw [List.take_add_one,hv]; rfl
   rw [htk]
   exact (h1 v).mono fun r H' ⟨a,g,b⟩=>⟨a,.inr ⟨by omega,g,b⟩⟩
  ·have hil : i < xs.length:=(List.getElem?_eq_some_iff.1 hv).1
   have htk : xs.take (i + 1) = xs.take i ++ [v]:=by rw [List.take_add_one,hv]; rfl
   have htl : (xs.take i).length = i:=by rw [List.length_take]; omega
   rw [htk]
   exact (h2 (xs.take i) g v (by omega)).mono fun r H' ⟨a,g,b⟩=>⟨a,.inr ⟨by omega,g,b⟩⟩
 ·rintro r H' (⟨h0,_⟩ | ⟨_,g,rfl⟩)
  ·exact absurd (List.length_eq_zero_iff.1 h0) hx
  ·rw [List.take_length]
   exact hk r g
theorem appseq_s (xs : List (List UInt8)) (hx : xs ≠ []) (hl : xs.length ≤ 1000) : CallOwn Tryz.prog 319 [.nils,.fn 290 [] [.rptr [.sl (xs.map encT)]]] 9 1 (xs.map rT):=by
 refine callO_of Tryz.func319 rfl Tryz.ntmps319 (rs:=[.tmp 4]) rfl (by kernel_rfl) (by simp) (by kernel_rfl) ?_
 simp
 intro b2
 refine V.rangeFunc 99 (p:=True) (first:=[]) (caps:=[.rptr [.sl (xs.map encT)]]) (f:=290) (by simp) trivial fun l=>?_
 refine values_apd xs hx hl (fun v=>callY_of rfl (by kernel_rfl) ?_) (fun zs g v hz=>callY_of rfl (by kernel_rfl) ?_) (fun r g=>.inl ⟨_,rfl,?_⟩)
 ·simp
 ·simp
  omega
 ·simp
theorem collect_o (xs : List (List UInt8)) (hx : xs ≠ []) (hl : xs.length ≤ 1000) : CallOwn Tryz.prog 289 [.fn 290 [] [.rptr [.sl (xs.map encT)]]] 9 1 (xs.map rT):=by
 refine callO_of Tryz.func289 rfl Tryz.ntmps289 (rs:=[.tmp 2]) rfl (by kernel_rfl) (by simp) (by kernel_rfl) ?_
 simp
 refine (appseq_s xs hx hl).s 50 ?_
 intro hd
 simp
theorem sortT_call : Callable Tryz.prog 241:=⟨_,Tryz.func241,by kernel_rfl,by kernel_rfl⟩
theorem sortT_c {t : Nat} {h : Value} {zs : List (List UInt8)} (hz : zs.length < 4611686018427387904) : CallS Tryz.prog 241 [.own t h] [(t,.seq h 9 1 (zs.map rT))] fun r H'=>r = .tuple [] ∧ H' = [(t,.seq h 9 1 ((sortT zs).map rT))]:=
 sortT_s sortTLays sortT_call hz
theorem sorted_o (xs : List (List UInt8)) (hx : xs ≠ []) (hl : xs.length ≤ 1000) : CallOwn Tryz.prog 248 [.fn 290 [] [.rptr [.sl (xs.map encT)]]] 9 1 ((sortT xs).map rT):=by
 refine callO_of Tryz.func248 rfl Tryz.ntmps248 (rs:=[.tmp 2]) rfl (by kernel_rfl) (by simp) (by kernel_rfl) ?_
 simp
 refine (collect_o xs hx hl).s 50 ?_
 intro hd
 simp
 refine (sortT_c (by omega)).mono ?_
 rintro _ _ ⟨rfl,rfl⟩
 simp
def rowLs (k : Nat) : List L:=((rowOf k).take 10).map cellL
theorem rowLs_split : ∀ k,k < 14 → ∃ rest,rowOf k = (rowLs k).map A.dat ++ rest:=cat_cases ⟨⟨_,rfl⟩,⟨_,rfl⟩,⟨_,rfl⟩,⟨_,rfl⟩,⟨_,rfl⟩,⟨_,rfl⟩,⟨_,rfl⟩,⟨_,rfl⟩,⟨_,rfl⟩,⟨_,rfl⟩,⟨_,rfl⟩,⟨_,rfl⟩,⟨_,rfl⟩,⟨_,rfl⟩⟩
theorem rowLs_len : ∀ k,k < 14 → (rowLs k).length = 10:=cat_cases ⟨rfl,rfl,rfl,rfl,rfl,rfl,rfl,rfl,rfl,rfl,rfl,rfl,rfl,rfl⟩
def cellT : L → List UInt8
 | .str s=>s
 | _=>[]
def cellTs : L → List (List UInt8)
 | .sl r=>r.map fun x=>cellT (x.headD (.int .i64 0))
 | _=>[]
def rowTs (k : Nat) : List (List (List UInt8)):=(((rowLs k).drop 2).take 5).map cellTs
theorem rowTs_eq : ∀ k,k < 14 → (((rowLs k).drop 2).take 5).map (fun l=>[l]) = (rowTs k).map fun xs=>[.sl (xs.map encT)]:=cat_cases ⟨rfl,rfl,rfl,rfl,rfl,rfl,rfl,rfl,rfl,rfl,rfl,rfl,rfl,rfl⟩
theorem rowTs_sum : ∀ k,k < 14 → sumT (rowTs k) ≤ 7 ∧ (rowTs k).length = 5 ∧ 1 ≤ (rowTs k).flatten.length ∧ (rowTs k).flatten.length ≤ 7:=by
 refine cat_cases ⟨?_,?_,?_,?_,?_,?_,?_,?_,?_,?_,?_,?_,?_,?_⟩
 all_goals decide
def portT (k : Nat) : List (List UInt8):=sortT (rowTs k).flatten
theorem Ports_fn (k : Nat) (hk : k < 14) : CallFn Tryz.prog 179 [aI k] (.tuple [aTs (portT k),aI 0]):=by
 have hf:=find_fn k hk
 have hl:=row_len k hk
 have hcell:=row_cell k hk
 obtain ⟨rest,hsp⟩:=rowLs_split k hk
 have hll:=rowLs_len k hk
 have hts:=rowTs_eq k hk
 obtain ⟨hs1,hs2,hs3,hs4⟩:=rowTs_sum k hk
 have hcon:=concatT_o (rowTs k) (by omega) (by omega)
 unfold portT
 generalize rowTs k = T at *
 obtain ⟨F,hF⟩ : ∃ F,T.flatten = F:=⟨_,rfl⟩
 rw [hF] at hcon hs3 hs4 ⊢
 generalize rowLs k = ls at *
 refine callFz_cut 3 Tryz.func179 rfl Tryz.ntmps179 (rs:=[.tmp 2,.tmp 3]) rfl (by kernel_rfl) (by simp) (by kernel_rfl) ?_
 simp
 refine hf.s ?_
 generalize rowOf k = R at *
 simp
 intro b4
 refine ⟨⟨hl,by omega,fun x hx=>?_⟩,?_⟩
 ·have hx2:=List.all_eq_true.1 hcell x hx
  cases x <;> exact hx2
 ·rw [hl]
  simp only [List.drop_succ_cons,List.drop_zero,List.append_nil]
  rw [hsp]
  refine V.cutV [(4,.ptr 4 b4 0),(3,aI 0)] (Hs:=[(4,.box b4 (ls.map A.dat ++ rest))]) (by simp) (by simp) ?_
  refine V.ofG (Gh.frzPre 4 (τ:=4) (b:=b4) (ls:=ls) (rest:=rest) rfl rfl (Gh.here ?_))
  refine V.seq (V.regD (fun t=>if t = 17 then some (.own 9 1 (F.map rT)) else none) [] (fun t=>if t = 16 then some (.dat (.sl (((ls.drop 2).take 5).map fun l=>[l]))) else none) ?_)
  dsimp only [List.append,List.toList_toArray]
  have hts2 : List.take 5 (List.drop 2 (List.map (fun l=>[l]) ls)) = T.map fun xs=>[.sl (xs.map encT)]:=by rw [← hts,List.map_take,List.map_drop]
  have har : arT Tryz.prog 222 = some (5,41):=by kernel_rfl
  have htk0 : tk Tryz.prog 41 = 1:=by kernel_rfl
  have htk : tk Tryz.prog 41 ≠ 0:=by rw [htk0]; decide
  simp
  refine ⟨?_,?_⟩
  ·have e : List.take 5 (List.drop 2 (List.map (fun l=>[l]) ls)) = ((ls.drop 2).take 5).map fun l=>[l]:=by simp
   rw [e]
   exact sliceArr_ok (t:=222) (x:=.tmp 15) (ls:=ls.drop 2) (n:=5) rfl har htk rfl (by simp; omega)
  rw [hts2]
  refine fun h=>⟨hcon,(sortT_c (by omega)).mono ?_⟩
  rintro _ _ ⟨rfl,rfl⟩
  simp
theorem ports_fn (k : Nat) (hk : k < 14) (name : List UInt8) (d : Int) : CallFn Tryz.prog 185 [.record [.int .i64 k,.str name,.int .i64 d]] (aTs (sortT (portT k))):=by
 have hp:=Ports_fn k hk
 obtain ⟨hs1,hs2,hs3,hs4⟩:=rowTs_sum k hk
 have hl : (portT k).length = (rowTs k).flatten.length:=sortT_len _
 generalize rowTs k = T at *
 refine callFz_of Tryz.func185 rfl Tryz.ntmps185 (rs:=[.tmp 2]) rfl (by kernel_rfl) (by simp) (by kernel_rfl) ?_
 generalize portT k = F at *
 simp
 refine hp.s ?_
 simp
 refine (Values_fn F).s ?_
 simp
 refine (sorted_o F (by rintro rfl; rw [← hl] at hs3; simp at hs3) (by omega)).s 50 ?_
 intro hd
 simp
end Go.Proofs.YtpadinblmjlggaaGreatDoor
end

section
namespace Go.Proofs.YtpadinblmjlggaaGreatDoor
set_option maxHeartbeats 8000000
set_option maxRecDepth 10000
theorem idxT_fn (xs : List (List UInt8)) (v : List UInt8) (hx : Sh xs) : CallFn Tryz.prog 247 [aTs xs,aT v] (aI (idxI (xs.findIdx? (v == ·)))):=by
 refine callFz_of Tryz.func247 rfl Tryz.ntmps247 (rs:=[.tmp 4]) rfl (by kernel_rfl) (by simp) (by kernel_rfl) ?_
 simp
 refine V.forI (σ:=Unit) xs.length [0,1,7] (by simp; exact rfl) (fun i _=>[(8,aI i)]) (fun _ _=>[]) (fun i _=>NoF (v == ·) (xs.take i)) () (by simp) (by simp) ⟨by simp; exact rfl,by simp⟩ ?_ ?_
 ·rintro i - hi hI
  have h1:=List.getElem?_eq_getElem hi
  have hs:=findIdx_step (p:=(v == ·)) hI h1
  simp [hi,h1]
  cases e : (v == xs[i])
  ·simp at e
   simp [e]
   exact ⟨by omega,hs.1 (by simp [e])⟩
  ·have e2:=hs.2 e
   simp at e
   rw [e2]
   simp [e]
 ·rintro - hI
  rw [findIdx_none hI]
  simp
theorem containsT_fn (xs : List (List UInt8)) (v : List UInt8) (hx : Sh xs) : CallFn Tryz.prog 184 [aTs xs,aT v] (aB (xs.any (v == ·))):=by
 refine callFz_of Tryz.func184 rfl Tryz.ntmps184 (rs:=[.tmp 4]) rfl (by kernel_rfl) (by simp) (by kernel_rfl) ?_
 simp
 refine (idxT_fn xs v hx).s ?_
 simp
 rw [idxI_ge,List.findIdx?_isSome]
theorem hasSuf_fn (q : List UInt8) (x y : UInt8) (hq : q.length ≤ 1000) : CallFn Tryz.prog 288 [aT (q ++ [x]),aT [y]] (aB (x == y)):=by
 refine callFz_of Tryz.func288 rfl Tryz.ntmps288 (rs:=[.tmp 4]) rfl (by kernel_rfl) (by simp) (by kernel_rfl) ?_
 have e1 : List.take (q.length + 1) (q ++ [x]) = q ++ [x]:=List.take_of_length_le (by simp)
 have e2 : (([x] : List UInt8) == [y]) = (x == y):=by simp [Bool.eq_iff_iff]
 simp [e1]
 refine ⟨fun _=>by omega,fun _=>by omega⟩
theorem cutSufL_fn (q : List UInt8) (x y : UInt8) (hq : q.length ≤ 1000) : CallFn Tryz.prog 244 [aT (q ++ [x]),aT [y]] (.tuple [aT (if x = y then q else q ++ [x]),aB (x == y)]):=by
 have h:=hasSuf_fn q x y hq
 refine callFz_of Tryz.func244 rfl Tryz.ntmps244 (rs:=[.tmp 4,.tmp 5]) rfl (by kernel_rfl) (by simp) (by kernel_rfl) ?_
 simp
 refine h.s ?_
 by_cases e : x = y
 ·simp [e]
  omega
 ·simp [e]
theorem cutSuf_fn (q : List UInt8) (x y : UInt8) (hq : q.length ≤ 1000) : CallFn Tryz.prog 182 [aT (q ++ [x]),aT [y]] (.tuple [aT (if x = y then q else q ++ [x]),aB (x == y)]):=by
 have h:=cutSufL_fn q x y hq
 refine callFz_of Tryz.func182 rfl Tryz.ntmps182 (rs:=[.tmp 4,.tmp 5]) rfl (by kernel_rfl) (by simp) (by kernel_rfl) ?_
 simp
 refine h.s ?_
 simp
end Go.Proofs.YtpadinblmjlggaaGreatDoor
end

section
namespace Go.Proofs.YtpadinblmjlggaaGreatDoor
set_option maxRecDepth 100000
set_option maxHeartbeats 4000000
def itRen : Go.Shelf.Ren:=⟨fun | 129=>318 | 171=>142 | 243=>206 | 246=>256 | 283=>293 | 284=>294 | 285=>295 | 286=>296 | 317=>320 | 318=>321 | 319=>322 | 320=>323 | 337=>332 | 338=>333 | n=>n,fun | 0=>0 | 2=>2 | 3=>3 | 4=>4 | 5=>5 | 9=>9 | 20=>20 | 37=>359 | 46=>350 | 51=>374 | 53=>356 | 171=>355 | 173=>360 | 212=>376 | 213=>377 | 232=>387 | 233=>388 | n=>n,fun | 17=>2 | 18=>3 | 19=>4 | n=>n⟩
theorem itLays0 : Go.Proofs.Lays.n171 Tryz.prog itRen:={ 
 mixed:=by kernel_rfl,
 f129:=by kernel_rfl,
 f171:=by kernel_rfl,
 f243:=by kernel_rfl,
 f246:=by kernel_rfl,
 f283:=by kernel_rfl,
 f284:=by kernel_rfl,
 f285:=by kernel_rfl,
 f286:=by kernel_rfl,
 f317:=by kernel_rfl,
 f318:=by kernel_rfl,
 f319:=by kernel_rfl,
 f320:=by kernel_rfl,
 f337:=by kernel_rfl,
 f338:=by kernel_rfl,
 t0:=Tryz.underlying0,
 a0:=Tryz.isAgg0,
 z0:=Tryz.sizeOf0,
 v0:=Tryz.zeroValue0,
 t2:=Tryz.underlying2,
 a2:=Tryz.isAgg2,
 z2:=Tryz.sizeOf2,
 v2:=Tryz.zeroValue2,
 t3:=Tryz.underlying3,
 a3:=Tryz.isAgg3,
 z3:=Tryz.sizeOf3,
 v3:=Tryz.zeroValue3,
 t4:=Tryz.underlying4,
 a4:=Tryz.isAgg4,
 z4:=Tryz.sizeOf4,
 v4:=Tryz.zeroValue4,
 t5:=Tryz.underlying5,
 a5:=Tryz.isAgg5,
 z5:=Tryz.sizeOf5,
 v5:=Tryz.zeroValue5,
 t9:=Tryz.underlying9,
 a9:=Tryz.isAgg9,
 z9:=Tryz.sizeOf9,
 v9:=Tryz.zeroValue9,
 t20:=Tryz.underlying20,
 a20:=Tryz.isAgg20,
 z20:=Tryz.sizeOf20,
 v20:=Tryz.zeroValue20,
 t37:=Tryz.underlying359,
 a37:=Tryz.isAgg359,
 z37:=Tryz.sizeOf359,
 v37:=Tryz.zeroValue359,
 t46:=Tryz.underlying350,
 a46:=Tryz.isAgg350,
 z46:=Tryz.sizeOf350,
 v46:=Tryz.zeroValue350,
 t51:=Tryz.underlying374,
 a51:=Tryz.isAgg374,
 z51:=Tryz.sizeOf374,
 v51:=Tryz.zeroValue374,
 t53:=Tryz.underlying356,
 a53:=Tryz.isAgg356,
 z53:=Tryz.sizeOf356,
 v53:=Tryz.zeroValue356,
 t171:=Tryz.underlying355,
 a171:=Tryz.isAgg355,
 z171:=Tryz.sizeOf355,
 v171:=Tryz.zeroValue355,
 t173:=Tryz.underlying360,
 a173:=Tryz.isAgg360,
 z173:=Tryz.sizeOf360,
 v173:=Tryz.zeroValue360,
 t212:=Tryz.underlying376,
 a212:=Tryz.isAgg376,
 z212:=Tryz.sizeOf376,
 v212:=Tryz.zeroValue376,
 t213:=Tryz.underlying377,
 a213:=Tryz.isAgg377,
 z213:=Tryz.sizeOf377,
 t232:=Tryz.underlying387,
 a232:=Tryz.isAgg387,
 z232:=Tryz.sizeOf387,
 v232:=Tryz.zeroValue387,
 t233:=Tryz.underlying388,
 a233:=Tryz.isAgg388,
 z233:=Tryz.sizeOf388,
 v233:=Tryz.zeroValue388,
 g17:=by kernel_rfl,
 g18:=by kernel_rfl,
 g19:=by kernel_rfl }
theorem itLays : Go.Proofs.LaysM.n171 Tryz.prog itRen:={ itLays0 with 
 i0:=by kernel_rfl,
 i2:=by kernel_rfl,
 i3:=by kernel_rfl,
 i4:=by kernel_rfl,
 i5:=by kernel_rfl,
 i9:=by kernel_rfl,
 i20:=by kernel_rfl,
 i37:=by kernel_rfl,
 i46:=by kernel_rfl,
 i51:=by kernel_rfl,
 i53:=by kernel_rfl,
 i171:=by kernel_rfl,
 i173:=by kernel_rfl,
 i212:=by kernel_rfl,
 i232:=by kernel_rfl,
 i233:=by kernel_rfl,
 m17:=by kernel_rfl,
 m18:=by kernel_rfl,
 m19:=by kernel_rfl }
def scRen : Go.Shelf.Ren:=⟨fun | 106=>188 | 213=>251 | 265=>291 | n=>n,fun | 3=>3 | 9=>9 | n=>n,fun n=>n⟩
theorem scLays : Go.Proofs.Lays.n106 Tryz.prog scRen:={ 
 mixed:=by kernel_rfl,
 f106:=by kernel_rfl,
 f213:=by kernel_rfl,
 f265:=by kernel_rfl,
 t3:=Tryz.underlying3,
 a3:=Tryz.isAgg3,
 z3:=Tryz.sizeOf3,
 v3:=Tryz.zeroValue3,
 t9:=Tryz.underlying9,
 a9:=Tryz.isAgg9,
 z9:=Tryz.sizeOf9,
 v9:=Tryz.zeroValue9 }
end Go.Proofs.YtpadinblmjlggaaGreatDoor
end

section
namespace Go.Proofs.YtpadinblmjlggaaGreatDoor
set_option maxHeartbeats 4000000
set_option maxRecDepth 10000
theorem Compare_fnT (a b : List UInt8) : CallFn Tryz.prog 188 [.dat (.str a),.dat (.str b)] (aI (Go.Lib.compareBytes a b)):=by
 refine ⟨⟨_,Tryz.func188,by kernel_rfl,by kernel_rfl⟩,fun x args H0 hi hd=>?_⟩
 obtain ⟨u,v,e,hu,hv⟩:=Ds.two hd
 simp only [D,RdL] at hu hv
 subst hu hv
 have ha : args = #[.string ⟨a.toArray⟩,.string ⟨b.toArray⟩]:=by
  rcases args with ⟨l⟩
  simp only at e
  rw [e]
 subst ha
 refine (Any.strings_Compare scLays ⟨a.toArray⟩ ⟨b.toArray⟩ x.w).mono ?_
 rintro _ _ ⟨rfl,rfl⟩
 refine ⟨x,_,_,[],rfl,rfl,.refl x,by simpa using hi,?_,rfl,rfl⟩
 simp only [D,RdL]
theorem cmpOr_fn (a b : Int) : CallFn Tryz.prog 186 [aIs [a,b]] (aI (if a ≠ 0 then a else b)):=by
 refine callFz_of Tryz.func186 rfl Tryz.ntmps186 (rs:=[.tmp 2]) rfl (by kernel_rfl) (by simp) (by kernel_rfl) ?_
 simp
 refine V.forI (σ:=Unit) 2 [3,6,7] (by simp; exact rfl) (fun i _=>[(2,aI 0),(8,aI i)]) (fun _ _=>[]) (fun i _=>(1 ≤ i → a = 0) ∧ (2 ≤ i → b = 0)) () (by simp) (by simp) ⟨by simp; exact rfl,by simp⟩ ?_ ?_
 ·rintro i - hi ⟨h1,h2⟩
  have hc : i = 0 ∨ i = 1:=by omega
  rcases hc with rfl | rfl
  ·simp
   by_cases h : a = 0 <;> simp [h]
  ·have:=h1 (by omega)
   simp
   by_cases h : b = 0 <;> simp [h,this]
 ·rintro - ⟨h1,h2⟩
  have:=h1 (by omega)
  have:=h2 (by omega)
  simp [*]
theorem nanI_fn (n : Int) : CallFn Tryz.prog 250 [aI n] (aB false):=by
 refine callFz_of Tryz.func250 rfl Tryz.ntmps250 (rs:=[.tmp 2]) rfl (by kernel_rfl) (by simp) (by kernel_rfl) ?_
 simp
def cmpI (a b : Int) : Int:=if a < b then -1 else if b < a then 1 else 0
theorem cmpI_fn (a b : Int) : CallFn Tryz.prog 187 [aI a,aI b] (aI (cmpI a b)):=by
 have n1:=nanI_fn a
 have n2:=nanI_fn b
 refine callFz_of Tryz.func187 rfl Tryz.ntmps187 (rs:=[.tmp 4]) rfl (by kernel_rfl) (by simp) (by kernel_rfl) ?_
 simp
 refine n1.s ?_
 simp
 refine n2.s ?_
 simp
 unfold cmpI
 by_cases h : a < b
 ·simp [h]
  omega
 ·by_cases h2 : b < a <;> simp [h,h2]
end Go.Proofs.YtpadinblmjlggaaGreatDoor
end

section
namespace Go.Proofs.YtpadinblmjlggaaGreatDoor
set_option maxRecDepth 100000
set_option maxHeartbeats 4000000
def ibRen : Go.Shelf.Ren:=⟨fun | 137=>141 | 217=>205 | 266=>255 | n=>n,fun | 3=>3 | 5=>5 | 9=>9 | n=>n,fun n=>n⟩
theorem ibLays : Go.Proofs.Lays.n137 Tryz.prog ibRen:={ 
 mixed:=by kernel_rfl,
 f137:=by kernel_rfl,
 f217:=by kernel_rfl,
 f266:=by kernel_rfl,
 t3:=Tryz.underlying3,
 a3:=Tryz.isAgg3,
 z3:=Tryz.sizeOf3,
 v3:=Tryz.zeroValue3,
 t5:=Tryz.underlying5,
 a5:=Tryz.isAgg5,
 z5:=Tryz.sizeOf5,
 v5:=Tryz.zeroValue5,
 t9:=Tryz.underlying9,
 a9:=Tryz.isAgg9,
 z9:=Tryz.sizeOf9,
 v9:=Tryz.zeroValue9 }
end Go.Proofs.YtpadinblmjlggaaGreatDoor
end

section
namespace Go.Proofs.YtpadinblmjlggaaGreatDoor
set_option maxHeartbeats 8000000
set_option maxRecDepth 10000
theorem IndexByte_fn (s : List UInt8) (n : Int) : CallFn Tryz.prog 141 [.dat (.str s),.dat (.int .u8 n)] (aI (Go.Lib.indexByte s n.toNat.toUInt8)):=by
 refine ⟨⟨_,Tryz.func141,by kernel_rfl,by kernel_rfl⟩,fun x args H0 hi hd=>?_⟩
 obtain ⟨u,v,e,hu,hv⟩:=Ds.two hd
 simp only [D,RdL] at hu hv
 subst hu hv
 have ha : args = #[.string ⟨s.toArray⟩,.int .u8 n]:=by
  rcases args with ⟨l⟩
  simp only at e
  rw [e]
 subst ha
 refine (Any.strings_IndexByte ibLays ⟨s.toArray⟩ n x.w).mono ?_
 rintro _ _ ⟨rfl,rfl⟩
 refine ⟨x,_,_,[],rfl,rfl,.refl x,by simpa using hi,?_,rfl,rfl⟩
 simp only [D,RdL]
def signsT : List UInt8:=[43,45,42,47,40,41,91,93,123,125,60,62,61,44,59,58,124,38,33,35,46]
def clsG (n : Nat) : Int:=if 65 ≤ n ∧ n ≤ 90 then 1 else if 97 ≤ n ∧ n ≤ 122 then 1 else if 48 ≤ n ∧ n ≤ 57 then 2 else if n = 95 then 3 else if n = 32 then 5 else if n = 10 then 5 else if 0 ≤ Go.Lib.indexByte signsT n.toUInt8 then 4 else 0
theorem clsG_one (n : Nat) : clsG n = 1 ↔ letC n = true:=by
 unfold clsG letC
 simp only [Bool.or_eq_true,decide_eq_true_eq]
 (repeat' split) <;> omega
theorem clsG_inn (n : Nat) : (clsG n = 1 ∨ clsG n = 2 ∨ clsG n = 3) ↔ innC n = true:=by
 unfold clsG innC letC digQ
 simp only [Bool.or_eq_true,decide_eq_true_eq]
 (repeat' split) <;> omega
theorem rngG_tab : tabF 0 = some [.int .u8 65,.int .u8 90,.int .u8 1,.int .u8 97,.int .u8 122,.int .u8 1,.int .u8 48,.int .u8 57,.int .u8 2,.int .u8 95,.int .u8 95,.int .u8 3,.int .u8 32,.int .u8 32,.int .u8 5,.int .u8 10,.int .u8 10,.int .u8 5]:=rfl
theorem classG_fn (n : Nat) (hn : n < 256) : CallFn Tryz.prog 242 [.dat (.int .u8 n)] (aI (clsG n)):=by
 have hib:=IndexByte_fn signsT n
 rw [Int.toNat_natCast] at hib
 refine callFz_of Tryz.func242 rfl Tryz.ntmps242 (rs:=[.tmp 2]) rfl (by kernel_rfl) (by simp) (by kernel_rfl) ?_
 simp
 refine V.forI (σ:=Unit) 6 [0] (by simp; exact rfl) (fun i _=>[(2,aI 0),(5,aI i)]) (fun _ _=>[]) (fun i _=>(1 ≤ i → ¬ (65 ≤ n ∧ n ≤ 90)) ∧ (2 ≤ i → ¬ (97 ≤ n ∧ n ≤ 122)) ∧ (3 ≤ i → ¬ (48 ≤ n ∧ n ≤ 57)) ∧ (4 ≤ i → n ≠ 95) ∧ (5 ≤ i → n ≠ 32) ∧ (6 ≤ i → n ≠ 10)) () (by simp) (by simp) ⟨by simp; exact rfl,by simp⟩ ?_ ?_
 ·rintro i - hi ⟨h1,h2,h3,h4,h5,h6⟩
  have : i = 0 ∨ i = 1 ∨ i = 2 ∨ i = 3 ∨ i = 4 ∨ i = 5:=by omega
  rcases this with rfl | rfl | rfl | rfl | rfl | rfl
  all_goals
   simp [rngG_tab]
   unfold clsG
   simp only [Nat.zero_le,Nat.le_refl,forall_const,Nat.reduceLeDiff] at h1 h2 h3 h4 h5 h6
   refine ⟨fun a b=>?_,fun a=>?_⟩
   ·(repeat' split) <;> omega
   ·omega
 ·rintro - ⟨h1,h2,h3,h4,h5,h6⟩
  simp
  refine hib.s ?_
  unfold clsG
  rw [if_neg (h1 (by omega)),if_neg (h2 (by omega)),if_neg (h3 (by omega)),if_neg (h4 (by omega)),if_neg (h5 (by omega)),if_neg (h6 (by omega))]
  by_cases h : 0 ≤ Go.Lib.indexByte signsT n.toUInt8
  ·simp [h]
  ·simp [h]
def runN (s : List UInt8) : Nat:=s.findIdx fun b=>!innC b.toNat
abbrev clsK3 : List (List L):=[[.int .i64 1],[.int .i64 2],[.int .i64 3]]
theorem runG_fn (s : List UInt8) (hs : s.length ≤ 1000000000) : CallFn Tryz.prog 243 [aT s,.dat (.sl clsK3)] (aI (runN s)):=by
 refine callFz_of Tryz.func243 rfl Tryz.ntmps243 (rs:=[.tmp 4]) rfl (by kernel_rfl) (by simp) (by kernel_rfl) ?_
 simp
 refine V.forI (σ:=Unit) s.length [0,1,10] (by simp; exact rfl) (fun i _=>[(4,aI 0),(11,aI i)]) (fun _ _=>[]) (fun i _=>∀ j (hj : j < s.length),j < i → innC s[j].toNat = true) () (by simp) (by simp) ⟨by simp; exact rfl,by simp⟩ ?_ ?_
 ·rintro i - hi hI
  obtain ⟨b,hb1⟩ : ∃ b,s[i] = b:=⟨_,rfl⟩
  have hbo : s[i]? = some b:=by rw [List.getElem?_eq_getElem hi,hb1]
  have hcf:=classG_fn b.toNat b.toNat_lt
  have hci:=clsG_inn b.toNat
  have hstop : innC b.toNat = false → runN s = i:=fun h=>by
   unfold runN
   rw [List.findIdx_eq hi]
   refine ⟨by rw [hb1,h]; rfl,fun j hj=>?_⟩
   rw [hI j (by omega) hj]
   rfl
  have hgo : innC b.toNat = true → ∀ j (hj : j < s.length),j < i + 1 → innC s[j].toNat = true:=fun h j hj hji=>by
   by_cases e : j = i
   ·subst e
    rw [hb1,h]
   ·exact hI j hj (by omega)
  generalize clsG b.toNat = k at *
  simp [hi]
  refine V.forI (σ:=Unit) 3 [0,1,4,5,10,11,14,15] (by simp; exact rfl) (fun j _=>[(6,aB (decide (1 ≤ k ∧ k ≤ j))),(16,aI j)]) (fun _ _=>[]) (fun _ _=>True) () trivial (by simp; omega) ⟨by simp; exact rfl,by simp⟩ ?_ ?_
  ·rintro j - hj -
   have : j = 0 ∨ j = 1 ∨ j = 2:=by omega
   rcases this with rfl | rfl | rfl
   all_goals
    simp [hbo,hb1,hi]
    refine GCall.fn (aI k) (fun h=>⟨h,hcf⟩) ?_
    try simp
    rw [Bool.eq_iff_iff]
    simp only [Bool.or_eq_true,Bool.and_eq_true,decide_eq_true_eq,beq_iff_eq]
    omega
  ·rintro - -
   simp
   by_cases hk : 1 ≤ k ∧ k ≤ 3
   ·have h1:=hci.1 (by omega)
    simp [hk]
    exact ⟨by omega,by omega,hgo h1⟩
   ·have h1 : innC b.toNat = false:=by
     cases h : innC b.toNat with
     | false=>rfl
     | true=>have:=hci.2 h; omega
    have hk2 : ¬ (1 ≤ k ∧ k ≤ 3):=hk
    rw [hstop h1]
    simp [hk2]
    try omega
 ·rintro - hI
  have : runN s = s.length:=by
   unfold runN
   rw [List.findIdx_eq_length]
   intro b hb
   obtain ⟨j,hj,e⟩:=List.getElem_of_mem hb
   rw [← e,hI j hj hj]
   rfl
  rw [this]
  simp
theorem runN_all (s : List UInt8) : runN s = s.length ↔ (s.all fun b=>innC b.toNat) = true:=by
 unfold runN
 rw [List.findIdx_eq_length,List.all_eq_true]
 constructor
 ·intro h b hb
  simpa using h b hb
 ·intro h b hb
  simp [h b hb]
theorem WordG_fn (s : List UInt8) (hs : s.length ≤ 1000000000) : CallFn Tryz.prog 181 [aT s] (aI (wordE s)):=by
 refine callFz_of Tryz.func181 rfl Tryz.ntmps181 (rs:=[.tmp 2]) rfl (by kernel_rfl) (by simp) (by kernel_rfl) ?_
 have hrf:=runG_fn s hs
 have hra:=runN_all s
 cases s with
 | nil=>
  unfold wordE
  simp
  refine GCall.fn .undef (fun h=>absurd h (by simp)) ?_
  simp
  refine GCall.fn .undef (fun h=>absurd h (by simp)) ?_
  simp
 | cons b r=>
  have hcf:=classG_fn b.toNat b.toNat_lt
  have hc1:=clsG_one b.toNat
  have hw : wordE (b :: r) = if letC b.toNat = false then 3 else if ((b :: r).all fun b=>innC b.toNat) = false then 3 else if 24 < r.length + 1 then 17 else 0:=by
   simp [wordE]
  rw [hw]
  simp only [List.length_cons] at hs hra hrf
  generalize runN (b :: r) = n at *
  generalize ((b :: r).all fun b=>innC b.toNat) = a at *
  generalize letC b.toNat = d at *
  generalize clsG b.toNat = k at *
  simp
  refine GCall.fn (aI k) (fun _=>⟨trivial,hcf⟩) ?_
  simp
  by_cases hk : k = 1
  ·have hd : d = true:=hc1.1 hk
   subst hd
   simp [hk]
   refine GCall.fn (aI n) (fun _=>⟨trivial,hrf⟩) ?_
   simp
   by_cases hn : n = r.length + 1
   ·have ha:=hra.1 hn
    subst ha
    by_cases h24 : 24 < r.length + 1
    ·simp [hn,h24]
     omega
    ·simp [hn,h24]
     omega
   ·have ha : a = false:=by
     cases a with
     | false=>rfl
     | true=>exact absurd (hra.2 rfl) hn
    subst ha
    have hn2 : ¬ ((n : Int) = (r.length : Int) + 1):=by omega
    simp [hn2]
    try omega
  ·have hd : d = false:=by
    cases d with
    | false=>rfl
    | true=>exact absurd (hc1.2 rfl) hk
   subst hd
   simp [hk]
   refine GCall.fn .undef (fun h=>absurd h (by simp)) ?_
   simp
   exact ⟨hk,fun h=>absurd h hk⟩
theorem find_bad (k : Int) (h : ¬ (0 ≤ k ∧ k < 14)) : ∃ R : List A,R.length = 12 ∧ R.all cellB = true ∧ CallFn Tryz.prog 148 [aI k] (.tuple [.agg R,aI 1]):=by
 refine ⟨[.dat (.str []),.dat (.str []),.dat (.sl []),.dat (.sl []),.dat (.sl []),.dat (.sl []),.dat (.sl []),.dat (.str []),.dat (.str []),aI 0,.nilf,.nilf],rfl,rfl,?_⟩
 refine callFz_of Tryz.func148 rfl Tryz.ntmps148 (rs:=[.cell 2 226,.tmp 3]) rfl (by kernel_rfl) (by simp) (by kernel_rfl) ?_
 simp
 intro b2
 exact fun h1 h2=>absurd ⟨h1,h2⟩ h
theorem partG_fn (p : Prt) (hs : p.name.length ≤ 1000000000) : CallFn Tryz.prog 121 [.record (encPa p)] (aI (partE p)):=by
 obtain ⟨k,n,d⟩:=p
 have hw:=WordG_fn n hs
 have hf : ∃ (R : List A) (z : Int),R.length = 12 ∧ R.all cellB = true ∧ CallFn Tryz.prog 148 [aI k] (.tuple [.agg R,aI z]) ∧ z = if 0 ≤ k ∧ k < 14 then 0 else 1:=by
  by_cases hk : 0 ≤ k ∧ k < 14
  ·obtain ⟨n,rfl⟩ : ∃ n : Nat,k = n:=⟨k.toNat,by omega⟩
   have h1 : n < 14:=by omega
   exact ⟨rowOf n,0,row_len n h1,row_cell n h1,find_fn n h1,by rw [if_pos hk]⟩
  ·obtain ⟨R,a,b,c⟩:=find_bad k hk
   exact ⟨R,1,a,b,c,by rw [if_neg hk]⟩
 obtain ⟨R,z,hl,hcell,hf,hz⟩:=hf
 refine callFz_cut 2 Tryz.func121 rfl Tryz.ntmps121 (rs:=[.tmp 2]) rfl (by kernel_rfl) (by simp) (by kernel_rfl) ?_
 unfold partE
 by_cases hk : 0 ≤ k ∧ k < 14
 ·rw [if_pos hk] at hz
  subst hz
  simp
  refine hf.s ?_
  simp
  intro b3
  refine ⟨⟨hl,by omega,fun x hx=>?_⟩,?_⟩
  ·have hx2:=List.all_eq_true.1 hcell x hx
   cases x <;> exact hx2
  ·refine V.cutV [(1,.rptr [.int .i64 k,.str n,.int .i64 d]),(2,aI 0)] (Hs:=[]) (by simp) (by simp) (V.of_vc ?_)
   simp [hk]
   refine hw.s ?_
   by_cases hwz : wordE n = 0
   ·simp [hwz]
    by_cases h12 : k = 12
    ·subst h12
     by_cases ha : d < 1
     ·simp [ha]
      omega
     ·by_cases hb : 1000000 < d
      ·simp [ha,hb]
      ·simp [ha,hb]
    ·by_cases ha : d = 0
     ·simp [h12,ha]
      omega
     ·simp [h12,ha]
      omega
   ·simp [hwz]
    intro h
    have:=h hk.1
    omega
 ·rw [if_neg hk] at hz
  subst hz
  simp [hk]
  refine hf.s ?_
  simp
  refine ⟨⟨hl,by omega,fun x hx=>?_⟩,fun h1 h2=>absurd ⟨h1,h2⟩ hk⟩
  have hx2:=List.all_eq_true.1 hcell x hx
  cases x <;> exact hx2
end Go.Proofs.YtpadinblmjlggaaGreatDoor
end

section
namespace Go.Proofs.YtpadinblmjlggaaGreatDoor
set_option maxHeartbeats 8000000
set_option maxRecDepth 10000
def cmpZ (a b : PortZ) : Int:=if cmpI a.1 b.1 ≠ 0 then cmpI a.1 b.1 else Go.Lib.compareBytes a.2 b.2
def cmpZZ (a b : PipeZ) : Int:=if cmpZ a.1 b.1 ≠ 0 then cmpZ a.1 b.1 else cmpZ a.2 b.2
theorem compareZ_fn (a b : PortZ) : CallFn Tryz.prog 125 [.record (encPo a),.record (encPo b)] (aI (cmpZ a b)):=by
 obtain ⟨a1,a2⟩:=a
 obtain ⟨b1,b2⟩:=b
 have h1:=cmpI_fn a1 b1
 have h2:=Compare_fnT a2 b2
 have h3:=cmpOr_fn (cmpI a1 b1) (Go.Lib.compareBytes a2 b2)
 refine callFz_of Tryz.func125 rfl Tryz.ntmps125 (rs:=[.tmp 4]) rfl (by kernel_rfl) (by simp) (by kernel_rfl) ?_
 simp
 refine V.drawX (fun t=>if t = 9 then some (.fn (aI (cmpI a1 b1))) else if t = 14 then some (.fn (aI (Go.Lib.compareBytes a2 b2))) else if t = 16 then some (.fn (aI (cmpZ (a1,a2) (b1,b2)))) else none) (by kernel_rfl) (by kernel_rfl) (by simp) ?_
 simp
 exact ⟨h1,h2,h3⟩
theorem pipesZ_fn (a b : PipeZ) : CallFn Tryz.prog 126 [.record (encPi a),.record (encPi b)] (aI (cmpZZ a b)):=by
 obtain ⟨⟨a1,a2⟩,a3,a4⟩:=a
 obtain ⟨⟨b1,b2⟩,b3,b4⟩:=b
 have h1:=compareZ_fn (a1,a2) (b1,b2)
 have h2:=compareZ_fn (a3,a4) (b3,b4)
 have h3:=cmpOr_fn (cmpZ (a1,a2) (b1,b2)) (cmpZ (a3,a4) (b3,b4))
 refine callFz_of Tryz.func126 rfl Tryz.ntmps126 (rs:=[.tmp 4]) rfl (by kernel_rfl) (by simp) (by kernel_rfl) ?_
 simp
 refine V.drawX (fun t=>if t = 9 then some (.fn (aI (cmpZ (a1,a2) (b1,b2)))) else if t = 14 then some (.fn (aI (cmpZ (a3,a4) (b3,b4)))) else if t = 16 then some (.fn (aI (cmpZZ ((a1,a2),a3,a4) ((b1,b2),b3,b4)))) else none) (by kernel_rfl) (by kernel_rfl) (by simp) ?_
 simp
 exact ⟨h1,h2,h3⟩
theorem cmpIZ_lt (a b : Int) : cmpI a b < 0 ↔ a < b:=by
 unfold cmpI
 split
 ·omega
 ·split <;> omega
theorem cmpZ_lt (a b : PortZ) : cmpZ a b < 0 ↔ beforeZ a b = true:=by
 unfold cmpZ beforeZ lexB
 by_cases h : a.1 = b.1
 ·rw [if_pos h,if_neg (by rw [h]; simp [cmpI]),cmpT_lt]
 ·have h0 : cmpI a.1 b.1 ≠ 0:=by unfold cmpI; split <;> (try split) <;> omega
  rw [if_neg h,if_pos h0,cmpIZ_lt]
  simp
theorem cmpZ_zero (a b : PortZ) : cmpZ a b = 0 ↔ a = b:=by
 unfold cmpZ
 by_cases h : a.1 = b.1
 ·rw [if_neg (by rw [h]; simp [cmpI]),cmpT_zero]
  exact ⟨fun h2=>Prod.ext h h2,fun h2=>by rw [h2]⟩
 ·have h0 : cmpI a.1 b.1 ≠ 0:=by unfold cmpI; split <;> (try split) <;> omega
  rw [if_pos h0]
  exact ⟨fun h2=>absurd h2 h0,fun h2=>absurd (by rw [h2]) h⟩
theorem cmpZZ_lt (a b : PipeZ) : cmpZZ a b < 0 ↔ earlierZ a b = true:=by
 unfold cmpZZ earlierZ lexB
 by_cases h : a.1 = b.1
 ·rw [if_pos h,if_neg (by rw [h]; simp [cmpZ_zero]),cmpZ_lt]
 ·rw [if_neg h,if_pos (by rw [ne_eq,cmpZ_zero]; exact h),cmpZ_lt]
theorem cmpZ_gt (a b : PortZ) : 0 < cmpZ a b ↔ beforeZ b a = true:=by
 unfold cmpZ beforeZ lexB
 by_cases h : a.1 = b.1
 ·rw [if_pos h.symm,if_neg (by rw [h]; simp [cmpI]),cmpT_eq]
  cases h1 : ltB a.2 b.2 with
  | true=>rw [if_pos rfl,ltB_asymm h1]; simp
  | false=>cases h2 : ltB b.2 a.2 <;> simp
 ·have h0 : cmpI a.1 b.1 ≠ 0:=by unfold cmpI; split <;> (try split) <;> omega
  rw [if_pos h0,if_neg (fun e : b.1 = a.1=>h e.symm)]
  simp only [decide_eq_true_eq]
  unfold cmpI
  split <;> (try split) <;> omega
theorem findZ1_fn (p : Prt) (t : List UInt8) : CallFn Tryz.prog 246 [.record (encPa p),.rptr [.str t]] (aB (p.name == t)):=by
 refine callFz_of Tryz.func246 rfl Tryz.ntmps246 (rs:=[.tmp 3]) rfl (by kernel_rfl) (by simp) (by kernel_rfl) ?_
 simp
theorem idxPZ_fn (ps : List Prt) (t : List UInt8) (hx : Sh ps) :
  CallFn Tryz.prog 245 [.dat (.sl (ps.map encPa)),.fn 246 [] [.rptr [.str t]]] (aI (idxI (findN ps t))):=by
 unfold findN
 refine callFz_of Tryz.func245 rfl Tryz.ntmps245 (rs:=[.tmp 4]) rfl (by kernel_rfl) (by simp) (by kernel_rfl) ?_
 simp
 refine V.forI (σ:=Unit) ps.length [0,1,7] (by simp; exact rfl) (fun i _=>[(8,aI i)]) (fun _ _=>[]) (fun i _=>NoF (fun p : Prt=>p.name == t) (ps.take i)) () (by simp) (by simp) ⟨by simp; exact rfl,by simp⟩ ?_ ?_
 ·rintro i - hi hI
  obtain ⟨y,hy⟩ : ∃ y,ps[i] = y:=⟨_,rfl⟩
  have h1 : ps[i]? = some y:=by rw [List.getElem?_eq_getElem hi,hy]
  have hs:=findIdx_step (p:=fun p : Prt=>p.name == t) hI h1
  have hc:=findZ1_fn y t
  simp [hi,hy]
  refine hc.s ?_
  cases e : (y.name == t)
  ·simp
   exact ⟨by omega,hs.1 e⟩
  ·rw [hs.2 e]
   simp
 ·rintro - hI
  rw [findIdx_none hI]
  simp
theorem findZ_fn (c : Cir) (t : List UInt8) (hx : Sh c.parts) : CallFn Tryz.prog 183 [aCi c,aT t] (aI (idxI (findN c.parts t))):=by
 have h:=idxPZ_fn c.parts t hx
 refine callFz_of Tryz.func183 rfl Tryz.ntmps183 (rs:=[.tmp 4]) rfl (by kernel_rfl) (by simp) (by kernel_rfl) ?_
 simp
 refine h.s ?_
 simp
def ownI (ps : List Prt) (t : List UInt8) : Int:=if ownN ps t = true then idxI (findN ps t.dropLast) else -1
theorem findN_ex {ps : List Prt} {t : List UInt8} {j : Nat} (h : findN ps t = some j) : ∃ q,ps[j]? = some q ∧ q.name = t:=by
 unfold findN at h
 obtain ⟨hj,h1,_⟩:=List.findIdx?_eq_some_iff_getElem.1 h
 exact ⟨ps[j],List.getElem?_eq_getElem hj,by simpa using h1⟩
theorem ownI_lt (ps : List Prt) (t : List UInt8) : ownI ps t < 0 ↔ ownN ps t = false:=by
 unfold ownI
 by_cases h : ownN ps t = true
 ·rw [if_pos h,h]
  unfold ownN at h
  simp only [Bool.and_eq_true] at h
  cases hf : findN ps t.dropLast with
  | none=>rw [hf] at h; simp at h
  | some j=>simp [idxI]
 ·rw [if_neg h]
  simp only [Bool.not_eq_true] at h
  simp [h]
theorem ownerZ_fn (c : Cir) (p : Prt) (hx : Sh c.parts) (hq : p.name.length ≤ 1000) (hn : p.name ≠ []) : CallFn Tryz.prog 122 [aCi c,.record (encPa p)] (aI (ownI c.parts p.name)):=by
 obtain ⟨pk,pn,pd⟩:=p
 simp only at hq hn ⊢
 obtain ⟨q,x,rfl⟩ : ∃ q x,pn = q ++ [x]:=by
  rcases List.eq_nil_or_concat pn with e | ⟨q,x,e⟩
  ·exact absurd e hn
  ·exact ⟨q,x,by rw [e,List.concat_eq_append]⟩
 simp at hq
 have hfi:=findZ_fn c q hx
 have c0:=cutSuf_fn q x 48 (by omega)
 have c1:=cutSuf_fn q x 49 (by omega)
 have ho : ownN c.parts (q ++ [x]) = ((x == 48 || x == 49) && match findN c.parts q with
  | some j=>(c.parts[j]?).any fun q=>q.kind == 1
  | none=>false):=by
  simp [ownN]
  rfl
 have hex:=@findN_ex c.parts q
 unfold ownI
 rw [ho,show (q ++ [x]).dropLast = q by simp]
 obtain ⟨ps,l⟩:=c
 simp only at hx hfi hex ⊢
 refine callFz_of Tryz.func122 rfl Tryz.ntmps122 (rs:=[.tmp 4]) rfl (by kernel_rfl) (by simp) (by kernel_rfl) ?_
 simp
 refine c0.s ?_
 by_cases h0 : x = 48
 ·subst h0
  simp
  refine hfi.s ?_
  cases hf : findN ps q with
  | none=>cases hps : ps[0]? <;> simp [idxI,hps]
  | some j=>
   obtain ⟨y,hy,_⟩:=hex hf
   obtain ⟨hj,hy1⟩:=List.getElem?_eq_some_iff.1 hy
   by_cases hk : y.kind = 1
   ·simp [idxI,hy,hy1,hj,hk]
   ·simp [idxI,hy,hy1,hj,hk]
 ·by_cases h1 : x = 49
  ·subst h1
   simp
   refine c1.s ?_
   simp
   refine hfi.s ?_
   cases hf : findN ps q with
   | none=>cases hps : ps[0]? <;> simp [idxI,hps]
   | some j=>
    obtain ⟨y,hy,_⟩:=hex hf
    obtain ⟨hj,hy1⟩:=List.getElem?_eq_some_iff.1 hy
    by_cases hk : y.kind = 1
    ·simp [idxI,hy,hy1,hj,hk]
    ·simp [idxI,hy,hy1,hj,hk]
  ·simp [h0]
   refine c1.s ?_
   simp [h0,h1]
theorem indexedZ_fn (c : Cir) (a b : PortZ) (hx : Sh c.parts) : CallFn Tryz.prog 123 [aCi c,.dat (.sl [encPo a,encPo b])] (aI (if inPort c.parts a = true ∧ inPort c.parts b = true then 0 else 2)):=by
 obtain ⟨ps,l⟩:=c
 simp only at hx ⊢
 unfold inPort
 simp only [decide_eq_true_eq]
 refine callFz_of Tryz.func123 rfl Tryz.ntmps123 (rs:=[.tmp 4]) rfl (by kernel_rfl) (by simp) (by kernel_rfl) ?_
 simp
 refine V.forI (σ:=Unit) 2 [2,7,8] (by simp; exact rfl) (fun i _=>[(4,aI 0),(9,aI i)]) (fun _ _=>[]) (fun i _=>(1 ≤ i → 0 ≤ a.1 ∧ a.1 < ps.length) ∧ (2 ≤ i → 0 ≤ b.1 ∧ b.1 < ps.length)) () (by simp) (by simp) ⟨by simp; exact rfl,by simp⟩ ?_ ?_
 ·rintro i - hi ⟨hI1,hI2⟩
  have hc : i = 0 ∨ i = 1:=by omega
  rcases hc with rfl | rfl
  ·simp
   intros
   omega
  ·simp
   exact ⟨fun h=>by omega,fun h1 h2=>⟨hI1 (by omega),h1,h2⟩⟩
 ·rintro - ⟨hI1,hI2⟩
  have:=hI1 (by omega)
  have:=hI2 (by omega)
  simp [*]
theorem portsK_le : ∀ k,k < 14 → (portsK k).Pairwise fun a b=>decide (a ≤ b) = true:=by decide
theorem portsK_perm : ∀ k,k < 14 → (rowTs k).flatten.Perm (portsK k):=by decide
theorem ports_eq (k : Nat) (hk : k < 14) : sortT (portT k) = portsK k:=by
 have h1 : (sortT (portT k)).Pairwise fun a b=>decide (a ≤ b) = true:=by
  unfold sortT
  refine List.pairwise_mergeSort ?_ ?_ _
  ·intro a b c h1 h2
   simp only [decide_eq_true_eq] at *
   exact List.le_trans h1 h2
  ·intro a b
   simp only [Bool.or_eq_true,decide_eq_true_eq]
   exact List.le_total a b
 have h2 : (sortT (portT k)).Perm (portsK k):=(List.mergeSort_perm _ _).trans ((List.mergeSort_perm _ _).trans (portsK_perm k hk))
 refine sorted_same (fun a b _ _ h3 h4=>?_) h1 (portsK_le k hk) h2
 simp only [decide_eq_true_eq] at h3 h4
 exact List.le_antisymm h3 h4
theorem portsZ_fn (p : Prt) (hk : 0 ≤ p.kind ∧ p.kind < 14) : CallFn Tryz.prog 185 [.record (encPa p)] (aTs (portsK p.kind.toNat)):=by
 obtain ⟨k,n,d⟩:=p
 simp only at hk ⊢
 obtain ⟨m,rfl⟩ : ∃ m : Nat,k = m:=⟨k.toNat,by omega⟩
 have h:=ports_fn m (by omega) n d
 rw [ports_eq m (by omega)] at h
 exact h
theorem containsP_fn (k : Nat) (t : List UInt8) : CallFn Tryz.prog 184 [aTs (portsK k),aT t] (aB (hasK k t)):=by
 have hl:=portsK_len k
 have h:=containsT_fn (portsK k) t (by unfold Sh; omega)
 have : (portsK k).any (t == ·) = hasK k t:=by
  rw [Bool.eq_iff_iff,hasK_mem,List.any_eq_true]
  constructor
  ·rintro ⟨x,hx,e⟩
   rw [beq_iff_eq.1 e]
   exact hx
  ·intro h
   exact ⟨t,h,by simp⟩
 rwa [this] at h
theorem existsZ_fn (c : Cir) (a b : PortZ) (hx : Sh c.parts) (hk : ∀ p ∈ c.parts,0 ≤ p.kind ∧ p.kind < 14) (ha : inPort c.parts a = true) (hb : inPort c.parts b = true) :
  CallFn Tryz.prog 124 [aCi c,.dat (.sl [encPo a,encPo b])] (aI (if hasPort c.parts a = true ∧ hasPort c.parts b = true then 0 else 6)):=by
 obtain ⟨ps,l⟩:=c
 simp only at hx hk ha hb ⊢
 obtain ⟨a1,a2⟩:=a
 obtain ⟨b1,b2⟩:=b
 unfold inPort at ha hb
 simp only [decide_eq_true_eq] at ha hb
 obtain ⟨i,rfl⟩ : ∃ i : Nat,a1 = i:=⟨a1.toNat,by omega⟩
 obtain ⟨j,rfl⟩ : ∃ j : Nat,b1 = j:=⟨b1.toNat,by omega⟩
 have hi : i < ps.length:=by omega
 have hj : j < ps.length:=by omega
 obtain ⟨p,hp⟩ : ∃ p,ps[i] = p:=⟨_,rfl⟩
 have hpo : ps[i]? = some p:=by rw [List.getElem?_eq_getElem hi,hp]
 obtain ⟨q,hq⟩ : ∃ q,ps[j] = q:=⟨_,rfl⟩
 have hqo : ps[j]? = some q:=by rw [List.getElem?_eq_getElem hj,hq]
 have f1:=portsZ_fn p (hk p (List.mem_of_getElem? hpo))
 have f2:=portsZ_fn q (hk q (List.mem_of_getElem? hqo))
 have g1:=containsP_fn p.kind.toNat a2
 have g2:=containsP_fn q.kind.toNat b2
 have h1 : hasPort ps ((i : Int),a2) = hasK p.kind.toNat a2:=by simp [hasPort,hpo]
 have h2 : hasPort ps ((j : Int),b2) = hasK q.kind.toNat b2:=by simp [hasPort,hqo]
 rw [h1,h2]
 generalize hasK p.kind.toNat a2 = z1 at *
 generalize hasK q.kind.toNat b2 = z2 at *
 generalize portsK p.kind.toNat = F1 at *
 generalize portsK q.kind.toNat = F2 at *
 refine callFz_of Tryz.func124 rfl Tryz.ntmps124 (rs:=[.tmp 4]) rfl (by kernel_rfl) (by simp) (by kernel_rfl) ?_
 simp
 refine V.forI (σ:=Unit) 2 [2,7,8] (by simp; exact rfl) (fun i _=>[(4,aI 0),(9,aI i)]) (fun _ _=>[]) (fun i _=>(1 ≤ i → z1 = true) ∧ (2 ≤ i → z2 = true)) () (by simp) (by simp) ⟨by simp; exact rfl,by simp⟩ ?_ ?_
 ·rintro n - hn ⟨hI1,hI2⟩
  have hc : n = 0 ∨ n = 1:=by omega
  rcases hc with rfl | rfl
  ·simp
   intro b6
   refine V.drawX (fun t=>if t = 19 then some (.fn (aTs F1)) else if t = 22 then some (.fn (aB z1)) else none) (by kernel_rfl) (by kernel_rfl) (by simp) ?_
   simp [hi,hp,hpo]
   exact ⟨f1,g1,fun h=>by simp [h]⟩
  ·simp
   intro b6
   refine V.drawX (fun t=>if t = 19 then some (.fn (aTs F2)) else if t = 22 then some (.fn (aB z2)) else none) (by kernel_rfl) (by kernel_rfl) (by simp) ?_
   simp [hj,hq,hqo]
   exact ⟨f2,g2,fun h=>by simp [h],fun h=>⟨hI1 (by omega),h⟩⟩
 ·rintro - ⟨hI1,hI2⟩
  have:=hI1 (by omega)
  have:=hI2 (by omega)
  simp [*]
end Go.Proofs.YtpadinblmjlggaaGreatDoor
end
