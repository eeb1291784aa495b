/- Texts joined by a program: Fwha. -/
import Derived.DeepKeys3
import Derived.WideKeyMaps
import Derived.Test.YtafamcbdaeppoaaGreatDoorF2
set_option linter.unusedSimpArgs false
set_option linter.unusedVariables false
namespace Go.Proofs.YtafamcbdaeppoaaGreatDoor
section
variable {P:Program}
def keyBs (P:Program) (kt:TypeId) (v:Value):Option (List UInt8):=match keyOf P kt v with
 | some (.string s)=>some s
 | _=>none
def goodK (P:Program) (kt:TypeId) (v:Value):Prop:=(keyBs P kt v).isSome=true
def findM (P:Program) (kt:TypeId) (ms:List MapEntry) (key:Value):Option MapEntry:=ms.find? fun m=>decide (keyBs P kt m.key=keyBs P kt key)
def putM (P:Program) (kt:TypeId) (ms:Array MapEntry) (c:Nat) (key v:Value):Array MapEntry×Nat:=match ms.toList.findIdx? fun m=>decide (keyBs P kt m.key=keyBs P kt key) with
 | some j=>(ms.modify j fun e=>{ e with key:=key,val:=v },c)
 | none=>(ms.push { key:=key,val:=v,born:=c },c+1)
def goodM (P:Program) (kt:TypeId) (ms:Array MapEntry) (c:Nat):Prop:=MapKept.Stamped ms c∧∀m∈ms.toList,goodK P kt m.key
def rmT (P:Program) (t:TypeId):Option TypeId:=match P.underlying t with
 | some (.map kt et)=>match P.underlying kt,P.info? et with
  | some (.struct _),some i=>match i.zero with
   | some (.slice none 0 0)=>if P.keyTypeAt 4 kt&&P.tiled 4 kt then some kt else none
   | _=>none
  | _,_=>none
 | _=>none
theorem rmT_und {t kt:TypeId}(h:rmT P t=some kt):∃et i fs,P.underlying t=some (.map kt et)∧P.underlying kt=some (.struct fs)∧P.info? et=some i∧i.zero=some (.slice none 0 0)∧WideMaps.KeyLaw P kt:=by
 unfold rmT at h
 split at h<;>try (simp at h;done)
 rename_i kt' et hu
 split at h<;>try (simp at h;done)
 rename_i fs i hk hi
 split at h<;>try (simp at h;done)
 rename_i hz
 split at h<;>try (simp at h;done)
 rename_i hkt
 simp only[Option.some.injEq]at h
 subst h
 simp only[Bool.and_eq_true]at hkt
 exact⟨et,i,fs,hu,hk,hi,hz,deep_law (m:=4) (by omega) hkt.1 hkt.2 (by rw[hk])⟩
theorem goodK_of {kt:TypeId}{v:Value}(h:goodK P kt v):∃s,keyOf P kt v=some (.string s)∧keyBs P kt v=some s:=by
 unfold goodK keyBs at h
 unfold keyBs
 split at h
 ·rename_i s hs
  exact⟨s,hs,rfl⟩
 ·cases h
theorem keyBs_eq {kt:TypeId}(K:WideMaps.KeyLaw P kt) {a b:Value}(ha:goodK P kt a) (hb:goodK P kt b):keyBs P kt a=keyBs P kt b↔a=b:=by
 obtain⟨s,h1,h2⟩:=goodK_of ha
 obtain⟨t,h3,h4⟩:=goodK_of hb
 constructor
 ·intro h
  rw[h2,h4]at h
  cases h
  exact K.inj h1 h3
 ·rintro rfl;rfl
theorem find_raw {kt:TypeId}(K:WideMaps.KeyLaw P kt) (w:World) {ms:Array MapEntry}{c:Nat}{key:Value}(hm:goodM P kt ms c) (hk:goodK P kt key) :
  ((Instr.findKey kt key ms.toList).run P w=.ok none w∧(∀e∈ms.toList,e.key≠key)∧findM P kt ms.toList key=none∧(ms.toList.findIdx? fun m=>decide (keyBs P kt m.key=keyBs P kt key))=none) ∨
  ∃j e,(Instr.findKey kt key ms.toList).run P w=.ok (some (j,e.val)) w∧ms[j]?=some e∧e.key=key∧findM P kt ms.toList key=some e∧(ms.toList.findIdx? fun m=>decide (keyBs P kt m.key=keyBs P kt key))=some j:=by
 obtain⟨s,h1,h2⟩:=goodK_of hk
 rcases K.find w h1 ms.toList (fun e he=>by obtain⟨s,h3,_⟩:=goodK_of (hm.2 e he);exact⟨_,h3⟩) with⟨h3,h4⟩|⟨j,e,h3,h4,h5⟩
 ·refine .inl ⟨h3,h4,?_,?_⟩
  ·unfold findM
   rw[List.find?_eq_none]
   intro m hmm
   simp only[decide_eq_true_eq]
   exact fun e=>h4 m hmm ((keyBs_eq K (hm.2 m hmm) hk).1 e)
  ·rw[List.findIdx?_eq_none_iff]
   intro m hmm
   simp only[decide_eq_false_iff_not]
   exact fun e=>h4 m hmm ((keyBs_eq K (hm.2 m hmm) hk).1 e)
 ·obtain⟨hj,hje⟩:=List.getElem?_eq_some_iff.1 h4
  have hnd:=hm.1.2.2
  have hidx:(ms.toList.findIdx? fun m=>decide (keyBs P kt m.key=keyBs P kt key))=some j:=by
   rw[List.findIdx?_eq_some_iff_getElem]
   refine⟨hj,?_,?_⟩
   ·rw[hje,h5];simp
   ·intro i hij
    simp only[decide_eq_true_eq]
    intro e1
    have h6:=(keyBs_eq K (hm.2 _ (List.getElem_mem (by omega))) hk).1 e1
    have h7:(ms.toList.map (·.key))[i]'(by simp at hj ⊢;omega)=(ms.toList.map (·.key))[j]'(by simpa using hj):=by
     rw[List.getElem_map,List.getElem_map,h6,hje,h5]
    exact List.pairwise_iff_getElem.1 hnd i j (by simp at hj ⊢;omega) (by simpa using hj) hij h7
  refine .inr ⟨j,e,h3,by simpa using h4,h5,?_,hidx⟩
  unfold findM
  rw[List.find?_eq_some_iff_getElem]
  refine⟨by rw[h5];simp,j,hj,hje,fun i hij=>?_⟩
  have:=(List.findIdx?_eq_some_iff_getElem.1 hidx).2.2 i hij
  simpa using this
theorem lookup_raw {w:World}{b t kt:Nat}{ms:Array MapEntry}{c:Nat}{key:Value}(ht:rmT P t=some kt) (hb:w.heap[b]?=some (.map ms c)) (hm:goodM P kt ms c) (hk:goodK P kt key) :
  (Instr.lookup t (.map (some b)) key false).run P w=.ok (match findM P kt ms.toList key with
   | some e=>e.val
   | none=>.slice none 0 0) w:=by
 obtain⟨et,i,fs,h1,h2,h3,h4,K⟩:=rmT_und ht
 obtain⟨s,k1,k2⟩:=goodK_of hk
 have hzv:(zeroValue et).run P w=.ok (.slice none 0 0) w:=by simp[zeroValue,run_typeInfo w h3,h4]
 rcases find_raw K w hm hk with⟨e1,e2,e3,e4⟩|⟨j,e,e1,e2,e3,e4,e5⟩
 ·rw[e3]
  simp[Instr.lookup,run_underlying h1,MapKept.run_getObj_map hb,K.check w _ k1,e1,hzv,Result.andThen]
 ·rw[e4]
  simp[Instr.lookup,run_underlying h1,MapKept.run_getObj_map hb,K.check w _ k1,e1,Result.andThen]
theorem update_raw {w:World}{b t kt:Nat}{ms:Array MapEntry}{c:Nat}{key v:Value}(ht:rmT P t=some kt) (hb:w.heap[b]?=some (.map ms c)) (hm:goodM P kt ms c) (hk:goodK P kt key) :
  (Instr.mapUpdate t (.map (some b)) key v).run P w=.ok () { w with heap:=w.heap.setIfInBounds b (.map (putM P kt ms c key v).1 (putM P kt ms c key v).2) }:=by
 obtain⟨et,i,fs,h1,h2,h3,h4,K⟩:=rmT_und ht
 obtain⟨s,k1,k2⟩:=goodK_of hk
 rcases find_raw K w hm hk with⟨e1,e2,e3,e4⟩|⟨j,e,e1,e2,e3,e4,e5⟩
 ·unfold putM
  rw[e4]
  simp[Instr.mapUpdate,run_underlying h1,MapKept.run_getObj_map hb,K.check w false k1,e1,MapKept.run_setObj_map _ hb,Result.andThen]
 ·unfold putM
  rw[e5]
  simp[Instr.mapUpdate,run_underlying h1,MapKept.run_getObj_map hb,K.check w false k1,e1,e2,e3,K.stays w k1,MapKept.run_setObj_map _ hb,Result.andThen]
def entM (P:Program) (kt:TypeId) (ms:Array MapEntry) (c:Nat) (key:Value):Array MapEntry×Nat×Value×Nat:=match findM P kt ms.toList key with
 | some e=>(ms,c,e.val,e.born)
 | none=>(ms.push { key:=key,val:=.slice none 0 0,born:=c },c+1,.slice none 0 0,c)
def hasB (ms:Array MapEntry) (n:Int):Prop:=(ms.findIdx? fun e=>(e.born:Int)==n).isSome=true
def setB (ms:Array MapEntry) (n:Int) (v:Value):Array MapEntry:=match ms.findIdx? fun e=>(e.born:Int)==n with
 | some i=>ms.modify i fun e=>{ e with val:=v }
 | none=>ms
theorem modify_same {ms:Array MapEntry}{j:Nat}{e:MapEntry}(h:ms[j]?=some e):(ms.modify j fun e'=>{ e' with key:=e.key })=ms:=by
 apply Array.ext_getElem?
 intro i
 rw[Array.getElem?_modify]
 split
 ·rename_i hij
  subst hij
  rw[h]
  rfl
 ·rfl
theorem entry_raw {w:World}{b t kt:Nat}{ms:Array MapEntry}{c:Nat}{key:Value}(ht:rmT P t=some kt) (hb:w.heap[b]?=some (.map ms c)) (hm:goodM P kt ms c) (hk:goodK P kt key) :
  (Instr.mapEntry t (.map (some b)) key).run P w=.ok (.tuple #[(entM P kt ms c key).2.2.1,.int .i64 ((entM P kt ms c key).2.2.2:Nat)]) { w with heap:=w.heap.setIfInBounds b (.map (entM P kt ms c key).1 (entM P kt ms c key).2.1) }:=by
 obtain⟨et,i,fs,h1,h2,h3,h4,K⟩:=rmT_und ht
 obtain⟨s,k1,k2⟩:=goodK_of hk
 have hzv:(zeroValue et).run P w=.ok (.slice none 0 0) w:=by simp[zeroValue,run_typeInfo w h3,h4]
 rcases find_raw K w hm hk with⟨e1,e2,e3,e4⟩|⟨j,e,e1,e2,e3,e4,e5⟩
 ·unfold entM
  rw[e3]
  simp[Instr.mapEntry,run_underlying h1,MapKept.run_getObj_map hb,K.check w false k1,e1,hzv,MapKept.run_setObj_map _ hb,Result.andThen,goInt]
 ·unfold entM
  rw[e4]
  have hsame:=modify_same e2
  rw[e3]at hsame
  simp[Instr.mapEntry,run_underlying h1,MapKept.run_getObj_map hb,K.check w false k1,e1,e2,e3,K.stays w k1,MapKept.run_setObj_map _ hb,Result.andThen,goInt,hsame]
theorem store_raw {w:World}{b t:Nat}{ms:Array MapEntry}{c:Nat}{n:Int}{k:IntKind}{v:Value}(hb:w.heap[b]?=some (.map ms c)) (hn:hasB ms n) :
  (Instr.entryStore t (.map (some b)) (.int k n) v).run P w=.ok () { w with heap:=w.heap.setIfInBounds b (.map (setB ms n v) c) }:=by
 unfold hasB at hn
 obtain⟨i,hi⟩:=Option.isSome_iff_exists.1 hn
 unfold setB
 rw[hi]
 simp[Instr.entryStore,MapKept.run_getObj_map hb,asInt,asIntOf,hi,MapKept.run_setObj_map _ hb,Result.andThen]
def standM (ms:Array MapEntry) (seen:Array Nat):Option MapEntry:=match seen.back? with
 | some s=>ms.find? (·.born==s)
 | none=>none
def vL:Value->Option L
 | .int k n=>some (.int k n)
 | .bool b=>some (.bool b)
 | _=>none
theorem vL_ok {x:X}{v:Value}{l:L}(h:vL v=some l):RdL x l v:=by
 cases v<;>simp only[vL,Option.some.injEq,reduceCtorEq]at h<;>subst h<;>simp[RdL]
theorem entry_run {w:World}{b m since last c:Nat}{seen:Array Nat}{ms:Array MapEntry}{e:MapEntry}(h1:w.heap[b]?=some (.mapIter (some m) since seen last)) (h2:w.heap[m]?=some (.map ms c)) (hc:c=last) (he:standM ms seen=some e) :
  (Instr.entry (.pointer (some ⟨b,0,none⟩))).run P w=.ok (.tuple #[e.key,e.val]) w:=by
 subst hc
 unfold standM at he
 split at he
 ·rename_i s hs
  simp[Instr.entry,getObj,Sem.run,h1,h2,hs,he]
 ·cases he
def cellV:L->Option Value
 | .int k n=>some (.int k n)
 | .bool b=>some (.bool b)
 | .str s=>some (.string ⟨s.toArray⟩)
 | .sl _=>none
def cellVs:List L->Option (List Value)
 | []=>some []
 | l::r=>match cellV l,cellVs r with
  | some v,some vs=>some (v::vs)
  | _,_=>none
def datLs:List A->Option (List L)
 | []=>some []
 | .dat l::r=>(datLs r).map (l::·)
 | _::_=>none
def keyA:A->Option Value
 | .record ls=>(cellVs ls).map fun vs=>.agg vs.toArray
 | .agg az=>match datLs az with
  | some ls=>(cellVs ls).map fun vs=>.agg vs.toArray
  | none=>none
 | _=>none
theorem cellVs_ok {x:X}:∀ {ls:List L}{vs us:List Value},cellVs ls=some vs->RdLs x ls us->us=vs
 | [],vs,us,h,hr=>by
  simp only[cellVs,Option.some.injEq]at h
  subst h
  cases us with
  | nil=>rfl
  | cons _ _=>simp[RdLs]at hr
 | l::r,vs,us,h,hr=>by
  simp only[cellVs]at h
  split at h<;>try (simp at h;done)
  rename_i v vs' h1 h2
  simp only[Option.some.injEq]at h
  subst h
  cases us with
  | nil=>simp[RdLs]at hr
  | cons u us=>
   simp only[RdLs]at hr
   rw[cellVs_ok h2 hr.2]
   congr 1
   cases l<;>simp only[cellV,Option.some.injEq,reduceCtorEq]at h1<;>subst h1<;>simpa [RdL]using hr.1
theorem datLs_ok {x:X}:∀ {az:List A}{ls:List L}{us:List Value},datLs az=some ls->Ds x az us->RdLs x ls us
 | [],ls,us,h,hd=>by
  simp only[datLs,Option.some.injEq]at h
  subst h
  cases us with
  | nil=>simp[RdLs]
  | cons _ _=>simp[Ds]at hd
 | a::az,ls,us,h,hd=>by
  cases a<;>simp only[datLs,reduceCtorEq]at h
  simp only[Option.map_eq_some_iff]at h
  obtain⟨ls',h1,rfl⟩:=h
  cases us with
  | nil=>simp[Ds]at hd
  | cons u us=>
   simp only[Ds,D]at hd
   simp only[RdLs]
   exact⟨hd.1,datLs_ok h1 hd.2⟩
theorem keyA_ok {x:X}{a:A}{k v:Value}(h:keyA a=some k) (hd:D x a v):v=k:=by
 cases a<;>simp only[keyA,reduceCtorEq]at h
 ·simp only[Option.map_eq_some_iff]at h
  obtain⟨vs,h1,rfl⟩:=h
  simp only[D]at hd
  obtain⟨us,rfl,hr⟩:=hd
  rw[<- cellVs_ok h1 hr]
 ·split at h<;>try (simp at h;done)
  rename_i ls hls
  simp only[Option.map_eq_some_iff]at h
  obtain⟨vs,h1,rfl⟩:=h
  simp only[D]at hd
  obtain⟨us,rfl,hr⟩:=hd
  rw[<- cellVs_ok h1 (datLs_ok hls hr)]
def hdrA:A->Option Value
 | .own _ h=>some h
 | .nils=>some (.slice none 0 0)
 | _=>none
theorem hdrA_ok {x:X}{a:A}{h v:Value}(ha:hdrA a=some h) (hd:D x a v):v=h:=by
 cases a<;>simp only[hdrA,Option.some.injEq,reduceCtorEq]at ha<;>subst ha<;>simp only[D]at hd
 ·exact hd
 ·exact hd.1
end
end Go.Proofs.YtafamcbdaeppoaaGreatDoor
