/- Texts joined by a program: Jf,Jd,Jg,Jh,Iu,Iv,Iw,Ix,Iy,Ja,Jn,Jo,Oy. -/
import Derived.Test.YtafamcbdaeppoaaGreatDoorF24
import Derived.Test.YtafamcbdaeppoaaGreatDoorF22
import Derived.Test.YtafamcbdaeppoaaGreatDoorF23
import Derived.Test.YtafamcbdaeppoaaGreatDoorF26
import Derived.Test.YtafamcbdaeppoaaGreatDoorF21
import Derived.Test.YtafamcbdaeppoaaGreatDoorF20
import Derived.Test.YtafamcbdaeppoaaGreatDoorF16
import Derived.Test.YtafamcbdaeppoaaGreatDoorF15
set_option linter.unusedSimpArgs false
set_option linter.unusedVariables false
set_option maxHeartbeats 8000000
set_option maxRecDepth 100000
namespace Go.Proofs.YtafamcbdaeppoaaGreatDoor
theorem findC1_fn (p:Made) (name:List UInt8):CallFn Tryz.prog 213 [.record (encPart p),.rptr [.str name]] (aB (p.name==name)):=by
 refine callFz_of Tryz.func213 rfl Tryz.ntmps213 (rs:=[.tmp 3]) rfl (by kernel_rfl) (by simp) (by kernel_rfl) ?_
 simp
theorem idxP_fn (ps:List Made) (name:List UInt8) (hx:Sh ps) :
  CallFn Tryz.prog 77 [.dat (.sl (ps.map encPart)),.fn 213 [] [.rptr [.str name]]] (aI (idxI (ps.findIdx? fun p=>p.name==name))):=by
 refine callFz_of Tryz.func77 rfl Tryz.ntmps77 (rs:=[.tmp 4]) rfl (by kernel_rfl) (by simp) (by kernel_rfl) ?_
 simp
 refine V.forI (σ:=Unit) ps.length [0,1,7] (by simp;exact rfl) (fun i _=>[(8,aI i)]) (fun _ _=>[]) (fun i _=>NoF (fun p=>p.name==name) (ps.take i)) () (by simp) (by simp) ⟨by simp;exact rfl,by simp⟩ ?_ ?_
 ·rintro i-hi hI
  obtain⟨y,hy⟩:∃y,ps[i]=y:=⟨_,rfl⟩
  have h1:ps[i]?=some y:=by rw[List.getElem?_eq_getElem hi,hy]
  have hs:=findIdx_step (p:=fun p=>p.name==name) hI h1
  have hc:=findC1_fn y name
  simp[hi,hy]
  refine hc.s ?_
  cases e:(y.name==name)
  ·simp
   exact⟨by omega,hs.1 e⟩
  ·rw[hs.2 e]
   simp
 ·rintro-hI
  rw[findIdx_none hI]
  simp
theorem findC_fn (ps:List Made) (l:List (PortP×PortP)) (name:List UInt8) (hx:Sh ps):CallFn Tryz.prog 150 [aCirc (ps,l),aT name] (aI (idxI (ps.findIdx? fun p=>p.name==name))):=by
 have h:=idxP_fn ps name hx
 refine callFz_of Tryz.func150 rfl Tryz.ntmps150 (rs:=[.tmp 4]) rfl (by kernel_rfl) (by simp) (by kernel_rfl) ?_
 simp
 refine h.s ?_
 simp
theorem compareC_fn (a b:PortP):CallFn Tryz.prog 100 [.record (encPort a),.record (encPort b)] (aI (cmpP a b)):=by
 obtain⟨a1,a2⟩:=a
 obtain⟨b1,b2⟩:=b
 have h1:=cmpI_fn a1 b1
 have h2:=Compare_fnT a2 b2
 have h3:=cmpOr_fn (cmpI a1 b1) (Go.Lib.compareBytes a2 b2)
 refine callFz_of Tryz.func100 rfl Tryz.ntmps100 (rs:=[.tmp 4]) rfl (by kernel_rfl) (by simp) (by kernel_rfl) ?_
 simp
 refine V.drawX (fun t=>if t=9 then some (.fn (aI (cmpI a1 b1))) else if t=14 then some (.fn (aI (Go.Lib.compareBytes a2 b2))) else if t=16 then some (.fn (aI (cmpP (a1,a2) (b1,b2)))) else none) (by kernel_rfl) (by kernel_rfl) (by simp) ?_
 simp
 exact⟨h1,h2,h3⟩
theorem pipesC_fn (a b:PortP×PortP):CallFn Tryz.prog 101 [.record (encPipe a),.record (encPipe b)] (aI (cmpPP a b)):=by
 obtain⟨⟨a1,a2⟩,a3,a4⟩:=a
 obtain⟨⟨b1,b2⟩,b3,b4⟩:=b
 have h1:=compareC_fn (a1,a2) (b1,b2)
 have h2:=compareC_fn (a3,a4) (b3,b4)
 have h3:=cmpOr_fn (cmpP (a1,a2) (b1,b2)) (cmpP (a3,a4) (b3,b4))
 refine callFz_of Tryz.func101 rfl Tryz.ntmps101 (rs:=[.tmp 4]) rfl (by kernel_rfl) (by simp) (by kernel_rfl) ?_
 simp
 refine V.drawX (fun t=>if t=9 then some (.fn (aI (cmpP (a1,a2) (b1,b2)))) else if t=14 then some (.fn (aI (cmpP (a3,a4) (b3,b4)))) else if t=16 then some (.fn (aI (cmpPP ((a1,a2),a3,a4) ((b1,b2),b3,b4)))) else none) (by kernel_rfl) (by kernel_rfl) (by simp) ?_
 simp
 exact⟨h1,h2,h3⟩
theorem owner_fn (ps:List Made) (l:List (PortP×PortP)) (p:Made) (q:List UInt8) (x:UInt8) (hx:Sh ps) (hq:q.length<=1000) (hn:p.name=q++[x]) (h01:x=48∨x=49) (i:Nat) (y:Made)
  (hf:ps.findIdx? (fun p=>p.name==q)=some i) (hi:ps[i]?=some y) (hy:y.kind=1):CallFn Tryz.prog 99 [aCirc (ps,l),.record (encPart p)] (aI i):=by
 have hfi:=findC_fn ps l q hx
 rw[hf]at hfi
 have c0:=cutSuf_fn q x 48 hq
 have c1:=cutSuf_fn q x 49 hq
 obtain⟨hil,hi1⟩:=List.getElem?_eq_some_iff.1 hi
 rw[<- hn]at c0 c1
 refine callFz_of Tryz.func99 rfl Tryz.ntmps99 (rs:=[.tmp 4]) rfl (by kernel_rfl) (by simp) (by kernel_rfl) ?_
 simp
 refine c0.s ?_
 rcases h01 with rfl | rfl
 ·simp
  refine hfi.s ?_
  simp[hi1,hil,hy]
 ·simp
  refine c1.s ?_
  simp
  refine hfi.s ?_
  simp[hi1,hil,hy]
theorem indexed_fn (ps:List Made) (l:List (PortP×PortP)) (a b:PortP) (hx:Sh ps) (ha:a.1<ps.length) (hb:b.1<ps.length):CallFn Tryz.prog 92 [aCirc (ps,l),.dat (.sl [encPort a,encPort b])] (aI 0):=by
 refine callFz_of Tryz.func92 rfl Tryz.ntmps92 (rs:=[.tmp 4]) rfl (by kernel_rfl) (by simp) (by kernel_rfl) ?_
 simp
 refine V.forI (σ:=Unit) 2 [2,7,8] (by simp;exact rfl) (fun i _=>[(4,aI 0),(9,aI i)]) (fun _ _=>[]) (fun _ _=>True) () trivial (by simp) ⟨by simp;exact rfl,by simp⟩ ?_ ?_
 ·rintro i-hi -
  have hc:i=0∨i=1:=by omega
  rcases hc with rfl | rfl
  ·simp
   omega
  ·simp
   omega
 ·rintro - -
  simp
def PortB (ps:List Made) (q:PortP):Prop:=∃p:Made,∃k:Nat,ps[q.1]?=some p∧p.kind=k∧k<14∧q.2∈(rowTs k).flatten
theorem port_calls (p:Made) {k:Nat}(v:List UInt8) (h2:p.kind=k) (h3:k<14) (h4:v∈(rowTs k).flatten) :
  CallFn Tryz.prog 158 [.record (encPart p)] (aTs (sortT (portT k)))∧CallFn Tryz.prog 157 [aTs (sortT (portT k)),aT v] (aB true):=by
 have hp:=ports_fn k h3 p.name p.delay
 rw[<- h2]at hp
 refine⟨hp,?_⟩
 have hl:(sortT (portT k)).length<=7:=by
  rw[sortT_len,show (portT k).length=(rowTs k).flatten.length from sortT_len _]
  exact (rowTs_sum k h3).2.2.2
 have hc:=containsT_fn (sortT (portT k)) v (by unfold Sh;omega)
 have he:(sortT (portT k)).any (v==·)=true:=List.any_eq_true.2 ⟨v,mem_sortT.2 (mem_sortT.2 h4),by simp⟩
 rwa [he]at hc
theorem exists_fn (ps:List Made) (l:List (PortP×PortP)) (a b:PortP) (hx:Sh ps) (ha:PortB ps a) (hb:PortB ps b):CallFn Tryz.prog 93 [aCirc (ps,l),.dat (.sl [encPort a,encPort b])] (aI 0):=by
 refine callFz_of Tryz.func93 rfl Tryz.ntmps93 (rs:=[.tmp 4]) rfl (by kernel_rfl) (by simp) (by kernel_rfl) ?_
 simp
 refine V.forI (σ:=Unit) 2 [2,7,8] (by simp;exact rfl) (fun i _=>[(4,aI 0),(9,aI i)]) (fun _ _=>[]) (fun _ _=>True) () trivial (by simp) ⟨by simp;exact rfl,by simp⟩ ?_ ?_
 ·rintro i-hi -
  have hc:i=0∨i=1:=by omega
  rcases hc with rfl | rfl
  ·obtain⟨p,k,h1,h2,h3,h4⟩:=ha
   obtain⟨hil,hi1⟩:=List.getElem?_eq_some_iff.1 h1
   obtain⟨hp,hcn⟩:=port_calls p a.2 h2 h3 h4
   simp
   intro b6
   refine V.drawX (fun t=>if t=19 then some (.fn (aTs (sortT (portT k)))) else if t=22 then some (.fn (aB true)) else none) (by kernel_rfl) (by kernel_rfl) (by simp) ?_
   generalize sortT (portT k)=F at *
   simp[hil,hi1]
   exact⟨hp,hcn⟩
  ·obtain⟨p,k,h1,h2,h3,h4⟩:=hb
   obtain⟨hil,hi1⟩:=List.getElem?_eq_some_iff.1 h1
   obtain⟨hp,hcn⟩:=port_calls p b.2 h2 h3 h4
   simp
   intro b6
   refine V.drawX (fun t=>if t=19 then some (.fn (aTs (sortT (portT k)))) else if t=22 then some (.fn (aB true)) else none) (by kernel_rfl) (by kernel_rfl) (by simp) ?_
   generalize sortT (portT k)=F at *
   simp[hil,hi1]
   exact⟨hp,hcn⟩
 ·rintro - -
  simp
def clsL (n:Nat):Int:=if 65<=n∧n<=90 then 1 else if 97<=n∧n<=122 then 1 else if 48<=n∧n<=57 then 2 else if n=95 then 3 else 0
theorem rng_tab:tabF 1=some [.int .u8 65,.int .u8 90,.int .u8 1,.int .u8 97,.int .u8 122,.int .u8 1,.int .u8 48,.int .u8 57,.int .u8 2,.int .u8 95,.int .u8 95,.int .u8 3,.int .u8 32,.int .u8 32,.int .u8 5,.int .u8 10,.int .u8 10,.int .u8 5]:=rfl
theorem class_fn (n:Nat) (hn:n<256) (h:clsL n≠0):CallFn Tryz.prog 234 [.dat (.int .u8 n)] (aI (clsL n)):=by
 refine callFz_of Tryz.func234 rfl Tryz.ntmps234 (rs:=[.tmp 2]) rfl (by kernel_rfl) (by simp) (by kernel_rfl) ?_
 simp
 refine V.forI (σ:=Unit) 6 [0] (by simp;exact rfl) (fun i _=>[(2,aI 0),(5,aI i)]) (fun _ _=>[]) (fun i _=>(1<=i->¬(65<=n∧n<=90))∧(2<=i->¬(97<=n∧n<=122))∧(3<=i->¬(48<=n∧n<=57))∧(4<=i->n≠95)) () (by simp) (by simp) ⟨by simp;exact rfl,by simp⟩ ?_ ?_
 ·rintro i-hi ⟨h1,h2,h3,h4⟩
  have:i=0∨i=1∨i=2∨i=3∨i=4∨i=5:=by omega
  rcases this with rfl | rfl | rfl | rfl | rfl | rfl
  all_goals
   unfold clsL at h
   simp[rng_tab]
   unfold clsL
   simp only[Nat.zero_le,Nat.le_refl,forall_const,Nat.reduceLeDiff]at h1 h2 h3 h4
   refine⟨fun a b=>?_,fun a=>?_⟩
   ·(repeat' split at h)<;>(repeat' split)<;>omega
   ·omega
 ·rintro-⟨h1,h2,h3,h4⟩
  exfalso
  unfold clsL at h
  rw[if_neg (h1 (by omega)),if_neg (h2 (by omega)),if_neg (h3 (by omega)),if_neg (h4 (by omega))]at h
  exact h rfl
def LexB (b:UInt8):Prop:=clsL b.toNat≠0
abbrev cls3:List (List L):=[[.int .i64 1],[.int .i64 2],[.int .i64 3]]
theorem cls_some {n:Nat}(h:clsL n≠0):clsL n=1∨clsL n=2∨clsL n=3:=by
 unfold clsL at h ⊢
 (repeat' split)<;>simp_all
theorem run_fn (s:List UInt8) (hs:s.length<=1000000) (h:∀b∈s,LexB b):CallFn Tryz.prog 235 [aT s,.dat (.sl cls3)] (aI s.length):=by
 refine callFz_of Tryz.func235 rfl Tryz.ntmps235 (rs:=[.tmp 4]) rfl (by kernel_rfl) (by simp) (by kernel_rfl) ?_
 simp
 refine V.forI (σ:=Unit) s.length [0,1,10] (by simp;exact rfl) (fun i _=>[(4,aI 0),(11,aI i)]) (fun _ _=>[]) (fun _ _=>True) () trivial (by simp) ⟨by simp;exact rfl,by simp⟩ ?_ ?_
 ·rintro i-hi -
  obtain⟨b,hb1⟩:∃b,s[i]=b:=⟨_,rfl⟩
  have hbo:s[i]?=some b:=by rw[List.getElem?_eq_getElem hi,hb1]
  have hb:=h b (List.mem_of_getElem? hbo)
  have hcf:=class_fn b.toNat b.toNat_lt hb
  have hc3:=cls_some hb
  generalize clsL b.toNat=k at *
  simp[hi]
  refine V.forI (σ:=Unit) 3 [0,1,4,5,10,11,14,15] (by simp;exact rfl) (fun j _=>[(6,aB (decide (k<=j))),(16,aI j)]) (fun _ _=>[]) (fun _ _=>True) () trivial (by simp;omega) ⟨by simp;exact rfl,by simp⟩ ?_ ?_
  ·rintro j-hj -
   have:j=0∨j=1∨j=2:=by omega
   rcases this with rfl | rfl | rfl
   all_goals
    simp[hbo,hb1,hi]
    refine GCall.fn (aI k) (fun h=>⟨h,hcf⟩) ?_
    simp
    rcases hc3 with rfl | rfl | rfl<;>rfl
  ·rintro - -
   simp
   omega
 ·rintro - -
  simp
structure WordB (s:List UInt8):Prop where
 head:∃b r,s=b::r∧clsL b.toNat=1
 all:∀b∈s,LexB b
 len:s.length<=24
theorem Word_fn (s:List UInt8) (h:WordB s):CallFn Tryz.prog 164 [aT s] (aI 0):=by
 obtain⟨⟨b,r,rfl,hb⟩,ha,hl⟩:=h
 have hcf:=class_fn b.toNat b.toNat_lt (by rw[hb];decide)
 rw[hb]at hcf
 have hrf:=run_fn (b::r) (by omega) ha
 simp at hl hrf
 refine callFz_of Tryz.func164 rfl Tryz.ntmps164 (rs:=[.tmp 2]) rfl (by kernel_rfl) (by simp) (by kernel_rfl) ?_
 simp
 refine GCall.fn (aI 1) (fun _=>⟨trivial,hcf⟩) ?_
 simp
 refine GCall.fn (aI (r.length+1)) (fun _=>⟨trivial,hrf⟩) ?_
 simp
 omega
structure PartB (k:Nat) (name:List UInt8) (d:Int):Prop where
 kind:k<14
 word:WordB name
 delay:(k=12->1<=d∧d<=1000000)∧(k≠12->d=0)
theorem partCheck_fn {k:Nat}{name:List UInt8}{d:Int}(h:PartB k name d):CallFn Tryz.prog 98 [.record [.int .i64 k,.str name,.int .i64 d]] (aI 0):=by
 have hf:=find_fn k h.kind
 have hl:=row_len k h.kind
 have hcell:=row_cell k h.kind
 have hw:=Word_fn name h.word
 obtain⟨d1,d2⟩:=h.delay
 generalize rowOf k=R at *
 refine callFz_cut 2 Tryz.func98 rfl Tryz.ntmps98 (rs:=[.tmp 2]) rfl (by kernel_rfl) (by simp) (by kernel_rfl) ?_
 simp
 refine hf.s ?_
 simp
 intro b3
 refine⟨⟨hl,by omega,fun x hx=>?_⟩,?_⟩
 ·have hx2:=List.all_eq_true.1 hcell x hx
  cases x<;>exact hx2
 ·refine V.cutV [(1,.rptr [.int .i64 k,.str name,.int .i64 d]),(2,aI 0)] (Hs:=[]) (by simp) (by simp) (V.of_vc ?_)
  simp
  refine hw.s ?_
  simp
  by_cases h12:k=12
  ·have:=d1 h12
   have hk:(k:Int)=12:=by omega
   simp[hk]
   omega
  ·have:=d2 h12
   have hk:¬((k:Int)=12):=by omega
   simp[hk,this]
section
structure CircB (ps:List Made) (l:List (PortP×PortP)):Prop where
 few:ps.length<=64
 part:∀p∈ps,∃k:Nat,p.kind=k∧PartB k p.name p.delay
 asc:∀i p q,ps[i]?=some p->ps[i+1]?=some q->ltB p.name q.name=true
 own:∀p∈ps,p.kind=6->∃q x i y,p.name=q++[x]∧(x=48∨x=49)∧ps.findIdx? (fun p=>p.name==q)=some i∧ps[i]?=some y∧y.kind=1
 many:l.length<=256
 ends:∀x∈l,PortB ps x.1∧PortB ps x.2
 dir:∀x∈l,beforeP x.1 x.2=true
 ord:∀i x y,l[i]?=some x->l[i+1]?=some y->earlierP x y=true
abbrev ckB (ps:List Made) (l:List (PortP×PortP)):List L:=[.sl (ps.map encPart),.sl (l.map encPipe)]
variable {ps:List Made}{l:List (PortP×PortP)}
theorem ck_part {Q:PostQ}(hB:CircB ps l) {i:Nat}(hi:i<ps.length)
  (hQ:∀E' H',(∀z∈[(2,aI 0),(19,aI (i+1:Nat))],wk (E' z.1) z.2)->(∀z∈[(1,A.rptr (ckB ps l)),(17,.dat (.sl (ps.map encPart))),(18,aI ps.length)],E' z.1=z.2)->Q .normal E' H') :
  vcC ⟨Tryz.prog,none,115⟩ (loopC Tryz.f49 0) (hdE [(1,.rptr (ckB ps l)),(17,.dat (.sl (ps.map encPart))),(18,aI ps.length)] [(2,aI 0),(19,aI i)]) [] Q:=by
 obtain⟨p,hp⟩:∃p,ps[i]=p:=⟨_,rfl⟩
 have hpo:ps[i]?=some p:=by rw[List.getElem?_eq_getElem hi,hp]
 obtain⟨k,hk,hpb⟩:=hB.part p (List.mem_of_getElem? hpo)
 have hc:=partCheck_fn hpb
 rw[<- hk]at hc
 have hfew:=hB.few
 refine vc_part rfl ?_
 cases i with
 | zero=>
  simp[hi,hp,ckB]
  intro b4
  refine hc.s ?_
  simp
  refine V.drawX (fun t=>none) (by kernel_rfl) (by kernel_rfl) (by simp) ?_
  simp[hpo,hi,hp]
  exact hQ _ _ (by simp) (by simp)
 | succ i=>
  obtain⟨q,hq⟩:∃q,ps[i]=q:=⟨_,rfl⟩
  have hqo:ps[i]?=some q:=by rw[List.getElem?_eq_getElem (by omega),hq]
  have hlt:=hB.asc i q p hqo hpo
  have hlt2:Op.bytesLess p.name q.name=false:=ltB_asymm hlt
  have hne:¬(p.name=q.name):=fun e=>by rw[e,ltB_irrefl]at hlt;cases hlt
  simp[hi,hp,ckB]
  refine⟨fun _=>⟨⟨by omega,by omega⟩,fun b4=>?_⟩,fun h=>absurd h (by omega)⟩
  refine hc.s ?_
  simp
  refine V.drawX (fun t=>none) (by kernel_rfl) (by kernel_rfl) (by simp) ?_
  simp[hqo,hq,show i<ps.length by omega,hlt2,hne]
  exact⟨by omega,by omega,hQ _ _ (by simp) (by simp)⟩
theorem ck_lim {Q:PostQ}(hB:CircB ps l) {i:Nat}(hi:i<ps.length)
  (hQ:∀E' H',(∀z∈[(2,aI 0),(47,aI (i+1:Nat))],wk (E' z.1) z.2)->(∀z∈[(1,A.rptr (ckB ps l)),(45,.dat (.sl (ps.map encPart))),(46,aI ps.length)],E' z.1=z.2)->Q .normal E' H') :
  vcC ⟨Tryz.prog,none,115⟩ (loopC Tryz.f49 1) (hdE [(1,.rptr (ckB ps l)),(45,.dat (.sl (ps.map encPart))),(46,aI ps.length)] [(2,aI 0),(47,aI i)]) [] Q:=by
 obtain⟨p,hp⟩:∃p,ps[i]=p:=⟨_,rfl⟩
 have hpo:ps[i]?=some p:=by rw[List.getElem?_eq_getElem hi,hp]
 obtain⟨k,hk,hpb⟩:=hB.part p (List.mem_of_getElem? hpo)
 have hfew:=hB.few
 refine vc_part rfl ?_
 by_cases h6:p.kind=6
 ·obtain⟨q,x,j,y,o1,o2,o3,o4,o5⟩:=hB.own p (List.mem_of_getElem? hpo) h6
  have hq:q.length<=1000:=by
   have:=hpb.word.len
   rw[o1]at this
   simp at this
   omega
  have ho:=owner_fn ps l p q x (by unfold Sh;omega) hq o1 o2 j y o3 o4 o5
  rw[show encPart p=[L.int .i64 6,.str p.name,.int .i64 p.delay] by simp[h6]]at ho
  simp[hi,hp,ckB]
  intro b7
  simp[h6]
  refine GCall.fn (aI j) (fun _=>⟨trivial,ho⟩) ?_
  simp
  exact⟨by omega,by omega,hQ _ _ (by simp) (by simp)⟩
 ·simp[hi,hp,ckB]
  intro b7
  simp[h6]
  refine GCall.fn .undef (fun h=>absurd h (by simp)) ?_
  simp
  exact⟨by omega,by omega,hQ _ _ (by simp) (by simp)⟩
theorem ck_pipe {Q:PostQ}(hB:CircB ps l) {i:Nat}(hi:i<l.length)
  (hQ:∀E' H',(∀z∈[(2,aI 0),(68,aI (i+1:Nat))],wk (E' z.1) z.2)->(∀z∈[(1,A.rptr (ckB ps l)),(66,.dat (.sl (l.map encPipe))),(67,aI l.length)],E' z.1=z.2)->Q .normal E' H') :
  vcC ⟨Tryz.prog,none,115⟩ (loopC Tryz.f49 2) (hdE [(1,.rptr (ckB ps l)),(66,.dat (.sl (l.map encPipe))),(67,aI l.length)] [(2,aI 0),(68,aI i)]) [] Q:=by
 obtain⟨x,hx⟩:∃x,l[i]=x:=⟨_,rfl⟩
 have hxo:l[i]?=some x:=by rw[List.getElem?_eq_getElem hi,hx]
 have hxm:=List.mem_of_getElem? hxo
 have hfew:=hB.few
 have hmany:=hB.many
 obtain⟨e1,e2⟩:=hB.ends x hxm
 have hsh:Sh ps:=by unfold Sh;omega
 have hl1:x.1.1<ps.length:=by obtain⟨p,k,h1,_⟩:=e1;exact (List.getElem?_eq_some_iff.1 h1).1
 have hl2:x.2.1<ps.length:=by obtain⟨p,k,h1,_⟩:=e2;exact (List.getElem?_eq_some_iff.1 h1).1
 have c1:=indexed_fn ps l x.1 x.2 hsh hl1 hl2
 have c2:=exists_fn ps l x.1 x.2 hsh e1 e2
 have c3:=compareC_fn x.1 x.2
 have hd:=(cmpP_lt x.1 x.2).2 (hB.dir x hxm)
 obtain⟨⟨x1,x2⟩,x3,x4⟩:=x
 simp only at c1 c2 c3 hd hl1 hl2
 generalize cmpP (x1,x2) (x3,x4)=cp at *
 have hd2:¬(0<=cp):=by omega
 refine vc_part rfl ?_
 simp[hi,hx,ckB]
 intro b9
 refine c1.s ?_
 simp
 refine c2.s ?_
 simp
 cases i with
 | zero=>
  refine V.drawX (fun t=>if t=97 then some (.fn (aI cp)) else if t=110 then some (.fn (aI 0)) else none) (by kernel_rfl) (by kernel_rfl) (by simp) ?_
  simp[hxo,hx,hi,hd2]
  exact⟨c3,hQ _ _ (by simp) (by simp)⟩
 | succ i=>
  obtain⟨w,hw⟩:∃w,l[i]=w:=⟨_,rfl⟩
  have hwo:l[i]?=some w:=by rw[List.getElem?_eq_getElem (by omega),hw]
  have c4:=pipesC_fn w ((x1,x2),x3,x4)
  have hlt:=(cmpPP_lt w ((x1,x2),x3,x4)).2 (hB.ord i _ _ hwo hxo)
  generalize cmpPP w ((x1,x2),x3,x4)=cq at *
  have hlt2:¬(0<=cq):=by omega
  obtain⟨⟨w1,w2⟩,w3,w4⟩:=w
  refine V.drawX (fun t=>if t=97 then some (.fn (aI cp)) else if t=110 then some (.fn (aI cq)) else none) (by kernel_rfl) (by kernel_rfl) (by simp) ?_
  simp[hwo,hw,hi,hd2,hlt2,show i<l.length by omega]
  refine⟨c3,by omega,c4,by omega,hQ _ _ (by simp) (by simp)⟩
theorem CircCheck_fn (hB:CircB ps l):CallFn Tryz.prog 49 [aCirc (ps,l)] (aI 0):=by
 have hfew:=hB.few
 have hmany:=hB.many
 refine callFz_cut 3 Tryz.func49 rfl Tryz.ntmps49 (rs:=[.tmp 2]) rfl (by kernel_rfl) (by simp) (by kernel_rfl) ?_
 simp
 refine⟨by omega,fun _=>?_⟩
 refine V.forI (σ:=Unit) ps.length [1,17,18] (by simp;exact rfl) (fun i _=>[(2,aI 0),(19,aI i)]) (fun _ _=>[]) (fun _ _=>True) () trivial (by simp) ⟨by simp;exact rfl,by simp⟩ ?_ ?_
 ·rintro i-hi -
  exact vc_of_part rfl (ck_part hB hi fun E' H' q1 q2=>⟨(),trivial,q1,q2,by simp⟩)
 ·rintro - -
  simp
  refine V.cutV [(1,.rptr (ckB ps l)),(2,aI 0)] (Hs:=[]) (by simp) (by simp) (V.of_vcN 1 ?_)
  simp
  refine V.forI (σ:=Unit) ps.length [1,45,46] (by simp;exact rfl) (fun i _=>[(2,aI 0),(47,aI i)]) (fun _ _=>[]) (fun _ _=>True) () trivial (by simp) ⟨by simp;exact rfl,by simp⟩ ?_ ?_
  ·rintro i-hi -
   exact vc_of_part rfl (ck_lim hB hi fun E' H' q1 q2=>⟨(),trivial,q1,q2,by simp⟩)
  ·rintro - -
   simp
   refine V.cutV [(1,.rptr (ckB ps l)),(2,aI 0)] (Hs:=[]) (by simp) (by simp) (V.of_vcN 2 ?_)
   simp
   refine⟨by omega,fun _=>?_⟩
   refine V.forI (σ:=Unit) l.length [1,66,67] (by simp;exact rfl) (fun i _=>[(2,aI 0),(68,aI i)]) (fun _ _=>[]) (fun _ _=>True) () trivial (by simp) ⟨by simp;exact rfl,by simp⟩ ?_ ?_
   ·rintro i-hi -
    exact vc_of_part rfl (ck_pipe hB hi fun E' H' q1 q2=>⟨(),trivial,q1,q2,by simp⟩)
   ·rintro - -
    simp
    refine V.of_vc ?_
    simp
end
def wordR:List UInt8->Bool
 | []=>false
 | b::r=>clsL b.toNat==1&&(b::r).all (fun b=>clsL b.toNat != 0)&&decide ((b::r).length<=24)
theorem wordR_ok {s:List UInt8}(h:wordR s=true):WordB s:=by
 cases s with
 | nil=>cases h
 | cons b r=>
  simp only[wordR,Bool.and_eq_true,beq_iff_eq,decide_eq_true_eq,List.all_eq_true]at h
  exact⟨⟨b,r,rfl,h.1.1⟩,fun c hc=>by have:=h.1.2 c hc;unfold LexB;simpa using this,h.2⟩
def partR (p:Made):Bool:=decide (0<=p.kind∧p.kind<14)&&wordR p.name&&decide ((p.kind=12->1<=p.delay∧p.delay<=1000000)∧(p.kind≠12->p.delay=0))
def ascR {α:Type}(lt:α->α->Bool):List α->Bool
 | a::b::r=>lt a b&&ascR lt (b::r)
 | _=>true
theorem ascR_at {α:Type}{lt:α->α->Bool}:∀ {l:List α},ascR lt l=true->∀i x y,l[i]?=some x->l[i+1]?=some y->lt x y=true
 | a::b::r,h,0,x,y,hx,hy=>by
  simp only[ascR,Bool.and_eq_true]at h
  simp at hx hy
  rw[<- hx,<- hy]
  exact h.1
 | a::b::r,h,i+1,x,y,hx,hy=>by
  simp only[ascR,Bool.and_eq_true]at h
  exact ascR_at h.2 i x y (by simpa using hx) (by simpa using hy)
 | [_],_,i,x,y,_,hy=>by simp at hy
 | [],_,i,x,y,_,hy=>by simp at hy
def ownRJ (ps:List Made) (p:Made):Bool:=decide (p.kind≠6)||(match p.name.getLast? with
 | some x=>(x==48||x==49)&&(match ps.findIdx? (fun q=>q.name==p.name.dropLast) with
  | some i=>(match ps[i]? with
   | some y=>decide (y.kind=1)
   | none=>false)
  | none=>false)
 | none=>false)
def portRR (ps:List Made) (q:PortP):Bool:=match ps[q.1]? with
 | some p=>decide (0<=p.kind)&&decide (p.kind.toNat<14)&&(rowTs p.kind.toNat).flatten.contains q.2
 | none=>false
def circR (ps:List Made) (l:List (PortP×PortP)):Bool:=
 decide (ps.length<=64)&&ps.all partR&&ascR (fun p q=>ltB p.name q.name) ps&&ps.all (ownRJ ps)&&decide (l.length<=256)&&l.all (fun x=>portRR ps x.1&&portRR ps x.2&&beforeP x.1 x.2)&&ascR earlierP l
theorem portRR_ok {ps:List Made}{q:PortP}(h:portRR ps q=true):PortB ps q:=by
 unfold portRR at h
 cases e:ps[q.1]? with
 | none=>rw[e]at h;cases h
 | some p=>
  rw[e]at h
  simp only[Bool.and_eq_true,decide_eq_true_eq,List.contains_iff_mem]at h
  exact⟨p,p.kind.toNat,e,by omega,h.1.2,h.2⟩
theorem circR_ok {ps:List Made}{l:List (PortP×PortP)}(h:circR ps l=true):CircB ps l:=by
 simp only[circR,Bool.and_eq_true,decide_eq_true_eq,List.all_eq_true]at h
 obtain⟨⟨⟨⟨⟨⟨h1,h2⟩,h3⟩,h4⟩,h5⟩,h6⟩,h7⟩:=h
 refine⟨h1,fun p hp=>?_,ascR_at h3,fun p hp hk=>?_,h5,fun x hx=>⟨portRR_ok (h6 x hx).1.1,portRR_ok (h6 x hx).1.2⟩,fun x hx=>(h6 x hx).2,ascR_at h7⟩
 ·have:=h2 p hp
  simp only[partR,Bool.and_eq_true,decide_eq_true_eq]at this
  obtain⟨⟨k,w⟩,d1,d2⟩:=this
  exact⟨p.kind.toNat,by omega,by omega,wordR_ok w,fun e=>d1 (by omega),fun e=>d2 (by omega)⟩
 ·have:=h4 p hp
  unfold ownRJ at this
  simp only[hk,ne_eq,not_true_eq_false,decide_false,Bool.false_or]at this
  cases e1:p.name.getLast? with
  | none=>rw[e1]at this;cases this
  | some x=>
   rw[e1]at this
   simp only[Bool.and_eq_true,Bool.or_eq_true,beq_iff_eq]at this
   obtain⟨t1,t2⟩:=this
   cases e2:ps.findIdx? (fun q=>q.name==p.name.dropLast) with
   | none=>rw[e2]at t2;cases t2
   | some i=>
    rw[e2]at t2
    dsimp only at t2
    cases e3:ps[i]? with
    | none=>rw[e3]at t2;cases t2
    | some y=>
     rw[e3]at t2
     refine⟨p.name.dropLast,x,i,y,?_,t1,e2,e3,by simpa using t2⟩
     rw[List.getLast?_eq_some_iff]at e1
     obtain⟨ys,hy⟩:=e1
     rw[hy]
     simp
def startS:State:=⟨[0],[false],[true],[false,true],[0,0]⟩
theorem back_circ:circR (circuitQ backC).1.1 (circuitQ backC).1.2=true:=by decide +kernel
theorem back_err:(circuitQ backC).2=0:=by decide +kernel
theorem back_names:(circuitQ backC).1.1.map Made.name=[[65],[65,48],[65,49],[77,48],[78,48],[80,49],[83],[86,65],[115,116,97,114,116]]:=by decide +kernel
theorem back_p3:portQ37 backC 3=((3,[52]),true,0):=by decide +kernel
theorem back_p4:portQ37 backC 4=((4,[50]),true,0):=by decide +kernel
theorem back_parts:partsQ37 backC 3=([3,5],0):=by decide +kernel
theorem back_count:countR backC=(9,0):=by unfold countR;rw[backC_check,backC_count];rfl
theorem back_pos:posQ37 backC startS=([0,1,0,0,0,0,0,0,1],0):=by decide +kernel
section
section
variable {c:Control}{b2 b3:Nat}
end
end
section
section
variable {c:Control}{b2 b3:Nat}
end
end

section
section
variable {d:Dr}{b2 b4:Nat}
end
end

section
section
variable {c:Control}{u:State}
structure PlOK (c:Control) (u:State):Prop where
 ok:OkC c
 sm:SmS u
 rt:rightC c u=0
theorem in_name {i:Nat}(hi:i<c.inputs.length) (h0:0<=c.actuators):namedC c ((2*c.actuators.toNat+i:Nat):Int)=c.inputs[i]:=by
 unfold namedC
 rw[if_neg (by omega),if_pos (by unfold firstC;omega),show (((2*c.actuators.toNat+i:Nat):Int)-2*c.actuators).toNat=i by omega,List.getD_eq_getElem?_getD,List.getElem?_eq_getElem hi]
 rfl
theorem in_small (hc:checkC c=0) {i:Nat}(hi:i<c.inputs.length):∃b r,c.inputs[i]=b::r∧97<=b.toNat∧b.toNat<=122∧c.inputs[i].length<=24:=by
 obtain⟨b,r,e,h1,h2⟩:=word_head (ins_word hc _ (List.getElem_mem hi))
 obtain⟨_,_,h3,_,_⟩:=chk_parts hc
 have h4:=h3 i hi
 unfold inpE at h4
 rw[in_name hi (by have:=(okR_of hc).act;omega)]at h4
 exact⟨b,r,e,h1,h2,(name_parts h4).2.1⟩
end
end
section
theorem numT_dig:∀(n:Nat) (b:UInt8),b∈numT n->clsL b.toNat=2:=by
 intro n
 induction n using Nat.strongRecOn with
 | ind n ih=>
  intro b hb
  have key:∀d,d<10->clsL (UInt8.ofNat (48+d)).toNat=2:=fun d hd=>by
   have:d=0∨d=1∨d=2∨d=3∨d=4∨d=5∨d=6∨d=7∨d=8∨d=9:=by omega
   rcases this with rfl | rfl | rfl | rfl | rfl | rfl | rfl | rfl | rfl | rfl<;>decide
  unfold numT at hb
  rw[Go.Lib.decDigits]at hb
  split at hb
  ·rename_i h
   rw[List.mem_singleton.1 hb]
   exact key n h
  ·rcases List.mem_append.1 hb with hb | hb
   ·exact ih (n / 10) (by omega) b hb
   ·rw[List.mem_singleton.1 hb]
    exact key _ (Nat.mod_lt _ (by omega))
theorem numT_short:∀(k n:Nat),n<10 ^ (k+1)->(numT n).length<=k+1
 | 0,n,h=>by
  unfold numT
  rw[Go.Lib.decDigits,dif_pos (by omega)]
  simp
 | k+1,n,h=>by
  unfold numT
  rw[Go.Lib.decDigits]
  split
  ·simp
  ·have:=numT_short k (n / 10) (by rw[Nat.pow_succ]at h;omega)
   unfold numT at this
   rw[List.length_append,List.length_singleton]
   omega
theorem lnum_word {l:UInt8}(hl:clsL l.toNat=1) {n:Nat}(hn:n<10 ^ 20):WordB (l::numT n):=by
 refine⟨⟨l,_,rfl,hl⟩,fun b hb=>?_,?_⟩
 ·unfold LexB
  rcases List.mem_cons.1 hb with rfl | hb
  ·rw[hl];decide
  ·rw[numT_dig n b hb];decide
 ·have:=numT_short 19 n hn
  rw[List.length_cons]
  omega
theorem mach_words:∀n,n<=6->([83]::actN n).all wordR=true:=by
 intro n hn
 have:n=0∨n=1∨n=2∨n=3∨n=4∨n=5∨n=6:=by omega
 rcases this with rfl | rfl | rfl | rfl | rfl | rfl | rfl<;>decide
variable {c:Control}
theorem in_word (hc:checkC c=0) {s:List UInt8}(hs:s∈c.inputs):WordB s:=by
 obtain⟨i,hi,rfl⟩:=List.getElem_of_mem hs
 obtain⟨b,r,e,h1,h2,h3⟩:=in_small hc hi
 have hw:=ins_word hc _ (List.getElem_mem hi)
 refine⟨⟨b,r,e,?_⟩,fun x hx=>?_,h3⟩
 ·unfold clsL
  rw[if_neg (by omega),if_pos ⟨h1,h2⟩]
 ·rw[e]at hw hx
  simp only[wordS,Bool.not_eq_false,ne_eq,Bool.and_eq_true,decide_eq_true_eq,List.all_eq_true]at hw
  have:=hw.2 x hx
  simp only[partB,Bool.or_eq_true,Bool.and_eq_true,decide_eq_true_eq,beq_iff_eq]at this
  unfold LexB clsL
  repeat' split
  all_goals first | decide | omega
theorem whole_nm (h:checkC c=0):NmOK ((machineM c).parts.map Made.name) (wholeM c) c.signals.length:=by
 obtain⟨hB,h0⟩:=machine_ok h
 have h1:∀n,NmOK ((machineM c).parts.map Made.name) ((List.range n).foldl (gateM c) (machineM c)) 0:=by
  intro n
  induction n with
  | zero=>exact h0
  | succ n ih=>
   rw[List.range_succ,List.foldl_append]
   exact gateM_names hB ih n
 have h2:∀n,NmOK ((machineM c).parts.map Made.name) ((List.range n).foldl (sigM c) ((List.range c.signals.length).foldl (gateM c) (machineM c))) n:=by
  intro n
  induction n with
  | zero=>exact h1 _
  | succ n ih=>
   rw[List.range_succ,List.foldl_append]
   exact sigM_names hB ih
 have h3:∀n,NmOK ((machineM c).parts.map Made.name) ((List.range n).foldl (pilM c) ((List.range c.signals.length).foldl (sigM c) ((List.range c.signals.length).foldl (gateM c) (machineM c)))) c.signals.length:=by
  intro n
  induction n with
  | zero=>exact h2 _
  | succ n ih=>
   rw[List.range_succ,List.foldl_append]
   exact pilM_names ih n
 exact h3 _
theorem whole_num (hc:checkC c=0):(wholeM c).number<=60000:=by
 have hR:=okR_of hc
 have hlen:=hR.len
 have f0:=few_start hR
 have f1:=few_gates hR f0 c.signals.length (Nat.le_refl _)
 have f2:=few_sigs hR f1 c.signals.length
 have e:(wholeM c).number=((List.range c.signals.length).foldl (sigM c) ((List.range c.signals.length).foldl (gateM c) (machineM c))).number:=fold_num (f:=pilM c) (fun _ _=>rfl) _ _
 rw[e]
 have:=f2.2
 omega
theorem whole_word (hc:checkC c=0) {s:List UInt8}(hs:s∈(wholeM c).parts.map Made.name):WordB s:=by
 have hact:=(fine_of hc).act
 have hsl:=(fine_of hc).sig
 rcases (whole_nm hc).cls s hs with h | ⟨l,i,h1,h2,rfl⟩|⟨l,j,h1,h2,rfl⟩
 ·rw[machine_names]at h
  have h2:s∈([83]::actN c.actuators.toNat)∨s∈c.inputs:=by
   rcases List.mem_cons.1 h with h | h
   ·exact .inl (by rw[h];simp)
   ·rcases List.mem_append.1 h with h | h
    ·exact .inl (List.mem_cons_of_mem _ h)
    ·exact .inr h
  rcases h2 with h2 | h2
  ·exact wordR_ok (List.all_eq_true.1 (mach_words c.actuators.toNat (by omega)) s h2)
  ·exact in_word hc h2
 ·exact lnum_word (by rcases h1 with rfl | rfl<;>decide) (by omega)
 ·have:=whole_num hc
  exact lnum_word (by rcases h1 with rfl | rfl | rfl<;>decide) (by omega)
end
section
variable {c:Control}
theorem name_inj {ps:List Made}(hn:(ps.map Made.name).Nodup) {p q:Made}(hp:p∈ps) (hq:q∈ps) (h:p.name=q.name):p=q:=by
 obtain⟨i,hi,rfl⟩:=List.getElem_of_mem hp
 obtain⟨j,hj,rfl⟩:=List.getElem_of_mem hq
 rw[List.Nodup,List.pairwise_iff_getElem]at hn
 rcases Nat.lt_trichotomy i j with hl | rfl | hl
 ·exact absurd (by rw[List.getElem_map,List.getElem_map];exact h) (hn i j (by simpa using hi) (by simpa using hj) hl)
 ·rfl
 ·exact absurd (by rw[List.getElem_map,List.getElem_map];exact h.symm) (hn j i (by simpa using hj) (by simpa using hi) hl)
theorem outs_row:∀k,k<14->∀s∈outsK (k:Nat),s∈(rowTs k).flatten:=by
 refine cat_cases ⟨?_,?_,?_,?_,?_,?_,?_,?_,?_,?_,?_,?_,?_,?_⟩
 all_goals decide
theorem ins_row:∀k,k<14->∀s∈insK (k:Nat),s∈(rowTs k).flatten:=by
 refine cat_cases ⟨?_,?_,?_,?_,?_,?_,?_,?_,?_,?_,?_,?_,?_,?_⟩
 all_goals decide
theorem outs_ins:∀k,k<14->∀s∈outsK (k:Nat),s∉insK (k:Nat):=by
 refine cat_cases ⟨?_,?_,?_,?_,?_,?_,?_,?_,?_,?_,?_,?_,?_,?_⟩
 all_goals decide
theorem dM_names (hc:checkC c=0):((dM c).parts.map Made.name).Nodup:=((dM_perm hc).map Made.name).nodup_iff.2 (whole_names hc)
theorem dM_k (hc:checkC c=0) {p:Made}(hp:p∈(dM c).parts):GearK c p:=whole_k hc p ((sortB_perm byName _).mem_iff.1 hp)
theorem dM_w (hc:checkC c=0) {p:Made}:p∈(dM c).parts↔p∈(wholeM c).parts:=(dM_perm hc).mem_iff
theorem gear_part (hc:checkC c=0) {p:Made}(h:GearK c p):∃k:Nat,p.kind=k∧k<14∧(k=12->1<=p.delay∧p.delay<=1000000)∧(k≠12->p.delay=0):=by
 cases h with
 | tim i x hx hk=>
  have hf:=fine_of hc
  have h:=sig_parts (hf.sigs i x hx)
  exact⟨12,rfl,by decide,fun _=>(h.2.2.2.2.2 hk).1,fun h=>absurd rfl h⟩
 | sup=>exact⟨0,rfl,by decide,fun h=>absurd h (by decide),fun _=>rfl⟩
 | cyl=>exact⟨1,rfl,by decide,fun h=>absurd h (by decide),fun _=>rfl⟩
 | lim0=>exact⟨6,rfl,by decide,fun h=>absurd h (by decide),fun _=>rfl⟩
 | lim1=>exact⟨6,rfl,by decide,fun h=>absurd h (by decide),fun _=>rfl⟩
 | val=>exact⟨2,rfl,by decide,fun h=>absurd h (by decide),fun _=>rfl⟩
 | but=>exact⟨7,rfl,by decide,fun h=>absurd h (by decide),fun _=>rfl⟩
 | mem=>exact⟨2,rfl,by decide,fun h=>absurd h (by decide),fun _=>rfl⟩
 | inv=>exact⟨5,rfl,by decide,fun h=>absurd h (by decide),fun _=>rfl⟩
 | twin=>exact⟨9,rfl,by decide,fun h=>absurd h (by decide),fun _=>rfl⟩
 | shut=>exact⟨8,rfl,by decide,fun h=>absurd h (by decide),fun _=>rfl⟩
theorem pos_at (hc:checkC c=0) {k:Int}{t:List UInt8}(h:(k,t)∈(wholeM c).parts.map knOf):∃p:Made,(dM c).parts[posL (dM c).parts t]?=some p∧p.kind=k∧p.name=t∧(dM c).parts.findIdx? (fun p=>p.name==t)=some (posL (dM c).parts t):=by
 obtain⟨p,hp,e⟩:=List.mem_map.1 h
 have hp2:=(dM_w hc).2 hp
 have hk:p.kind=k:=congrArg Prod.fst e
 have hn:p.name=t:=congrArg Prod.snd e
 have hs:=seek_pos (dM_sorted c) (dM_names hc) (List.mem_map.2 ⟨p,hp2,hn⟩)
 have hs2:=hs
 unfold seekL at hs2
 rw[List.findIdx?_eq_some_iff_getElem]at hs2
 obtain⟨hl,h1,_⟩:=hs2
 have h1:(dM c).parts[posL (dM c).parts t].name=t:=by simpa using h1
 have:=name_inj (dM_names hc) (List.getElem_mem hl) hp2 (h1.trans hn.symm)
 refine⟨p,?_,hk,hn,hs⟩
 rw[List.getElem?_eq_getElem hl,this]
theorem out_port (hc:checkC c=0) {q:Pin}(h:OutP ((wholeM c).parts.map knOf) q):PortB (dM c).parts (portL (dM c).parts q):=by
 obtain⟨k,h1,h2⟩:=h
 obtain⟨p,p1,p2,p3,_⟩:=pos_at hc h1
 obtain⟨n,n1,n2,_⟩:=gear_part hc (dM_k hc (List.mem_of_getElem? p1))
 exact⟨p,n,p1,n1,n2,outs_row n n2 _ (by rw[<- n1,p2];exact h2)⟩
theorem in_port (hc:checkC c=0) {q:Pin}(h:InP ((wholeM c).parts.map knOf) q):PortB (dM c).parts (portL (dM c).parts q):=by
 obtain⟨k,h1,h2⟩:=h
 obtain⟨p,p1,p2,p3,_⟩:=pos_at hc h1
 obtain⟨n,n1,n2,_⟩:=gear_part hc (dM_k hc (List.mem_of_getElem? p1))
 exact⟨p,n,p1,n1,n2,ins_row n n2 _ (by rw[<- n1,p2];exact h2)⟩
theorem portL_inj (hc:checkC c=0) {p q:Pin}{k l:Int}(hp:(k,p.part)∈(wholeM c).parts.map knOf) (hq:(l,q.part)∈(wholeM c).parts.map knOf) (h:portL (dM c).parts p=portL (dM c).parts q):p=q:=by
 obtain⟨a,a1,a2,a3,_⟩:=pos_at hc hp
 obtain⟨b,b1,b2,b3,_⟩:=pos_at hc hq
 have h1:posL (dM c).parts p.part=posL (dM c).parts q.part:=congrArg Prod.fst h
 have h2:p.port=q.port:=congrArg Prod.snd h
 rw[h1,b1]at a1
 obtain rfl:=Option.some.inj a1
 obtain⟨p1,p2⟩:=p
 obtain⟨q1,q2⟩:=q
 simp only at a3 b3 h2
 rw[<- a3,<- b3,h2]
theorem out_not_in (hc:checkC c=0) {p:Pin}(h:OutP ((wholeM c).parts.map knOf) p):¬InP ((wholeM c).parts.map knOf) p:=by
 rintro⟨l,l1,l2⟩
 obtain⟨k,k1,k2⟩:=h
 obtain⟨a,a1,a2,_,_⟩:=pos_at hc k1
 obtain⟨b,b1,b2,_,_⟩:=pos_at hc l1
 rw[a1]at b1
 obtain rfl:=Option.some.inj b1
 obtain⟨n,n1,n2,_⟩:=gear_part hc (dM_k hc (List.mem_of_getElem? a1))
 exact outs_ins n n2 _ (by rw[<- n1,a2];exact k2) (by rw[<- n1,b2];exact l2)
theorem pipeN_dir {a b:PortP}(h:a≠b):beforeP (pipeN a b).1 (pipeN a b).2=true:=by
 unfold pipeN
 cases e:beforeP b a with
 | true=>simpa using e
 | false=>
  cases e2:beforeP a b with
  | true=>simpa using e2
  | false=>exact absurd (before_tot.tot _ _ e2 e) h
theorem pipeN_cases (a b:PortP):pipeN a b=(a,b)∨pipeN a b=(b,a):=by
 unfold pipeN
 split
 ·exact .inr rfl
 ·exact .inl rfl
theorem circ_right (hc:checkC c=0) (hm:manyM (dM c)=false):CircB (dM c).parts (pipesM (dM c)):=by
 have hact:=(fine_of hc).act
 obtain⟨hj,hgate⟩:=whole_t (inC_of hc)
 have hcons:=(whole_tak hc).nod
 have hN:=dM_names hc
 have hS:=dM_sorted c
 have hF:=whole_fullT (c:=c) (by omega)
 unfold manyM at hm
 simp only[Bool.or_eq_false_iff,decide_eq_false_iff_not]at hm
 have hmem:∀x∈pipesM (dM c),∃j∈(wholeM c).joins,x=pipeN (portL (dM c).parts j.1) (portL (dM c).parts j.2):=by
  intro x hx
  unfold pipesM at hx
  obtain⟨j,h1,h2⟩:=List.mem_map.1 ((sortB_perm earlierP _).mem_iff.1 hx)
  exact⟨j,h1,h2.symm⟩
 refine⟨Nat.le_of_not_lt hm.1,fun p hp=>?_,fun i p q hp hq=>?_,fun p hp h6=>?_,?_,fun x hx=>?_,fun x hx=>?_,fun i x y hx hy=>?_⟩
 ·obtain⟨k,k1,k2,k3⟩:=gear_part hc (dM_k hc hp)
  exact⟨k,k1,k2,whole_word hc (List.mem_map.2 ⟨p,(dM_w hc).1 hp,rfl⟩),k3⟩
 ·obtain⟨h1,e1⟩:=List.getElem?_eq_some_iff.1 hp
  obtain⟨h2,e2⟩:=List.getElem?_eq_some_iff.1 hq
  have hb:ltB q.name p.name=false:=by
   have:=List.pairwise_iff_getElem.1 hS i (i+1) h1 h2 (by omega)
   rw[e1,e2]at this
   exact this
  cases e:ltB p.name q.name with
  | true=>rfl
  | false=>
   have hne:=List.pairwise_iff_getElem.1 hN i (i+1) (by simpa using h1) (by simpa using h2) (by omega)
   rw[List.getElem_map,List.getElem_map,e1,e2]at hne
   exact absurd (ltB_total e hb) hne
 ·have hlim:∀(a:Nat) (x:UInt8),(a:Int)<c.actuators->x=48∨x=49->p.name=letterT a++[x]->∃q x i y,p.name=q++[x]∧(x=48∨x=49)∧(dM c).parts.findIdx? (fun p=>p.name==q)=some i∧(dM c).parts[i]?=some y∧y.kind=1:=fun a x ha h01 he=>by
   obtain⟨y,y1,y2,y3,y4⟩:=pos_at hc (hF.act a ha).1
   exact⟨letterT a,x,_,y,he,h01,y4,y1,y2⟩
  have hg:=dM_k hc hp
  cases hg with
  | lim0 a ha=>exact hlim a 48 ha (.inl rfl) rfl
  | lim1 a ha=>exact hlim a 49 ha (.inr rfl) rfl
  | _=>exact absurd h6 (by simp)
 ·have e:(pipesM (dM c)).length=(dM c).joins.length:=by unfold pipesM;rw[(sortB_perm earlierP _).length_eq,List.length_map]
  rw[e]
  exact Nat.le_of_not_lt hm.2
 ·obtain⟨j,j1,rfl⟩:=hmem x hx
  obtain⟨o1,o2⟩:=hj j j1
  have p1:=out_port hc o1
  have p2:=in_port hc o2
  rcases pipeN_cases (portL (dM c).parts j.1) (portL (dM c).parts j.2) with e | e<;>rw[e]
  ·exact⟨p1,p2⟩
  ·exact⟨p2,p1⟩
 ·obtain⟨j,j1,rfl⟩:=hmem x hx
  obtain⟨o1,o2⟩:=hj j j1
  refine pipeN_dir fun e=>?_
  obtain⟨k,k1,_⟩:=o1
  obtain⟨l,l1,_⟩:=o2
  have e2:=portL_inj hc k1 l1 e
  exact out_not_in hc (hj j j1).1 (by rw[e2];exact (hj j j1).2)
 ·have hnod:(pipesM (dM c)).Nodup:=by
   unfold pipesM
   rw[(sortB_perm earlierP _).nodup_iff,List.Nodup,List.pairwise_map]
   have hc2:(wholeM c).joins.Pairwise fun a b=>a.2≠b.2:=List.pairwise_map.1 hcons
   refine List.Pairwise.imp_of_mem (fun {a b} ha hb hne e=>?_) hc2
   obtain⟨a1,a2⟩:=hj a ha
   obtain⟨b1,b2⟩:=hj b hb
   obtain⟨_,ka1,_⟩:=id a1
   obtain⟨_,ka2,_⟩:=id a2
   obtain⟨_,kb1,_⟩:=id b1
   obtain⟨_,kb2,_⟩:=id b2
   have same:portL (dM c).parts a.2=portL (dM c).parts b.2->False:=fun h=>hne (portL_inj hc ka2 kb2 h)
   have cross:portL (dM c).parts a.1=portL (dM c).parts b.2->False:=fun h=>out_not_in hc a1 (by rw[portL_inj hc ka1 kb2 h];exact b2)
   rcases pipeN_cases (portL (dM c).parts a.1) (portL (dM c).parts a.2) with e1 | e1<;>rcases pipeN_cases (portL (dM c).parts b.1) (portL (dM c).parts b.2) with e2 | e2<;>rw[e1,e2]at e
   ·exact same (Prod.mk.inj e).2
   ·exact cross (Prod.mk.inj e).1
   ·exact cross (Prod.mk.inj e).2
   ·exact same (Prod.mk.inj e).1
  obtain⟨h1,e1⟩:=List.getElem?_eq_some_iff.1 hx
  obtain⟨h2,e2⟩:=List.getElem?_eq_some_iff.1 hy
  have hs:=sortB_sorted earlier_tot.ord ((dM c).joins.map fun j=>pipeN (portL (dM c).parts j.1) (portL (dM c).parts j.2))
  have hb:earlierP y x=false:=by
   have:=List.pairwise_iff_getElem.1 hs i (i+1) h1 h2 (by omega)
   rw[<- e1,<- e2]
   exact this
  cases e:earlierP x y with
  | true=>rfl
  | false=>
   have hne:=List.pairwise_iff_getElem.1 hnod i (i+1) h1 h2 (by omega)
   rw[e1,e2]at hne
   exact absurd (earlier_tot.tot _ _ e hb) hne
end
def partZ (p:Made):Prt:=⟨p.kind,p.name,p.delay⟩
def portZ (q:PortP):PortZ:=((q.1:Int),q.2)
def cirOf (ps:List Made) (l:List (PortP×PortP)):Cir:=⟨ps.map partZ,l.map fun x=>(portZ x.1,portZ x.2)⟩
theorem word_zero {s:List UInt8}(h:WordB s):wordE s=0:=by
 obtain⟨⟨b,r,rfl,hb⟩,ha,hl⟩:=h
 unfold wordE
 rw[if_neg,if_neg,if_neg (by omega)]
 ·rw[Bool.not_eq_false,List.all_eq_true]
  intro x hx
  have:=ha x hx
  unfold LexB clsL at this
  unfold innC letC digQ
  simp only[Bool.or_eq_true,decide_eq_true_eq]
  revert this
  split<;>(try split)<;>(try split)<;>(try split)<;>intro this<;>omega
 ·simp only[List.head?_cons,Option.any_some]
  unfold clsL at hb
  unfold letC
  rw[Bool.not_eq_false,Bool.or_eq_true,decide_eq_true_eq,decide_eq_true_eq]
  revert hb
  split<;>(try split)<;>(try split)<;>(try split)<;>intro hb<;>omega
theorem before_zp (a b:PortP):beforeZ (portZ a) (portZ b)=beforeP a b:=by
 unfold beforeZ beforeP lexB portZ
 simp only
 have:decide ((a.1:Int)<b.1)=decide (a.1<b.1):=by rw[decide_eq_decide];omega
 rw[this]
 by_cases e:a.1=b.1
 ·rw[if_pos e,if_pos (by rw[e])]
 ·rw[if_neg e,if_neg (by omega)]
theorem has_row (k:Nat) (hk:k<14) (t:List UInt8) (h:t∈(rowTs k).flatten):hasK k t=true:=(hasK_mem k t).2 ((portsK_perm k hk).mem_iff.1 h)
theorem cirR_circ {ps:List Made}{l:List (PortP×PortP)}(h:CircB ps l):CirR (cirOf ps l):=by
 have hat:∀i:Nat,(ps.map partZ)[i]?=(ps[i]?).map partZ:=fun i=>List.getElem?_map
 have hport:∀q:PortP,PortB ps q->inPort (ps.map partZ) (portZ q)=true∧hasPort (ps.map partZ) (portZ q)=true:=fun q hq=>by
  obtain⟨p,k,h1,h2,h3,h4⟩:=hq
  have hlt:=(List.getElem?_eq_some_iff.1 h1).1
  constructor
  ·unfold inPort portZ
   simp
   omega
  ·unfold hasPort portZ
   simp only[Int.toNat_natCast]
   rw[hat,h1]
   simp only[Option.map_some,Option.any_some,partZ]
   rw[h2,Int.toNat_natCast]
   exact has_row k h3 _ h4
 refine⟨by simpa [cirOf]using h.few,fun p hp=>?_,fun i p q hp hq=>?_,fun p hp hk=>?_,by simpa [cirOf]using h.many,fun x hx=>?_,fun x hx=>?_,fun x hx=>?_⟩
 ·obtain⟨m,hm,rfl⟩:=List.mem_map.1 hp
  obtain⟨k,hk,hw⟩:=h.part m hm
  unfold partE partZ
  simp only
  rw[hk,if_neg (by have:=hw.kind;omega),if_neg (by simp[word_zero hw.word]),if_neg]
  rintro (⟨h1,h2⟩|⟨h1,h2⟩)
  ·have:=hw.delay.1 (by omega)
   omega
  ·exact h2 (hw.delay.2 (by omega))
 ·simp only[cirOf,hat]at hp hq
  obtain⟨a,ha,rfl⟩:=Option.map_eq_some_iff.1 hp
  obtain⟨b,hb,rfl⟩:=Option.map_eq_some_iff.1 hq
  exact h.asc i a b ha hb
 ·obtain⟨m,hm,rfl⟩:=List.mem_map.1 hp
  obtain⟨q,x,i,y,e1,e2,e3,e4,e5⟩:=h.own m hm hk
  unfold ownN partZ
  simp only[cirOf]
  rw[e1]
  have hf:findN (ps.map partZ) q=some i:=by
   unfold findN
   rw[List.findIdx?_map]
   exact e3
  simp only[List.getLast?_append,List.getLast?_singleton,Option.some_or,List.dropLast_concat,hf,hat,e4,Option.map_some,Option.any_some]
  simp[partZ,e5]
  exact e2
 ·obtain⟨z,hz,rfl⟩:=List.mem_map.1 hx
  exact⟨(hport _ (h.ends z hz).1).1,(hport _ (h.ends z hz).2).1⟩
 ·obtain⟨z,hz,rfl⟩:=List.mem_map.1 hx
  exact⟨(hport _ (h.ends z hz).1).2,(hport _ (h.ends z hz).2).2⟩
 ·obtain⟨z,hz,rfl⟩:=List.mem_map.1 hx
  rw[before_zp]
  exact h.dir z hz
theorem portZ_inj {a b:PortP}:portZ a=portZ b↔a=b:=by
 obtain⟨a1,a2⟩:=a
 obtain⟨b1,b2⟩:=b
 simp only[portZ,Prod.mk.injEq,Int.natCast_inj]
theorem earlier_zp (x y:PortP×PortP):earlierZ (portZ x.1,portZ x.2) (portZ y.1,portZ y.2)=earlierP x y:=by
 unfold earlierZ earlierP lexB
 simp only
 rw[before_zp,before_zp]
 by_cases e:x.1=y.1
 ·rw[if_pos e,if_pos (portZ_inj.2 e)]
 ·rw[if_neg e,if_neg (fun h=>e (portZ_inj.1 h))]
theorem cirE_circ {ps:List Made}{l:List (PortP×PortP)}(h:CircB ps l):cirE (cirOf ps l)=0:=by
 have hr:=cirR_circ h
 unfold cirE
 rw[if_neg (by have:=hr.few;omega)]
 have h1:firstE (stepE (cirOf ps l).parts) (cirOf ps l).parts.length=0:=firstE_all _ fun i hi=>by
  have hp:=List.getElem?_eq_getElem hi
  generalize (cirOf ps l).parts[i]=p at hp
  have hpe:=hr.part p (List.mem_of_getElem? hp)
  unfold stepE
  rw[hp]
  simp only
  rw[if_neg (by simp[hpe])]
  cases i with
  | zero=>rfl
  | succ j=>
   have hq:=List.getElem?_eq_getElem (show j<(cirOf ps l).parts.length by omega)
   generalize (cirOf ps l).parts[j]=q at hq
   simp only[hq]
   rw[if_pos (hr.asc j q p hq hp)]
 have h2:firstE (limE (cirOf ps l).parts) (cirOf ps l).parts.length=0:=firstE_all _ fun i hi=>by
  have hp:=List.getElem?_eq_getElem hi
  generalize (cirOf ps l).parts[i]=p at hp
  unfold limE
  rw[hp]
  simp only
  rw[if_neg]
  rintro⟨h6,h7⟩
  rw[hr.own p (List.mem_of_getElem? hp) h6]at h7
  cases h7
 have h3:firstE (pipeE (cirOf ps l)) (cirOf ps l).pipes.length=0:=firstE_all _ fun i hi=>by
  have hx:=List.getElem?_eq_getElem hi
  generalize (cirOf ps l).pipes[i]=x at hx
  have hxm:=List.mem_of_getElem? hx
  unfold pipeE
  rw[hx]
  simp only
  rw[if_neg (by simp[hr.inp x hxm]),if_neg (by simp[hr.has x hxm]),if_neg (by simp[hr.dir x hxm])]
  cases i with
  | zero=>rfl
  | succ j=>
   simp only[cirOf,List.getElem?_map]at hx ⊢
   obtain⟨z,hz,rfl⟩:=Option.map_eq_some_iff.1 hx
   cases hw:l[j]? with
   | none=>rfl
   | some w=>
    simp only[Option.map_some]
    rw[earlier_zp,if_pos (h.ord j w z hw hz)]
 rw[h1,h2,h3]
 simp only[ne_eq,not_true_eq_false,if_false]
 rw[if_neg (by have:=hr.many;omega)]
end Go.Proofs.YtafamcbdaeppoaaGreatDoor
