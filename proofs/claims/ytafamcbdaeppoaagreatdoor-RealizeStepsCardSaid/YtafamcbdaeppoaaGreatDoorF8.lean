/- Texts joined by a program: Fwq,Fwr. -/
import Derived.Test.YtafamcbdaeppoaaGreatDoorF7
import Derived.Test.YtafamcbdaeppoaaGreatDoorF5
set_option linter.unusedSimpArgs false
set_option linter.unusedVariables false
namespace Go.Proofs.YtafamcbdaeppoaaGreatDoor
section
variable {P:Program}
theorem happ_tags {ch:Option (Nat×Ent)}{H:Heap}(h:(H.map (·.1)).Nodup):((happ ch H).map (·.1)).Nodup:=by
 cases ch with
 | none=>exact h
 | some p=>
  obtain⟨t,e⟩:=p
  simp only[happ]
  cases hg:hget t H with
  | some e'=>
   simp only
   have:∀(K:Heap),(hset t e K).map (·.1)=K.map (·.1):=by
    intro K
    induction K with
    | nil=>rfl
    | cons q r ih=>
     obtain⟨s,e1⟩:=q
     simp only[hset]
     split
     ·simp
     ·simp[ih]
   rw[this];exact h
  | none=>
   simp only[List.map_cons]
   refine List.nodup_cons.2 ⟨?_,h⟩
   intro hm
   obtain⟨q,h1,h2⟩:=List.mem_map.1 hm
   have:∀(K:Heap),hget t K=none->∀q∈K,q.1≠t:=by
    intro K
    induction K with
    | nil=>intro _ q hq;cases hq
    | cons z r ih=>
     obtain⟨s,e1⟩:=z
     intro hk q hq
     simp only[hget]at hk
     split at hk
     ·cases hk
     ·rename_i hs
      rcases List.mem_cons.1 hq with rfl | hq
      ·exact hs
      ·exact ih hk q hq
   exact this H hg q h1 h2
theorem subH_of:∀ {H' H:Heap},(H'.map (·.1)).Nodup->(∀t e,hget t H'=some e->hget t H=some e)->subH H' H
 | [],_,_,_=>trivial
 | (t,e)::r,H,hn,h=>by
  simp only[List.map_cons,List.nodup_cons]at hn
  refine⟨h t e (by simp[hget]),subH_of hn.2 fun s e' hs=>?_⟩
  have hne:s≠t:=by
   rintro rfl
   exact hn.1 (List.mem_map.2 ⟨_,hget_mem hs,rfl⟩)
  have h1:=h s e' (by simp[hget,Ne.symm hne,hs])
  have:∀(K:Heap),hget s (hdel t K)=hget s K:=by
   intro K
   induction K with
   | nil=>rfl
   | cons q r ih=>
    obtain⟨u,e1⟩:=q
    simp only[hdel,hget]
    by_cases hu:u=t
    ·subst hu;simp[Ne.symm hne]
    ·simp only[hu,if_false,hget,ih]
  rw[this];exact h1
theorem vcD_lex {ρ:Nat->Option CR}{ops:List Oper}{E0:Env}{G0:Nat->Option Ent}{K:Env->Heap->Prop}{ν:Nat->Value×Nat}:∀(l:List Oper) (i:Nat) (acc:List (Nat×List Nat×Option Nat)) (E:Env) (H:Heap),
  (∀j,l[j]?=ops[i+j]?)->vcD P ρ ops i acc l E H K->lexS P ρ ops E0 G0 ν i=(E,fun t=>hget t H)->(H.map (·.1)).Nodup ->
  (∀k o,k<i->ops[k]?=some o->∃z∈acc,z.1=k∧z.2.1=rdT (lexS P ρ ops E0 G0 ν k).1 o∧∀t,wrG (resN P ρ ops E0 G0 ν) k t->z.2.2=some t) ->
  (∀j o,i<=j->ops[j]?=some o->∃p a ch,resN P ρ ops E0 G0 ν j=some (p,a,ch)∧p) ∧
  (∀k j ok oj t,i<=j->k<j->ops[k]?=some ok->ops[j]?=some oj ->
   ((wrG (resN P ρ ops E0 G0 ν) k t∧(t∈rdT (lexS P ρ ops E0 G0 ν j).1 oj∨wrG (resN P ρ ops E0 G0 ν) j t))∨(t∈rdT (lexS P ρ ops E0 G0 ν k).1 ok∧wrG (resN P ρ ops E0 G0 ν) j t))->relB ops j k=true) ∧
  ∃Hn:Heap,K (lexS P ρ ops E0 G0 ν ops.length).1 Hn∧(lexS P ρ ops E0 G0 ν ops.length).2=(fun t=>hget t Hn)∧(Hn.map (·.1)).Nodup
 | [],i,acc,E,H,hl,h,hlex,hnd,hacc=>by
  have hi:ops.length<=i:=by
   rcases Nat.lt_or_ge i ops.length with hlt | hge
   ·have:=hl 0
    rw[Nat.add_zero,List.getElem?_eq_getElem hlt]at this
    simp at this
   ·exact hge
  have hstop:∀m,lexS P ρ ops E0 G0 ν (ops.length+m)=lexS P ρ ops E0 G0 ν ops.length:=by
   intro m
   induction m with
   | zero=>rfl
   | succ m ih=>
    rw[Nat.add_succ]
    simp only[lexS]
    rw[List.getElem?_eq_none (by omega)]
    exact ih
  have e1:lexS P ρ ops E0 G0 ν ops.length=(E,fun t=>hget t H):=by
   rw[<- hlex,<- hstop (i-ops.length)]
   congr 1
   omega
  refine⟨fun j o hij ho=>absurd (List.getElem?_eq_some_iff.1 ho).1 (by omega),fun k j ok oj t hij _ _ ho=>absurd (List.getElem?_eq_some_iff.1 ho).1 (by omega),H,?_,?_,hnd⟩
  ·rw[e1];exact h
  ·rw[e1]
 | o::l,i,acc,E,H,hl,h,hlex,hnd,hacc=>by
  have ho:ops[i]?=some o:=by have:=hl 0;simpa using this.symm
  simp only[vcD]at h
  have h0:=h (ν i).1 (ν i).2
  have hres:resN P ρ ops E0 G0 ν i=fStep P ρ (ν i).1 (ν i).2 ops o E (fun t=>hget t H):=by
   simp only[resN,ho,hlex]
  split at h0<;>try (exact h0.elim)
  rename_i p a ch hs
  obtain⟨hp,htag,hv⟩:=h0
  rw[<- hres]at hs
  have hlex':lexS P ρ ops E0 G0 ν (i+1)=(put E o.dst a,fun t=>hget t (happ ch H)):=by
   simp only[lexS,ho]
   rw[hlex]
   simp only
   rw[<- hres,hs]
   simp only[Prod.mk.injEq,true_and]
   funext t
   exact (hget_happ ch H t).symm
  have hwr:∀t,wrG (resN P ρ ops E0 G0 ν) i t->chT ch=some t:=by
   rintro t ⟨p',a',e',hw⟩
   rw[hs]at hw
   cases hw
   rfl
  obtain⟨k1,k2,k3⟩:=vcD_lex l (i+1) _ _ _ (fun j=>by have:=hl (j+1);simpa [Nat.add_assoc,Nat.add_comm 1 j]using this) hv hlex' (happ_tags hnd) (by
   intro k ok hk hok
   by_cases hki:k=i
   ·subst hki
    rw[ho]at hok;cases hok
    exact⟨_,List.mem_cons_self,rfl,by simp only[hlex],hwr⟩
   ·obtain⟨z,hz,h1,h2,h3⟩:=hacc k ok (by omega) hok
    exact⟨z,List.mem_cons_of_mem _ hz,h1,h2,h3⟩)
  refine⟨?_,?_,k3⟩
  ·intro j oj hij hoj
   by_cases hji:j=i
   ·subst hji
    exact⟨p,a,ch,hs,hp⟩
   ·exact k1 j oj (by omega) hoj
  ·intro k j ok oj t hij hkj hok hoj hc
   by_cases hji:j=i
   ·subst hji
    rw[ho]at hoj;cases hoj
    obtain⟨z,hz,h1,h2,h3⟩:=hacc k ok hkj hok
    have:=List.all_eq_true.1 htag z hz
    rw[h1]at this
    have hconf:tagC z.2 (rdT E o,chT ch)=true:=by
     simp only[tagC]
     rw[hlex]at hc
     rcases hc with⟨hw,hr⟩|⟨hr,hw⟩
     ·rw[h3 t hw]
      rcases hr with hr | hr
      ·simp[hr]
      ·simp[hwr t hr]
     ·rw[hwr t hw,h2]
      simp[hr]
    rw[hconf,dOr_t]at this
    cases hd:dirB ops j k with
    | true=>exact relN_dir hd
    | false=>rw[hd]at this;simpa using this
   ·exact k2 k j ok oj t (by omega) hkj hok hoj hc
theorem V.draw {n:Nat}{id:Nat}{ops:Array Oper}{E:Env}{H:Heap}{Q:PostQ}(ρ:Nat->Option CR) (hm:P.follows .mixedOrders=true) (hd:depB ops.toList=true) (hn:(H.map (·.1)).Nodup)
  (h:vcD P ρ ops.toList 0 [] ops.toList E H fun E' H'=>Q .normal E' H'):V ⟨P,none,n⟩ (.region id ops true) E H Q:=by
 intro hf x act H00 ms hi he
 generalize hH0:marks ms++H00=H0 at hi
 generalize hds:ms.map mk=ds at he
 have hlex:=fun ν=>vcD_lex (P:=P) (E0:=E) (G0:=fun t=>hget t H) (ν:=ν) ops.toList 0 [] E H (by simp) h rfl hn (fun k o hk=>by omega)
 have L:LexOK P ρ ops.toList E (fun t=>hget t H):=⟨hd,fun ν i o ho=>(hlex ν).1 i o (Nat.zero_le _) ho,
  fun ν i j oi oj t hij hoi hoj hc=>(hlex ν).2.1 i j oi oj t (Nat.zero_le _) hij hoi hoj hc⟩
 refine wpIn_wide.2 (wp_region_any hm ?_)
 have hi':Inv x.drew (H++H0):=hi.grow (X.drew_grow x)
 have he':EnvOK n ds x.drew act E:=he.mono (X.drew_grow x).le
 have hsz:∀k,(Array.replicate ops.size false).getD k false=false:=by
  intro k
  rw[Array.getD_eq_getD_getElem?]
  by_cases hk:k<ops.size
  ·simp[Array.getElem?_replicate,hk]
  ·simp[Array.getElem?_replicate,hk]
 have hfun:(fun k=>(Array.replicate ops.size false).getD k false)=fun _=>false:=funext hsz
 have hee:∀(r:Nat->Option (Prop×A×Option (Nat×Ent))) m,eeS ops.toList E r (fun _=>false) m=E:=by
  intro r m
  induction m with
  | zero=>rfl
  | succ m ih=>simp[eeS,ih]
 have hgg:∀(r:Nat->Option (Prop×A×Option (Nat×Ent))) m,ggS ops.toList (fun t=>hget t H) r (fun _=>false) m=fun t=>hget t H:=by
  intro r m
  induction m with
  | zero=>rfl
  | succ m ih=>simp[ggS,ih]
 have key:=region_any (H0:=H0) (x0:=x) (n:=n) (ds:=ds) (Q:=Post n H00 Q x) L (fitsOps_ok hf) (by
   intro ν y a Hc hle hy hey hg
   obtain⟨Hn,q1,q2,q3⟩:=(hlex ν).2.2
   have hsub:∀t e,hget t Hn=some e->hget t Hc=some e:=fun t e ht=>by rw[hg t,q2];exact ht
   exact⟨y,_,Hn,ms,rfl,hle,by rw[hH0];exact subH_inv (subH_of q3 hsub) hy,by rw[hds];exact hey,q1⟩)
  ops.size (Array.replicate ops.size false) (fun _=>(.nilIface,0)) x.drew act H (List.range ops.size) (by simp) List.nodup_range (by intro k;rw[hsz k];simp) (by simp) (by
   rw[hfun];intro j i hj;cases hj) (X.drew_grow x).le hi' (by rw[hfun,hee];exact he') (by intro t;rw[hfun,hgg])
 have key2:wpAny P .any ops (Post n H00 Q x) ops.size (Array.replicate ops.size false) act x.drew.w:=by simpa using key
 exact key2
attribute [simp] bldF rowsW evsR evpR clipF frzF asSl
attribute [simp] vcD fStep fStep0 rdT fnT entsOf tag1 tagOf argT tagC dirB chT Region.binds reads
end
section
variable {P:Program}
theorem Inv.new {x:X}{H:Heap}(h:Inv x H) (g:Nat) {o:Obj}{e:Ent}(he:∀b,e.own b->b=x.w.heap.size) (hs:e.sat (x.mk' o)):Inv (x.mk' o) ((g,e)::H):=by
 have le:=X.mk'_le x o h.bd
 refine h.fresh le (fun b hb=>Nat.lt_of_lt_of_le (h.bd b hb) le.size) (fun b hb=>.inl hb) hs ?_ fun b hb=>heap_alloc_old _ _ hb
 intro b hb
 have:=he b hb
 subst this
 exact⟨Nat.le_refl _,fun hk=>absurd (h.bd _ hk) (Nat.lt_irrefl _),by simp[X.mk']⟩
def X.set (x:X) (b:Nat) (o:Obj):X:=⟨x.w.putObj b o,x.ok⟩
theorem Inv.set_le {x:X}{H:Heap}{g b:Nat}{e:Ent}(h:Inv x ((g,e)::H)) (hb:e.own b) (o:Obj):x.le (x.set b o):=by
 have h1:=(h.own (g,e) (by simp) b hb).2
 exact⟨fun k hk=>⟨hk,World.putObj_heap_other fun e=>h1 (e▸hk)⟩,rfl,rfl,rfl,by simp[X.set],Nat.le_refl _⟩
theorem Inv.off {x:X}{H:Heap}{g b:Nat}{e:Ent}(h:Inv x ((g,e)::H)) (hb:e.own b) (o:Obj):Inv (x.set b o) H:=by
 refine (h.sub (List.sublist_cons_self _ _)).step (h.set_le hb o) (fun k hk=>by have:=h.bd k hk;simpa [X.set]using this) (fun k hk=>.inl hk) fun p hp k hk=>World.putObj_heap_other ?_
 intro e
 subst e
 exact (List.pairwise_cons.1 h.apart).1 p hp k hb hk
theorem Inv.reset {x:X}{H:Heap}{g b:Nat}{e e':Ent}(h:Inv x ((g,e)::H)) (hb:e.own b) (o:Obj) (he':∀k,e'.own k->k=b) (hs:e'.sat (x.set b o)):Inv (x.set b o) ((g,e')::H):=by
 have h0:=h.off hb o
 refine⟨h0.bd,?_,?_,List.pairwise_cons.2 ⟨?_,h0.apart⟩⟩
 ·intro p hp
  rcases List.mem_cons.1 hp with rfl | hp
  ·exact hs
  ·exact h0.sat p hp
 ·intro p hp k hk
  rcases List.mem_cons.1 hp with rfl | hp
  ·have:=he' k hk
   subst this
   have:=h.own (g,e) (by simp) k hb
   exact⟨by simpa [X.set]using this.1,this.2⟩
  ·exact h0.own p hp k hk
 ·intro p hp k hk
  have:=he' k hk
  subst this
  exact (List.pairwise_cons.1 h.apart).1 p hp k hb
def rangeQ (τ l n:Nat) (ps:Array Tmp) (asg body:Code) (E:Env) (Q:PostQ) (H':Heap):Prop:=
 (∃H'',H'=(τ,.loop l n .ready none ps asg body E)::H''∧Q .normal E H'') ∨
 (∃H'',H'=(τ,.loop l n .done (some .ret) ps asg body E)::H''∧Q .ret E H'') ∨
 (∃H'' i,H'=(τ,.loop l n .done (some (.exit i)) ps asg body E)::H''∧Q (.exit i) E H'')
theorem calls_fw {r:Option Nat}{f:FuncId}{args:Array Value}{w:World}{R:Ending->World->Prop}(h:Calls P f args w R) (hr:∀e w',R e w'->∃v,e=.returned v):CallsIn (fw r) 0 P f args w R:=by
 refine⟨trivial,fun cs _=>?_⟩
 obtain⟨e,w',fr,h1,hs,hx⟩:=h cs
 refine⟨e,w',fr,h1,?_,hx⟩
 obtain⟨v,rfl⟩:=hr e w' h1
 exact (StepsIn.of_steps hs).mono fun m _=>fenced_wide P m
theorem V.rangeFunc {n:Nat}{E:Env}{H:Heap}{Q:PostQ}{g:Operand}{ps:Array Tmp}{asg body:Code}(τ:Nat) {p:Prop}{f:FuncId}{first caps:List A}(hg:st (ev E g)=(p,.fn f first caps)) (hp:p)
  (h:∀l,CallS P f (first++[.yld l]++caps) ((τ,.loop l n .ready none ps asg body E)::H) fun _ H'=>rangeQ τ l n ps asg body E Q H'):V ⟨P,none,n⟩ (.rangeFunc g ps asg body) E H Q:=by
 intro hf x act H0 ms hi he
 have hgv:=st_ok (ev_ok he g) (by rw[hg];exact hp)
 rw[hg]at hgv
 simp only[D]at hgv
 obtain⟨fs,cs,hgv,hfs,hcs⟩:=hgv
 refine wpIn_rangeFunc ?_
 intro fn _
 let m:=x.w.heap.size
 let l:=x.w.heap.size+1
 let rec0:Loop:={ state:=.ready,pending:=none,fn,tmps:=act.tmps,params:=ps,assign:=asg,body,defers:=m }
 let y1:X:=x.mk' (.deferred (some []))
 let y2:X:=y1.mk' (.loop rec0)
 have hsz1:y1.w.heap.size=l:=by simp[y1,X.mk',l]
 have i1:Inv y1 ((0,.raw m (.deferred (some [])))::(H++(marks ms++H0))):=hi.new 0 (fun b hb=>hb) (heap_alloc_new _ _)
 have le1:x.le y1:=X.mk'_le x _ hi.bd
 have le2:y1.le y2:=X.mk'_le y1 _ i1.bd
 have hloop:(Ent.loop l n .ready none ps asg body E).sat y2:=by
  refine⟨rec0,?_,rfl,rfl,rfl,rfl,rfl,he.size,fun t=>((he.slot t).mono le1).mono le2⟩
  rw[<- hsz1]
  exact heap_alloc_new _ _
 have i2:Inv y2 ((τ,.loop l n .ready none ps asg body E)::(0,.raw m (.deferred (some [])))::(H++(marks ms++H0))):=
  i1.new τ (fun b hb=>by rw[hsz1];exact hb) hloop
 have hperm:(((τ,Ent.loop l n .ready none ps asg body E)::H)++(marks (m::ms)++H0)).Perm ((τ,.loop l n .ready none ps asg body E)::(0,.raw m (.deferred (some [])))::(H++(marks ms++H0))):=by
  simp only[marks,List.map_cons,List.cons_append]
  exact (List.perm_middle).cons _
 have i3:=i2.perm hperm
 have hds:Ds y2 (first++[.yld l]++caps) (fs++#[Value.func (.yield l) #[] #[]]++cs).toList:=by
  simp only[Array.toList_append]
  exact (((hfs.mono le1).mono le2).append (by simp[Ds,D])).append ((hcs.mono le1).mono le2)
 have hcall:=h l
 refine⟨l,[{ target:=.collected m,args:=#[] }],y2.w,{ target:=.fn (.func f) cs,args:=fs++#[.func (.yield l) #[] #[]] },y2.w,f,fs++#[.func (.yield l) #[] #[]]++cs,y2.w,?_,?_,fun _ _=>trivial,?_,fun hh=>by simp[fw]at hh,?_⟩
 ·exact run_enterLoop_outer _ _ _ _ _
 ·simp only[resolve,hgv]
  simp[go_sem]
 ·exact Calls.run hcall.1 _ _
 ·refine CallsIn.mono (calls_fw (hcall.2 y2 _ _ i3 hds) ?_) ?_
  ·rintro e w' ⟨y,v,r,H',rfl,_⟩
   exact⟨v,rfl⟩
  ·rintro e w' ⟨y,v,r,H',rfl,rfl,hle,hi',_,hq⟩
   have lexy:x.le y:=(le1.trans le2).trans hle
   have fin:∀ {s:LoopState}{pe:Option Code}{H'':Heap},s≠.busy->Inv y (((τ,.loop l n s pe ps asg body E)::H'')++(marks (m::ms)++H0)) ->
     ∃z:X,(Instr.endLoop l).run P y.w=.ok pe z.w∧x.le z∧Inv z (H''++(marks (m::ms)++H0))∧EnvOK n ((m::ms).map mk) z { act with defers:=[{ target:=.collected m,args:=#[] }]++act.defers } E:=by
    intro s pe H'' hs hin
    obtain⟨rr,k1,k2,k3,_⟩:=hin.sat (τ,.loop l n s pe ps asg body E) (by simp)
    have hrun:=run_endLoop (P:=P) k1 (by rw[k2];exact hs)
    have hle2:=Inv.set_le (H:=H''++(marks (m::ms)++H0)) hin (show (Ent.loop l n s pe ps asg body E).own l from rfl) (.loop { rr with state:=.exhausted })
    refine⟨y.set l (.loop { rr with state:=.exhausted }),by rw[<- k3];exact hrun,lexy.trans hle2,Inv.off (H:=H''++(marks (m::ms)++H0)) hin (show (Ent.loop l n s pe ps asg body E).own l from rfl) (.loop { rr with state:=.exhausted }),?_⟩
    refine⟨?_,he.size,fun t=>((he.slot t).mono lexy).mono hle2⟩
    simp only[List.map_cons,List.cons_append,List.nil_append,he.defers,mk]
   rcases hq with⟨H'',rfl,hq⟩|⟨H'',rfl,hq⟩|⟨H'',i,rfl,hq⟩
   ·obtain⟨z,h1,h2,h3,h4⟩:=fin (by simp) hi'
    exact⟨none,z.w,h1,z,E,H'',m::ms,rfl,h2,h3,h4,hq⟩
   ·obtain⟨z,h1,h2,h3,h4⟩:=fin (by simp) hi'
    exact⟨some .ret,z.w,h1,wpIn_ret ⟨z,E,H'',m::ms,rfl,h2,h3,h4,hq⟩⟩
   ·obtain⟨z,h1,h2,h3,h4⟩:=fin (by simp) hi'
    exact⟨some (.exit i),z.w,h1,wpIn_exit ⟨z,E,H'',m::ms,rfl,h2,h3,h4,hq⟩⟩
def bindP:List Tmp->List A->Env->Env
 | t::ts,a::az,E=>bindP ts az (upd E t a)
 | _,_,E=>E
theorem bindP_ok {x:X}{n:Nat}:∀(ts:List Tmp) (az:List A) (vs:List Value) (E:Env) (tm:Array Value),(∀t∈ts,t<n)->tm.size=n->Ds x az vs->(∀t,D x (E t) (tm.getD t Go.undef)) ->
  ((ts.zip vs).foldl (fun (tm:Array Value) (p:Tmp×Value)=>tm.setIfInBounds p.1 p.2) tm).size=n∧∀t,D x (bindP ts az E t) (((ts.zip vs).foldl (fun (tm:Array Value) (p:Tmp×Value)=>tm.setIfInBounds p.1 p.2) tm).getD t Go.undef)
 | [],_,_,E,tm,_,hs,_,h=>by simpa [bindP,hs]using h
 | t::ts,[],[],E,tm,_,hs,_,h=>by simpa [bindP,hs]using h
 | t::ts,a::az,[],E,tm,_,hs,hd,h=>by simp[Ds]at hd
 | t::ts,[],v::vs,E,tm,_,hs,hd,h=>by simp[Ds]at hd
 | t::ts,a::az,v::vs,E,tm,ht,hs,hd,h=>by
  simp only[Ds]at hd
  simp only[bindP,List.zip_cons_cons,List.foldl_cons]
  refine bindP_ok ts az vs _ _ (fun t h=>ht t (by simp[h])) (by simpa using hs) hd.2 fun s=>?_
  have htn:t<tm.size:=by rw[hs];exact ht t (by simp)
  by_cases e:s=t
  ·subst e
   simpa [upd,Array.getD_eq_getD_getElem?,htn]using hd.1
  ·have:=h s
   simpa [upd,e,Array.getD_eq_getD_getElem?,Array.getElem?_setIfInBounds_ne (Ne.symm e)]using this
def roundQ (τ l n:Nat) (ps:Array Tmp) (asg body:Code) (E:Env) (K:A->Heap->Prop):PostQ:=fun e _ H'=>match e with
 | .normal=>K (.dat (.bool true)) ((τ,.loop l n .ready none ps asg body E)::H')
 | .ret=>K (.dat (.bool false)) ((τ,.loop l n .done (some .ret) ps asg body E)::H')
 | .exit i=>K (.dat (.bool false)) ((τ,.loop l n .done (some (.exit i)) ps asg body E)::H')
 | _=>False
theorem callY_of {τ l n:Nat}{ps:Array Tmp}{asg body:Code}{E:Env}{az:List A}{H:Heap}{K:A->Heap->Prop}(hl:az.length=ps.size) (hf:fitsC n (.rangeFunc (.func 0) ps asg body)=true)
  (h:vcC ⟨P,some l,n⟩ asg (bindP ps.toList az E) H fun e E' H'=>match e with
   | .normal=>vcC ⟨P,some l,n⟩ body E' H' (roundQ τ l n ps asg body E K)
   | _=>False):CallY P l az ((τ,.loop l n .ready none ps asg body E)::H) K:=by
 simp only[fitsC,Bool.and_eq_true]at hf
 intro x args H0 hi hd
 obtain⟨rr,k1,k2,k3,k4,k5,k6,k7,k8⟩:=hi.sat (τ,.loop l n .ready none ps asg body E) (by simp)
 have hla:=hd.length
 simp only[Array.length_toList]at hla
 have hy:=run_yield (P:=P) (args:=args) k1 (by rw[k4];omega)
 refine⟨_,_,_,_,hy,roundIn_of_wpIn trivial ?_⟩
 rw[k4,k5,k6]
 have hb:=bindP_ok (x:=x) (n:=n) ps.toList az args.toList E rr.tmps (by intro t ht;have:=hf.1.1;rw[Array.all_eq_true_iff_forall_mem]at this;simpa using this t (by simpa using ht)) k7 hd k8
 have hfold:(ps.zip args).foldl (fun (tmps:Array Value) (x:Tmp×Value)=>tmps.setIfInBounds x.1 x.2) rr.tmps=(ps.toList.zip args.toList).foldl (fun (tm:Array Value) (p:Tmp×Value)=>tm.setIfInBounds p.1 p.2) rr.tmps:=by
  rw[<- Array.foldl_toList,Array.toList_zip]
 have he:EnvOK n (([]:List Nat).map mk) x { tmps:=(ps.zip args).foldl (fun tmps (t,a)=>tmps.setIfInBounds t a) rr.tmps,defers:=[] } (bindP ps.toList az E):=by
  refine⟨rfl,?_,?_⟩
  ·show ((ps.zip args).foldl (fun (tmps:Array Value) (x:Tmp×Value)=>tmps.setIfInBounds x.1 x.2) rr.tmps).size=n
   rw[hfold];exact hb.1
  ·intro t
   show D x _ (((ps.zip args).foldl (fun (tmps:Array Value) (x:Tmp×Value)=>tmps.setIfInBounds x.1 x.2) rr.tmps).getD t Go.undef)
   rw[hfold];exact hb.2 t
 have hown:∀(s:LoopState) (pe:Option Code),(Ent.loop l n s pe ps asg body E).own l:=fun _ _=>rfl
 have hi1:Inv x (H++(marks []++((τ,.loop l n .ready none ps asg body E)::H0))):=by
  simp only[marks,List.map_nil,List.nil_append]
  exact hi.perm List.perm_middle
 refine wpIn_mono (vcC_ok (C:=⟨P,some l,n⟩) asg _ H _ hf.1.2 h x _ ((τ,.loop l n .ready none ps asg body E)::H0) [] hi1 he) ?_
 rintro e a1 w1 ⟨y,E1,H1,ms,rfl,hle,hi2,he2,hq⟩
 cases e with
 | normal=>
  have hp2:((τ,Ent.loop l n .ready none ps asg body E)::(H1++(marks ms++H0))).Perm (H1++(marks ms++((τ,.loop l n .ready none ps asg body E)::H0))):=by
   refine List.Perm.trans List.perm_middle.symm ?_
   exact (List.perm_middle.symm).append_left H1
  have hi3:=hi2.perm hp2
  obtain⟨r1,q1,q2,q3,q4,q5,q6,q7,q8⟩:=hi3.sat (τ,.loop l n .ready none ps asg body E) (by simp)
  have hrun:=run_beginRound (P:=P) q1 q2
  have hle2:=hi3.set_le (hown _ _) (.loop { r1 with state:=.busy })
  have hi4:Inv (y.set l (.loop { r1 with state:=.busy })) ((τ,.loop l n .busy none ps asg body E)::(H1++(marks ms++H0))):=by
   refine hi3.reset (hown _ _) _ (fun k hk=>hk) ?_
   exact⟨{ r1 with state:=.busy },World.putObj_heap_same (by simpa using (Array.getElem?_eq_some_iff.1 q1).1),rfl,q3,q4,q5,q6,q7,fun t=>(q8 t).mono hle2⟩
  have hp3:(H1++(marks ms++((τ,Ent.loop l n .busy none ps asg body E)::H0))).Perm ((τ,.loop l n .busy none ps asg body E)::(H1++(marks ms++H0))):=by
   refine List.Perm.trans ?_ List.perm_middle
   exact (List.perm_middle).append_left H1
  refine⟨_,hrun,?_⟩
  refine wpIn_mono (vcC_ok (C:=⟨P,some l,n⟩) body _ H1 _ hf.2 hq (y.set l (.loop { r1 with state:=.busy })) _ ((τ,.loop l n .busy none ps asg body E)::H0) ms (hi4.perm hp3) (he2.mono hle2)) ?_
  rintro e a3 w3 ⟨z,E3,H3,ms3,rfl,hle3,hi5,he5,hq3⟩
  have hp5:((τ,Ent.loop l n .busy none ps asg body E)::(H3++(marks ms3++H0))).Perm (H3++(marks ms3++((τ,.loop l n .busy none ps asg body E)::H0))):=by
   refine List.Perm.trans List.perm_middle.symm ?_
   exact (List.perm_middle.symm).append_left H3
  have hi6:=hi5.perm hp5
  obtain⟨r3,u1,u2,u3,u4,u5,u6,u7,u8⟩:=hi6.sat (τ,.loop l n .busy none ps asg body E) (by simp)
  have fin:∀(jump:Option Code) {K':A->Heap->Prop},K' (.dat (.bool jump.isNone)) ((τ,.loop l n (if jump.isNone then .ready else .done) jump ps asg body E)::H3) ->
    ∃v w',(Instr.endRound l jump).run P z.w=.ok v w'∧∃y' v' r' H',Ending.returned v=.returned v'∧y'.w=w'∧x.le y'∧Inv y' (H'++H0)∧D y' r' v'∧K' r' H':=by
   intro jump K' hk
   have hend:=run_endRound (P:=P) jump u1
   have hle6:=hi6.set_le (hown _ _) (.loop { r3 with state:=if jump.isNone then .ready else .done,pending:=jump })
   have hi7:Inv (z.set l (.loop { r3 with state:=if jump.isNone then .ready else .done,pending:=jump })) ((τ,.loop l n (if jump.isNone then .ready else .done) jump ps asg body E)::(H3++(marks ms3++H0))):=by
    refine hi6.reset (hown _ _) _ (fun k hk=>hk) ?_
    exact⟨{ r3 with state:=if jump.isNone then .ready else .done,pending:=jump },World.putObj_heap_same (by simpa using (Array.getElem?_eq_some_iff.1 u1).1),rfl,rfl,u4,u5,u6,u7,fun t=>(u8 t).mono hle6⟩
   refine⟨_,_,hend,_,_,_,_,rfl,rfl,((hle.trans hle2).trans hle3).trans hle6,?_,?_,hk⟩
   ·refine hi7.sub ?_
    simp only[List.cons_append]
    refine List.Sublist.cons_cons _ ((List.Sublist.refl _).append ?_)
    exact List.sublist_append_right _ _
   ·simp[D,RdL]
  cases e with
  | normal=>exact fin none hq3
  | ret=>exact fin (some .ret) hq3
  | exit i=>exact fin (some (.exit i)) hq3
  | goto t=>exact hq3.elim
  | panic c=>exact hq3.elim
  | outgrown=>exact hq3.elim
 | ret=>exact hq.elim
 | exit i=>exact hq.elim
 | goto t=>exact hq.elim
 | panic c=>exact hq.elim
 | outgrown=>exact hq.elim
attribute [simp] yldA bindP roundQ
@[congr] theorem CallY_congr {l:Nat}{az az':List A}{H H':Heap}{K:A->Heap->Prop}{z:Prop}(_:(True∧True)=z) (h1:az=az') (h2:H=H'):CallY P l az H K=CallY P l az' H' K:=by rw[h1,h2]
end
end Go.Proofs.YtafamcbdaeppoaaGreatDoor
