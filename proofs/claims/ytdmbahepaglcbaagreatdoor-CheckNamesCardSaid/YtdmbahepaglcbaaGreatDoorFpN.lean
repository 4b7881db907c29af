/- Code that panics with one value: contracts of calls that do; regions in the text's row. No condition. -/
import Derived.Test.YtdmbahepaglcbaaGreatDoorFpM
set_option linter.unusedSimpArgs false
set_option linter.unusedVariables false
namespace Fp
open Go Go.MapKept Go.RowKit
def zLJ (pv:Value):List PanicEntry:=[{v:=pv,recovered:=false}]
def zQC (P:Program) (fv:Value) (args:List AV) (pv:Value):Prop :=
 ∃f first cap,fv = .func (.func f) first cap/\Enters P f/\∀F w vs,Fresh F w->zB2 F w vs args [] ->
  Calls P f (first++vs.toArray++cap) w fun e w'=>e = .panicked (zLJ pv)/\Below w.heap.size w w'
abbrev yS (P:Program) (f:Nat) (args:List AV) (pv:Value):Prop:=zQC P (fnv f) args pv
def zQS (pv:Value) (cx:Ctx) (n:CE->Prop) (x:Nat->CE->Prop) (r:CE->Prop):Exit->Act->World->Prop
 | .panic ch,a,w=>ch=zLJ pv/\a.defers=cx.ds/\Kept cx.F cx.hk cx.yk cx.W w
 | e,a,w=>CPost cx n x r e a w
theorem CPost.q {pv:Value} {cx:Ctx} {n:CE->Prop} {x:Nat->CE->Prop} {r:CE->Prop} {e:Exit} {a:Act} {w:World} (h:CPost cx n x r e a w):zQS pv cx n x r e a w:=by
 cases e with
 | panic ch=>exact h.elim
 | _=>exact h
def WsemQ (pv:Value) (P:Program) (q:Code) (c:CE) (n:CE->Prop) (x:Nat->CE->Prop) (r:CE->Prop):Prop :=
 ∀cx:Ctx,zV cx.n q=true->∀g a w,Rel cx g (den c) a w->q.wp P (zQS pv cx n x r) a w
section
variable {P:Program} {T:TT} {pv:Value}
theorem WsemQ.ofS {q:Code} {c:CE} {n:CE->Prop} {x:Nat->CE->Prop} {r:CE->Prop} (h:Wsem P q c n x r):WsemQ pv P q c n x r :=
 fun cx hk g a w hR=>Go.wp_mono (h cx trivial hk g a w hR) fun _ _ _ hp=>hp.q
theorem WsemQ.of (hT:zU P T) (hm:P.follows .mixedOrders=true) {q:Code} {c:CE} {n:CE->Prop} {x:Nat->CE->Prop} {r:CE->Prop} (h:WcX P T q c n x r):WsemQ pv P q c n x r := .ofS (Wsem.of hT hm h)
theorem WsemQ.seqS {p q:Code} {c:CE} {n:CE->Prop} {x:Nat->CE->Prop} {r:CE->Prop} (h:WsemQ pv P p c (fun c=>WsemQ pv P q c n x r) x r):WsemQ pv P (.seq p q) c n x r:=by
 intro cx hk g a w hR;simp only[zV,Bool.and_eq_true] at hk;refine wp_seq (Go.wp_mono (h cx hk.1 g a w hR) fun ex a w hp=>?_);cases ex with
 | normal=>obtain⟨c',g',h1,h2⟩:=hp;exact h1 cx hk.2 g' a w h2
 | _=>exact hp
theorem WsemQ.seq (hT:zU P T) (hm:P.follows .mixedOrders=true) {p q:Code} {c:CE} {n:CE->Prop} {x:Nat->CE->Prop} {r:CE->Prop} (h:WcX P T p c (fun c=>WsemQ pv P q c n x r) x r):WsemQ pv P (.seq p q) c n x r := .seqS (.of hT hm h)
theorem WsemQ.block {i:Nat} {q:Code} {c:CE} {n:CE->Prop} {x:Nat->CE->Prop} {r:CE->Prop} (h:WsemQ pv P q c n (fun j c=>match Nat.beq j i with|true=>n c|false=>x j c) r):WsemQ pv P (.block i q) c n x r:=by
 intro cx hk g a w hR;refine wp_block (Go.wp_mono (h cx hk g a w hR) fun ex a w hp=>?_);cases ex with
 | normal=>exact hp
 | exit j =>
  obtain⟨c',g',h1,h2⟩:=hp;simp only[Exit.inBlock];by_cases hj:j=i
  ·rw[if_pos hj];subst hj;rw[Nat.beq_refl] at h1;exact⟨c',g',h1,h2⟩
  ·rw[if_neg hj];rw[Nat.beq_ne hj] at h1;exact⟨c',g',h1,h2⟩
 | _=>exact hp
theorem WsemQ.loop {q:Code} {c:CE} {n:CE->Prop} {x:Nat->CE->Prop} {r:CE->Prop} {α:Type} (I:α->Fr) (μ:α->Nat) (y:α) (hle:le (den c) (I y)) (h:∀y,WsemQ pv P q (mkC (I y)) (fun c => ∃z,μ z<μ y/\le (den c) (I z)) x r):WsemQ pv P (.loop q) c n x r:=by
 intro cx hk g a w hR;obtain⟨g0,hR0⟩:=hR.le hle;generalize hSS:(fun (a:Act) (w:World) (m:Nat) => ∃y g,μ y=m/\Rel cx g (mkE (I y)) a w)=S;have hS1:∀{a:Act} {w:World} {m:Nat},(∃y g,μ y=m/\Rel cx g (mkE (I y)) a w)->S a w m:=fun h=>by rw[<-hSS];exact h
 have hS2:∀{a:Act} {w:World} {m:Nat},S a w m->(∃y g,μ y=m/\Rel cx g (mkE (I y)) a w):=fun h=>by rw[<-hSS] at h;exact h
 refine wp_loop (fun a w => ∃m,S a w m) (fun a w=>least (S a w)) ⟨μ y,hS1 ⟨y,g0,rfl,hR0⟩⟩ fun a w hS=>?_;obtain⟨y1,g1,h3,h4⟩:=hS2 (qP hS).1;refine Go.wp_mono (h y1 cx hk g1 a w (by rw[zHX];exact h4)) fun ex a' w' hp=>?_;cases ex with
 | normal =>
  obtain⟨c',g',⟨z,h5,h6⟩,h7⟩:=hp;obtain⟨g2,h8⟩:=h7.le h6;have hz:S a' w' (μ z):=hS1 ⟨z,g2,rfl,h8⟩;refine⟨⟨_,hz⟩,?_⟩;have:=(qP ⟨_,hz⟩).2 _ hz;omega
 | _=>exact hp
theorem WsemQ.cond {o:Operand} {p q:Code} {c:CE} {n:CE->Prop} {x:Nat->CE->Prop} {r:CE->Prop} {t:Bool} (ho:opd (den c) o = .v (.sb t)) (h1:t=true->WsemQ pv P p (crefine o true c) n x r) (h2:t=false->WsemQ pv P q (crefine o false c) n x r):WsemQ pv P (.cond o p q) c n x r:=by
 intro cx hk g a w hR;simp only[zV,Bool.and_eq_true] at hk;have hag:=Agree.refl (zL o) (den c);have hv:=(zH hag hR (Sub.refl _) ho).sb_eq;have hR':=zHF hR ho;cases t with
 | true=>exact wp_cond_true hv (h1 rfl cx hk.1 g a w (by rw[wP];exact hR'))
 | false=>exact wp_cond_false hv (h2 rfl cx hk.2 g a w (by rw[wP];exact hR'))
def za7 (pv:Value) (cx:Ctx) (Q:Exit->Act->World->Prop):Prop := ∀a w,a.defers=cx.ds->Kept cx.F cx.hk cx.yk cx.W w->Q (.panic (zLJ pv)) a w
def PanB (pv:Value) (P:Program) (o:Oper) (e:Env) (m:Nat):Prop :=
 ∀cx e' g a w,Agree m e e'->Rel cx g e' a w->∀(K:Act->World->Prop) (Q:Exit->Act->World->Prop),za7 pv cx Q->o.wp P a w K Q
theorem PanB.agree {o:Oper} {m:Nat} {e e':Env} (h:PanB pv P o e m) (q:Agree m e' e):PanB pv P o e' m:=fun cx e2 g a w hag hR=>h cx e2 g a w (q.symm.trans hag) hR
theorem Kept.below {F:Nat->Option Nat} {hk yk:List Nat} {W w w':World} (h:Kept F hk yk W w) (hb:Below w.heap.size w w'):Kept F hk yk W w':=by
 refine⟨hb.os.trans h.os,hb.tape.trans h.tape,hb.output.trans h.output,Nat.le_trans h.size hb.size,fun b hlt=>?_⟩;have e:=hb.block b (Nat.lt_of_lt_of_le hlt h.size);rcases h.block b hlt with h1|⟨h1,cs,cs',E,m,k1,k2,k3⟩|h1
 ·exact .inl h1
 ·exact .inr (.inl ⟨h1,cs,cs',E,m,k1,e.trans k2,k3⟩)
 ·exact .inr (.inr (e.trans h1))
theorem z0W {o:Oper} {c:Call} {f:Operand} {e:Env} (ho:o.op = .call c) (hc:c.callee = .value f) {fv:Value} (hf:opd e f = .v (.lit fv)) {args:List AV} (ha:ArgsAs e c.args.toList args) (hp:zQC P fv args pv):PanB pv P o e (zL f ||| zI c.args.toList):=by
 intro cx e' g a w hag hR K Q hQ;obtain⟨n,first,cap,he,hen,hcalls⟩:=hp;obtain⟨al,ar⟩:=ArgsAs.rep hag hR Sub.inr ha;have hfv:=(zH hag hR Sub.inl hf).lit_eq.1;rw[he] at hfv;unfold Oper.wp;rw[zGQ ho hc hfv hen,Oper.upon_enter];have hargs:c.args.map a.eval=(c.args.toList.map a.eval).toArray:=Array.toList_inj.1 (by simp);rw[hargs];have hy:yJ (c.args.toList.map a.eval) []=[]:=by cases c.args.toList<;>rfl
 refine (hcalls g.F w (c.args.toList.map a.eval) hR.fresh ⟨by simp[al],ar,fun i v sz _ h=>by simp at h,by rw[hy];exact List.nodup_nil⟩).mono fun en w' hpost=>?_;obtain⟨rfl,hB⟩:=hpost;exact hQ a w' hR.defers (hR.kept.below hB)
section
variable {arr:Array Oper}
theorem zJL (hT:zU P T) {k:CE->Prop} {Q:Exit->Act->World->Prop} {cx:Ctx} {r2:List Oper} (hK:∀c g a w,k c->Rel cx g (den c) a w->wpList P arr Q r2 a w):∀(r:List Oper) (c:CE) (g:G) (a:Act) (w:World),
  (∀o∈r,∀d,o.dst=some d->d<cx.n)->zEQ P T arr.toList r c k->Rel cx g (den c) a w->wpList P arr Q (r++r2) a w
 | [],c,g,a,w,_,h,hR=>hK c g a w (by cases c;exact h) hR
 | o::r,c,g,a,w,hd,h,hR=>by
  have h':cgk arr.toList o c (fun c=>zSN P T arr.toList o c fun c=>zEQ P T arr.toList r c k) (fun c=>zEQ P T arr.toList r (capp c (putU o.dst .undef)) k):=by cases c;exact h
  obtain⟨c1,t,q1,q2,q3,q4⟩:=jW h';have hw:=q2 cx g (den c1) a w (Agree.refl _ _) (hR.eqv q1);show wpList P arr Q (o::(r++r2)) a w;unfold wpList;have hdo:=hd o List.mem_cons_self;cases t with
  | true =>
   rw[if_pos hw];refine .inl (zKJ (arr:=arr) hT (q3 rfl) trivial hdo (hR.eqv q1) fun c' g' a' w' hu hR'=>?_);exact zJL hT hK r c' g' a' w' (fun o' ho'=>hd o' (List.mem_cons_of_mem _ ho')) hu hR'
  | false =>
   rw[if_neg (by rw[hw];simp)];exact zJL hT hK r _ g _ w (fun o' ho'=>hd o' (List.mem_cons_of_mem _ ho')) (q4 rfl) (by rw[yG];exact (hR.eqv q1).putU hdo (fun d=>(rfl:SlotOk g w d .undef undef)))
def zTV (pv:Value) (P:Program) (o:Oper) (c:CE):Prop:=match o.guard,o.op with
 | none,.call cl=>match cl.callee with
  | .value f=>match opd (den c) f with
   | .v (.lit fv)=>match opds (den c) cl.args.toList with
    | some args=>zQC P fv args pv
    | none=>False
   | _=>False
  | _=>False
 | _,_=>False
def zXE (o:Oper):Nat:=match o.op with
 | .call cl=>match cl.callee with
  | .value f=>zL f ||| zI cl.args.toList
  | _=>0
 | _=>0
theorem zMN {o:Oper} {c:CE} (h:zTV pv P o c):o.guard=none/\PanB pv P o (den c) (zXE o):=by
 unfold zTV at h;split at h
 ·rename_i cl hg ho;split at h
  ·rename_i f hc;split at h
   ·rename_i fv hf;split at h
    ·rename_i args ha;refine⟨hg,?_⟩;have e:zXE o=(zL f ||| zI cl.args.toList):=by unfold zXE;simp only[ho,hc]
     rw[e];exact z0W ho hc hf (zCJ ha) h
    ·exact h.elim
   ·exact h.elim
  ·exact h.elim
 ·exact h.elim
theorem WsemQ.region (hT:zU P T) (k:Nat) {id:Nat} {vs:List (Nat×SV)} {ow:List (Nat×Nat×Nat)} {al:List Nat} {hp:List (Nat×HO)} {n:CE->Prop} {x:Nat->CE->Prop} {r:CE->Prop}
  (h:crf vs fun vs=>zEQ P T arr.toList (arr.toList.take k) ⟨vs,ow,[],hp⟩ fun c=>match arr.toList[k]? with|some o=>zTV pv P o c|none=>False):WsemQ pv P (.region id arr false) ⟨vs,ow,al,hp⟩ n x r:=by
 intro cx hk g a w hR;simp only[zV,List.all_eq_true] at hk;have hd:∀o∈arr.toList,∀d,o.dst=some d->d<cx.n:=fun o ho d hd=>by
  have:=hk o ho;rw[hd] at this;exact Nat.le_of_ble_eq_true this
 simp only[zD5] at h;obtain⟨g',hR'⟩:=hR.refresh;refine wp_region_list ?_;have e:arr.toList=arr.toList.take k++arr.toList.drop k:=(List.take_append_drop k arr.toList).symm;have:=zJL (P:=P) (arr:=arr) (T:=T) hT (r2:=arr.toList.drop k) (Q:=zQS pv cx n x r) (cx:=cx) (k:=fun c=>match arr.toList[k]? with|some o=>zTV pv P o c|none=>False) (fun c g a w hc hR=>?_) (arr.toList.take k) _ g' a w (fun o ho=>hd o (List.mem_of_mem_take ho)) h (by rw[xE ⟨vs,ow,al,hp⟩];exact hR')
 ·rw[<-e] at this;exact this
 ·cases hk2:arr.toList[k]? with
  | none=>rw[hk2] at hc;exact hc.elim
  | some o =>
   rw[hk2] at hc;obtain⟨hg,hB⟩:=zMN hc;have hlt:=(List.getElem?_eq_some_iff.1 hk2).1;have e2:arr.toList.drop k=o::arr.toList.drop (k+1):=by
    rw[List.drop_eq_getElem_cons hlt]
    congr 1
    exact (List.getElem?_eq_some_iff.1 hk2).2
   rw[e2];unfold wpList;have hw:Region.wanted o (yielded arr a.tmps)=true:=by unfold Region.wanted;rw[hg]
   rw[if_pos hw];exact .inl (hB cx _ g a w (Agree.refl _ _) hR _ _ fun a w h1 h2=>⟨rfl,h1,h2⟩)
end
end
section
variable {P:Program} {T:TT} {pv:Value} {arr:Array Oper}
theorem zR6 {b:Nat}:∀(r:List Oper) (e:Env) (us:List (List U)) (bs:List (Nat×Nat)),zGK P arr b r e us bs->(∀o∈r,zGJ o=true->o.guard≠none)->zLY P arr r e us bs
 | [],e,us,bs,h,_=>h
 | o::r,e,us,bs,h,hm=>by
  obtain⟨u,us',m,bs',rfl,rfl,hs,ht⟩:=h;refine⟨u,us',m,bs',rfl,rfl,⟨hs.1,hs.2.1,hs.2.2.imp (fun k=>⟨k.1,?_⟩) id⟩,zR6 r _ _ _ ht fun o ho=>hm o (List.mem_cons_of_mem _ ho)⟩;rcases k.2 with h1|⟨t,d,h1,h2,h3,_⟩
  ·exact h1.2
  ·exact absurd h3 (hm o List.mem_cons_self (by unfold zGJ;rw[h1,h2]))
theorem zL1 {m:Nat} {L:Array Bool}:∀(us:List (List U)) (i:Nat) (e e':Env),Agree m e e'->(∀(j:Nat) v,us[j]? = some v->L.getD (i+j) false=false->Disj (wrU v) m)->Agree m (xA us i L e) (qH e' us)
 | [],i,e,e',q,_=>q
 | u::us,i,e,e',q,h=>by
  refine zL1 us (i+1) _ _ ?_ fun j v hj hl=>h (j+1) v hj (by rw[show i+(j+1)=i+1+j by omega];exact hl);split
  ·exact jR q
  ·rename_i hl;exact q.trans (zDJ (h 0 u rfl (by simpa using hl))).symm
theorem z0G {k:Nat} {p:Oper} (hp:arr.toList[k]? = some p) (hpg:p.guard=none) {B:List (Nat×Nat)} {us:List (List U)} {e0:Env} (ht:zLY P arr (arr.toList.take k) e0 us B) {mp:Nat}
  (hc:zH3 (arr.toList.take (k+1)) (B++[(mp,0)])) (hpost:∀(j:Nat) o,k<j->arr.toList[j]? = some o->∃e∈o.after.toList,Region.binds .any e=true/\k<=e.on) (hpan:PanB pv P p (qH e0 us) mp)
  {Q:Exit->Act->World->Prop} {cx:Ctx} (hd:∀o∈arr.toList,∀d,o.dst=some d->d<cx.n) (hQ:za7 pv cx Q):∀(fuel:Nat) (L:Array Bool) (g:G) (a:Act) (w:World),L.size=arr.size->left arr L<=fuel->(∀j,k<=j->L.getD j false=false) ->
   (∀(k:Nat) o,arr.toList[k]? = some o->L.getD k false=true->∀e∈o.after.toList,Region.binds .any e=true->L.getD e.on false=true) ->
   Rel cx g (xA us 0 L e0) a w->wpAny P .any arr Q fuel L a w:=by
 have hks:=(List.getElem?_eq_some_iff.1 hp).1;have hks:k<arr.size:=by simpa using hks
 obtain⟨hlen,hblen,hwr⟩:=zOX _ _ _ _ ht;have hlk:(arr.toList.take k).length=k:=by rw[List.length_take];simp;omega
 rw[hlk] at hlen hblen;have tk:∀(j:Nat),j<=k->(arr.toList.take (k+1))[j]? = arr.toList[j]?:=fun j hj=>by rw[List.getElem?_take,if_pos (by omega)]
 have tk0:∀(j:Nat),j<k->(arr.toList.take k)[j]? = arr.toList[j]?:=fun j hj=>by rw[List.getElem?_take,if_pos hj]
 have bk:∀(j:Nat),j<k->(B++[(mp,0)])[j]? = B[j]?:=fun j hj=>List.getElem?_append_left (by omega);have bkk:(B++[(mp,0)])[k]? = some (mp,0):=by rw[List.getElem?_append_right (by omega),hblen,Nat.sub_self];rfl
 have some_ready:∀L:Array Bool,L.size=arr.size->L.getD k false=false->Region.ready .any arr L=[]->False:=by
  intro L hL hkl hr;have inr:∀j,j<=k->L.getD j false=false->(∀i,i<j->L.getD i false=true)->False:=fun j hj hl hall=>by
   have hjs:j<arr.size:=by omega
   have:j∈Region.ready .any arr L:=by
    rw[mem_ready];have hjL:j<L.size:=by rw[hL];exact hjs
    have he:L.getD j true=L.getD j false:=by simp[Array.getD_eq_getD_getElem?,hjL]
    refine⟨by rw[he];exact hl,arr[j],by simp[hjs],fun e he hb=>?_⟩;have hoj:(arr.toList.take (k+1))[j]? = some arr[j]:=by rw[tk j hj];simp[hjs]
    exact hall e.on (hc.back j _ hoj e (by simpa using he) hb)
   rw[hr] at this;cases this
  have all:∀j,j<k->L.getD j false=true:=by
   intro j;induction j using Nat.strongRecOn with
   | _ j ih =>
    intro hj;cases hl:L.getD j false with
    | true=>rfl
    | false=>exact (inr j (by omega) hl fun i hi=>ih i hi (by omega)).elim
  exact inr k (Nat.le_refl _) hkl all
 intro fuel;induction fuel with
 | zero =>
  intro L g a w hL hf hkl hcl hR;exfalso;have hkL:k<L.size:=by rw[hL];exact hks
  have h1:L.getD k true=false:=by
   have:=hkl k (Nat.le_refl _);simpa[Array.getD_eq_getD_getElem?,hkL] using this
  have:k∈(List.range arr.size).filter fun i => !L.getD i true:=List.mem_filter.2 ⟨List.mem_range.2 hks,by rw[h1];rfl⟩;have:=List.length_pos_of_mem this;unfold left at hf;omega
 | succ fuel ih =>
  intro L g a w hL hf hkl hcl hR;refine⟨fun hr=>(some_ready L hL (hkl k (Nat.le_refl _)) hr).elim,fun j hj=>?_⟩;obtain⟨h1,o,ho,h2⟩:=mem_ready.1 hj;have hjs:=(Array.getElem?_eq_some_iff.1 ho).1;have hjL:j<L.size:=by rw[hL];exact hjs
  have hoj:arr.toList[j]? = some o:=by rw[Array.getElem?_toList];exact ho
  have hlj:L.getD j false=false:=by
   have he:L.getD j true=L.getD j false:=by simp[Array.getD_eq_getD_getElem?,hjL]
   rw[<-he];exact h1
  have hedge:∀e∈o.after.toList,Region.binds .any e=true->L.getD e.on false=true:=fun e he hb=>h2 e (by simpa using he) hb;have hcl2:∀(i:Nat) o,(arr.toList.take (k+1))[i]? = some o->L.getD i false=true->∀e∈o.after.toList,Region.binds .any e=true->L.getD e.on false=true:=fun i o hi=>by
   have hik:=(List.getElem?_eq_some_iff.1 hi).1;rw[List.length_take] at hik;rw[tk i (by omega)] at hi;exact hcl i o hi
  have hdo:=hd o (List.mem_of_getElem? hoj);rcases Nat.lt_trichotomy j k with hjk|hjk|hjk
  ·obtain⟨mj,hmj⟩:∃m,B[j]? = some m:=⟨_,List.getElem?_eq_getElem (by omega)⟩
   have before:∀(i:Nat) v,us[i]? = some v->i<j->L.getD i false=false->Disj (wrU v) mj.1:=fun i v hi hij hl=>by
    obtain⟨mi,hmi,hs⟩:=hwr i v hi;cases hcc:clash mi.1 mi.2 mj.1 mj.2 with
    | true=>have:=hc.clash i j o mi mj hij (by rw[tk j (by omega)];exact hoj) (by rw[bk i (by omega)];exact hmi) (by rw[bk j hjk];exact hmj) hcc L hcl2 hedge;rw[hl] at this;cases this
    | false=>exact (yZ hcc).1.sub hs (Sub.refl _)
   have behind:∀(i:Nat) mi,B[i]? = some mi->j<i->L.getD i false=true->clash mj.1 mj.2 mi.1 mi.2=false:=fun i mi hmi hij hl=>by
    have hik:i<k:=by have:=(List.getElem?_eq_some_iff.1 hmi).1;omega
    cases hcc:clash mj.1 mj.2 mi.1 mi.2 with
    | false=>rfl
    | true =>
     have hoi:arr.toList[i]? = some arr.toList[i]:=List.getElem?_eq_getElem (by simp;omega);have:=hc.clash j i _ mj mi hij (by rw[tk i (by omega)];exact hoi) (by rw[bk j hjk];exact hmj) (by rw[bk i hik];exact hmi) hcc L hcl2 (fun e he hb=>hcl i _ hoi hl e he hb);rw[hlj] at this;cases this
   obtain⟨u,hu,hst⟩:=zOM (L:=L) (arr.toList.take k) us B 0 j e0 e0 ht (by rw[tk0 j hjk];exact hoj) hmj (Agree.refl _ _) (fun i v hi hij hl=>before i v hi hij (by simpa using hl)) (fun i v hi hij hl=>by
    rw[Nat.zero_add] at hl;rcases Nat.eq_or_lt_of_le hij with rfl|hlt
    ·rw[hlj] at hl;cases hl
    ·obtain⟨mi,hmi,hs⟩:=hwr i v hi;exact (yZ (behind i mi hmi hlt hl)).2.2.symm.sub hs (Sub.refl _))
   have hins:xA us 0 (L.setIfInBounds j true) e0=app (xA us 0 L e0) u:=by
    have:=jQ us 0 j L e0 u (by omega) hu (by simpa using hlj) (fun i v hi hij hl=>by
     rw[Nat.zero_add] at hl;obtain⟨mi,hmi,hs⟩:=hwr i v hi;exact (yZ (behind i mi hmi hij hl)).2.1.sub hst.1 hs)
    rw[Nat.zero_add] at this;exact this
   have hnext:∀g' a' w',Rel cx g' (app (xA us 0 L e0) u) a' w'->wpAny P .any arr Q fuel (L.setIfInBounds j true) a' w':=fun g' a' w' hR'=>by
    refine ih _ g' a' w' (by simp[hL]) ?_ (fun i hi=>?_) (fun i oi hi hl e he hb=>?_) (by rw[hins];exact hR')
    ·have:left arr (L.setIfInBounds j true)<left arr L:=by
      refine filter_lt (j:=j) (fun i hi=>?_) (List.mem_range.2 hjs) (by rw[h1];rfl) (by simp[hjL]);by_cases hij:j=i
      ·subst hij;simp[hjL] at hi
      ·rw[getD_set_ne true hij] at hi;exact hi
     omega
    ·rw[getD_set_ne false (by omega)];exact hkl i hi
    ·by_cases hji:j=i
     ·subst hji;rw[hoj] at hi;injection hi with hi;subst hi
      exact getD_set_true (hedge e he hb)
     ·rw[getD_set_ne false hji] at hl;exact getD_set_true (hcl i oi hi hl e he hb)
   unfold wpOp;rw[ho];simp only[];rcases hst.2.2 with⟨hw,hr⟩|⟨hw,hu2⟩
   ·rw[if_pos (hw cx g _ a w (Agree.refl _ _) hR)];exact .inl (hr cx _ g a w hdo (Agree.refl _ _) hR _ _ hnext)
   ·rw[if_neg (by rw[hw cx g _ a w (Agree.refl _ _) hR];simp)];subst hu2;exact hnext g _ w (hR.putU hdo (fun d=>(rfl:SlotOk g w d .undef undef)))
  ·subst hjk;have hop:o=p:=Option.some.inj (hoj.symm.trans hp);subst hop;have hag:Agree mp (qH e0 us) (xA us 0 L e0):=by
    refine (zL1 us 0 e0 e0 (Agree.refl _ _) fun i v hi hl=>?_).symm;rw[Nat.zero_add] at hl;obtain⟨mi,hmi,hs⟩:=hwr i v hi;have hij:i<j:=by have:=(List.getElem?_eq_some_iff.1 hi).1;omega
    cases hcc:clash mi.1 mi.2 mp 0 with
    | true=>have:=hc.clash i j o mi (mp,0) hij (by rw[tk j (Nat.le_refl _)];exact hoj) (by rw[bk i hij];exact hmi) bkk hcc L hcl2 hedge;rw[hl] at this;cases this
    | false=>exact (yZ hcc).1.sub hs (Sub.refl _)
   unfold wpOp;rw[ho];simp only[];have hw:Region.wanted o (yielded arr a.tmps)=true:=by unfold Region.wanted;rw[hpg]
   rw[if_pos hw];exact .inl (hpan cx _ g a w hag hR _ _ hQ)
  ·exfalso;obtain⟨e,he,hb,hon⟩:=hpost j o hjk hoj;have:=hedge e he hb;rw[hkl e.on hon] at this;cases this
def zP2 (l:List Oper) (k:Nat):Bool:=(l.drop (k+1)).all fun o=>o.after.toList.any fun e=>Region.binds .any e && Nat.ble k e.on
theorem zTQ {l:List Oper} {k:Nat} (h:zP2 l k=true):∀(j:Nat) o,k<j->l[j]? = some o->∃e∈o.after.toList,Region.binds .any e=true/\k<=e.on:=fun j o hj ho=>by
 have hm:o∈l.drop (k+1):=by
  refine List.mem_of_getElem? (i:=j-(k+1)) ?_;rw[List.getElem?_drop,show k+1+(j-(k+1))=j by omega];exact ho
 have:=List.all_eq_true.1 h o hm;obtain⟨e,he,hb⟩:=List.any_eq_true.1 this;simp only[Bool.and_eq_true] at hb;exact⟨e,he,hb.1,Nat.le_of_ble_eq_true hb.2⟩
def zaM (pv:Value) (P:Program) (l:List Oper) (k:Nat) (c:CE) (bs:List (Nat×Nat)):Prop:=match l[k]? with
 | some o=>zKG (l.take (k+1)) (bs++[(zXE o,0)])=true/\zTV pv P o c
 | none=>False
theorem zLF (hT:zU P T) {k:Nat} {c:CE} {e:Env} (hce:den c=Fp.refresh e) (h:zKC P T arr.toList 0 (arr.toList.take k) c [] (zaM pv P arr.toList k)) (hpost:zP2 arr.toList k=true)
  {Q:Exit->Act->World->Prop} {cx:Ctx} (hd:∀o∈arr.toList,∀d,o.dst=some d->d<cx.n) (hQ:za7 pv cx Q) {g:G} {a:Act} {w:World} (hR:Rel cx g (Fp.refresh e) a w):wpAny P .any arr Q arr.size (Array.replicate arr.size false) a w:=by
 obtain⟨us,bs,t1,_,t3,c',t4,t5⟩:=zK4 (b:=0) hT (arr.toList.take k) c (Fp.refresh e) [] h (by rw[hce];exact EnvEq.refl _);have hB:=zR6 _ _ _ _ t1 t3;rw[List.nil_append] at t4;unfold zaM at t4;cases hk:arr.toList[k]? with
 | none=>rw[hk] at t4;exact t4.elim
 | some o =>
  rw[hk] at t4;obtain⟨h1,h2⟩:=t4;obtain⟨hg,hp⟩:=zMN h2;have hempty:∀j,(Array.replicate arr.size false).getD j false=false:=fun j=>by
   rcases Nat.lt_or_ge j arr.size with hj|hj<;>simp[Array.getD,hj,Nat.not_lt.2]
  refine z0G hk hg hB (zD0 h1) (zTQ hpost) (hp.agree (t5.agree _)) hd hQ arr.size _ g a w (by simp) ?_ (fun j _=>hempty j) (fun j o _ hl=>?_) ?_
  ·unfold left;exact Nat.le_trans (List.length_filter_le _ _) (by simp)
  ·rw[hempty] at hl;cases hl
  ·rw[zBS us 0 _ _ (fun j=>hempty _)];exact hR
theorem zPJ {cx:Ctx} {n:CE->Prop} {x:Nat->CE->Prop} {r:CE->Prop}:za7 pv cx (zQS pv cx n x r):=fun _ _ h1 h2=>⟨rfl,h1,h2⟩
theorem WsemQ.regionI (hT:zU P T) (hm:P.follows .mixedOrders=true) (k:Nat) {id:Nat} {vs:List (Nat×SV)} {ow:List (Nat×Nat×Nat)} {al:List Nat} {hp:List (Nat×HO)} {n:CE->Prop} {x:Nat->CE->Prop} {r:CE->Prop}
  (hpost:zP2 arr.toList k=true) (h:crf vs fun vs=>zKC P T arr.toList 0 (arr.toList.take k) ⟨vs,ow,[],hp⟩ [] (zaM pv P arr.toList k)):WsemQ pv P (.region id arr true) ⟨vs,ow,al,hp⟩ n x r:=by
 intro cx hk g a w hR;simp only[zV,List.all_eq_true] at hk;have hd:∀o∈arr.toList,∀d,o.dst=some d->d<cx.n:=fun o ho d hd=>by
  have:=hk o ho;rw[hd] at this;exact Nat.le_of_ble_eq_true this
 simp only[zD5] at h;obtain⟨g1,hR1⟩:=(hR.grow (Grow.drew w)).refresh;exact wp_region_any hm (zLF hT (xE ⟨vs,ow,al,hp⟩) h hpost hd zPJ hR1)
theorem WsemQ.regionP (hT:zU P T) (hm:P.follows .mixedOrders=true) (π:List Nat) (k:Nat) {id:Nat} {vs:List (Nat×SV)} {ow:List (Nat×Nat×Nat)} {al:List Nat} {hp:List (Nat×HO)} {n:CE->Prop} {x:Nat->CE->Prop} {r:CE->Prop}
  (hπ:rowOk π arr.toList=true) (hpost:zP2 (zX π arr.toList) k=true) (h:crf vs fun vs=>zKC P T (zX π arr.toList) 0 ((zX π arr.toList).take k) ⟨vs,ow,[],hp⟩ [] (zaM pv P (zX π arr.toList) k)):WsemQ pv P (.region id arr true) ⟨vs,ow,al,hp⟩ n x r:=by
 intro cx hk g a w hR;have hrow:=zGU hπ;simp only[zV,List.all_eq_true] at hk;have hlist:(zX π arr.toList).toArray.toList=zX π arr.toList:=by simp
 have hd:∀o∈(zX π arr.toList).toArray.toList,∀d,o.dst=some d->d<cx.n:=fun o ho d hd=>by
  rw[hlist] at ho;unfold zX at ho;obtain⟨i,hi,hoi⟩:=List.mem_filterMap.1 ho;cases hl:arr.toList[i]? with
  | none=>rw[hl] at hoi;cases hoi
  | some o2 =>
   rw[hl] at hoi;simp only[Option.map_some,Option.some.injEq] at hoi;subst hoi;have:=hk o2 (List.mem_of_getElem? hl);rw[show o2.dst=some d from hd] at this;exact Nat.le_of_ble_eq_true this
 simp only[zD5] at h;obtain⟨g1,hR1⟩:=(hR.grow (Grow.drew w)).refresh;have hsz:(zX π arr.toList).toArray.size=arr.size:=by simp[zDM hrow]
 have hempty:∀(n k:Nat) (b:Bool),(Array.replicate n false).getD k b=if k<n then false else b:=fun n k b=>by
  by_cases h:k<n<;>simp[Array.getD,h]
 have hn:arr.toList.length=arr.size:=by simp
 refine wp_region_any hm (zIZ hrow arr.size _ (Array.replicate arr.size false) a _ (by simp) (by simp) (fun i hi b=>?_) ?_)
 ·have:=zEV (hrow.all i (by rw[hn];exact hi));rw[hrow.len,hn] at this;rw[hempty,if_pos this,hempty,if_pos hi]
 ·have:=zLF (arr:=(zX π arr.toList).toArray) (k:=k) hT (xE ⟨vs,ow,al,hp⟩) (by rw[hlist];exact h) (by rw[hlist];exact hpost) hd (zPJ (n:=n) (x:=x) (r:=r)) hR1;rw[hsz] at this;exact this
end
section
variable {P:Program} {T:TT} {pv:Value}
theorem zJ (hT : zU P T) (hm : P.follows .mixedOrders = true) {f : Nat} {fn : Func} {c : Code} (hf : P.funcs[f]? = some fn) (hb : fn.body = some c) (hname : (fn.name == "runtime.NumGoroutine") = false) {args : List AV}
  (hlen:args.length<=fn.ntmps) (hk:zV fn.ntmps c=true) (hw:WsemQ pv P c (jE args [] []) (fun _=>False) (fun _ _=>False) (fun _=>False)):yS P f args pv:=by
 refine⟨f,_,_,rfl,⟨fn,hf,by rw[hb];rfl,hname⟩,fun F w vs hfr ha=>?_⟩;have hy0:yJ vs []=[]:=by cases vs<;>rfl
 rw[show #[]++vs.toArray ++ #[]=vs.toArray by simp];obtain⟨g,hR⟩:=zCW (hin:=[]) hfr ⟨List.nodup_nil,fun b hb=>by simp[keys] at hb,fun x hx=>by simp at hx⟩ ha (fun b hb=>by rw[hy0] at hb;simp at hb) (n:=fn.ntmps) (by rw[ha.len];exact hlen);refine calls_of_wp hf hb (Go.wp_mono (hw _ hk g _ _ (hR.weaken (zA3 args [] []) (zBZ args [] []) (fun _=>rfl) rfl)) fun ex a w' hp=>?_);cases ex with
 | normal=>obtain⟨_,_,h,_⟩:=hp;exact h.elim
 | ret=>obtain⟨_,_,h,_⟩:=hp;exact h.elim
 | exit i=>obtain⟨_,_,h,_⟩:=hp;exact h.elim
 | goto l=>exact hp.elim
 | outgrown=>exact hp.elim
 | panic ch =>
  obtain⟨rfl,h1,h2⟩:=hp;refine⟨h1,rfl,h2.os,h2.tape,h2.output,h2.size,fun b hb=>?_⟩;rcases h2.block b hb with h|⟨h,_⟩|h
  ·simp[keys] at h
  ·rw[hy0] at h;simp at h
  ·exact h
end
def zB8 (o:Oper):Oper:=match o.op with
 | .insert t m k x=>{o with op := .mapUpdate t m k x}
 | _=>o
theorem zM7 (o:Oper) (ρ:Operand->Value):execOp ρ (zB8 o)=execOp ρ o:=by
 unfold zB8;split
 ·rename_i t m k x h;unfold execOp;simp only[h]
 ·rfl
theorem zPM (o:Oper):(zB8 o).dst=o.dst:=by unfold zB8;split<;>rfl
theorem zT3 (o:Oper):(zB8 o).guard=o.guard:=by unfold zB8;split<;>rfl
theorem z4X {P:Program} {o:Oper} {a:Act} {w:World} {K:Act->World->Prop} {Q:Exit->Act->World->Prop} (h:(zB8 o).wp P a w K Q):o.wp P a w K Q:=by
 unfold Oper.wp at h⊢;rw[zM7] at h;have hd:=zPM o;cases hr:(execOp a.eval o).run P w with
 | ok x w' =>
  rw[hr] at h;cases x<;>simp only[Oper.upon] at h⊢<;>first|(rw[hd] at h;exact h)|exact h
 | halt x w' =>
  rw[hr] at h;cases x<;>exact h
theorem zWF {P:Program} {o:Oper} {a:Act} {w:World} (h:(zB8 o).asks P a w):o.asks P a w:=by
 unfold Oper.asks at h⊢;rw[zM7] at h;exact h
theorem zLZ {P:Program} {arr arr':Array Oper} {Q:Exit->Act->World->Prop}:∀(l:List Oper) (a:Act) (w:World),(∀o∈l,o.guard=none)->wpList P arr' Q (l.map zB8) a w->wpList P arr Q l a w
 | [],a,w,_,h=>h
 | o::l,a,w,hg,h=>by
  rw[List.map_cons] at h;unfold wpList at h⊢;have g:=hg o List.mem_cons_self;have w1:Region.wanted (zB8 o) (yielded arr' a.tmps)=true:=by unfold Region.wanted;rw[zT3,g]
  have w2:Region.wanted o (yielded arr a.tmps)=true:=by unfold Region.wanted;rw[g]
  rw[if_pos w1] at h;rw[if_pos w2];rcases h with h|h
  ·exact .inl (Oper.wp_mono (fun a' w' h'=>zLZ l a' w' (fun o' ho'=>hg o' (List.mem_cons_of_mem _ ho')) h') (z4X h))
  ·exact .inr ⟨zWF h.1,h.2⟩
theorem Wsem.regionIns {P:Program} {T:TT} (hT:zU P T) {arr:Array Oper} {id:Nat} {vs:List (Nat×SV)} {ow:List (Nat×Nat×Nat)} {al:List Nat} {hp:List (Nat×HO)} {n:CE->Prop} {x:Nat->CE->Prop} {r:CE->Prop}
  (hg:(arr.toList.all fun o=>o.guard.isNone)=true) (h:crf vs fun vs=>zEQ P T (arr.toList.map zB8) (arr.toList.map zB8) ⟨vs,ow,[],hp⟩ n):Wsem P (.region id arr false) ⟨vs,ow,al,hp⟩ n x r:=by
 intro cx _ hk g a w hR;simp only[zV,List.all_eq_true] at hk;have hd:∀o∈arr.toList.map zB8,∀d,o.dst=some d->d<cx.n:=fun o ho d hd=>by
  obtain⟨o',ho',rfl⟩:=List.mem_map.1 ho;have:=hk o' ho';rw[zPM] at hd;rw[hd] at this;exact Nat.le_of_ble_eq_true this
 simp only[zD5] at h;obtain⟨g',hR'⟩:=hR.refresh;refine wp_region_list (zLZ (arr':=(arr.toList.map zB8).toArray) arr.toList a w (fun o ho=>?_) ?_)
 ·have:=List.all_eq_true.1 hg o ho;cases hgu:o.guard with
  | none=>rfl
  | some x=>rw[hgu] at this;cases this
 ·exact zB4 (arr:=(arr.toList.map zB8).toArray) hT trivial (fun c g a w h1 h2=>⟨c,g,h1,h2⟩) _ _ g' a w hd h (by rw[xE ⟨vs,ow,al,hp⟩];exact hR')
end Fp
