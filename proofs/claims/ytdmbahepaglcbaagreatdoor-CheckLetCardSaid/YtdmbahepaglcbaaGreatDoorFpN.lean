/- Code that panics with one value: contracts of calls that do; regions in the text's row. No condition. -/
import Derived.Test.YtdmbahepaglcbaaGreatDoorFpM
set_option linter.unusedSimpArgs false
set_option linter.unusedVariables false
namespace Fp
open Go Go.MapKept Go.RowKit
def zJ4 (pv:Value):List PanicEntry:=[{v:=pv,recovered:=false}]
def zLI (P:Program) (fv:Value) (args:List AV) (pv:Value):Prop :=
 ∃f first cap,fv = .func (.func f) first cap/\Enters P f/\∀F w vs,Fresh F w->zAS F w vs args [] ->
  Calls P f (first++vs.toArray++cap) w fun e w'=>e = .panicked (zJ4 pv)/\Below w.heap.size w w'
abbrev zCZ (P:Program) (f:Nat) (args:List AV) (pv:Value):Prop:=zLI P (fnv f) args pv
def zQX (pv:Value) (cx:Ctx) (n:CE->Prop) (x:Nat->CE->Prop) (r:CE->Prop):Exit->Act->World->Prop
 | .panic ch,a,w=>ch=zJ4 pv/\a.defers=cx.ds/\Kept cx.F cx.hk cx.yk cx.W w
 | e,a,w=>CPost cx n x r e a w
theorem CPost.q {pv:Value} {cx:Ctx} {n:CE->Prop} {x:Nat->CE->Prop} {r:CE->Prop} {e:Exit} {a:Act} {w:World} (h:CPost cx n x r e a w):zQX pv cx n x r e a w:=by
 cases e with
 | panic ch=>exact h.elim
 | _=>exact h
def WsemQ (pv:Value) (P:Program) (q:Code) (c:CE) (n:CE->Prop) (x:Nat->CE->Prop) (r:CE->Prop):Prop :=
 ∀cx:Ctx,zW cx.n q=true->∀g a w,Rel cx g (den c) a w->q.wp P (zQX pv cx n x r) a w
section
variable {P:Program} {T:TT} {pv:Value}
theorem WsemQ.ofS {q:Code} {c:CE} {n:CE->Prop} {x:Nat->CE->Prop} {r:CE->Prop} (h:Wsem P q c n x r):WsemQ pv P q c n x r :=
 fun cx hk g a w hR=>Go.wp_mono (h cx trivial hk g a w hR) fun _ _ _ hp=>hp.q
theorem WsemQ.of (hT:zN P T) (hm:P.follows .mixedOrders=true) {q:Code} {c:CE} {n:CE->Prop} {x:Nat->CE->Prop} {r:CE->Prop} (h:WcX P T q c n x r):WsemQ pv P q c n x r := .ofS (Wsem.of hT hm h)
theorem WsemQ.seqS {p q:Code} {c:CE} {n:CE->Prop} {x:Nat->CE->Prop} {r:CE->Prop} (h:WsemQ pv P p c (fun c=>WsemQ pv P q c n x r) x r):WsemQ pv P (.seq p q) c n x r:=by
 intro cx hk g a w hR;simp only[zW,Bool.and_eq_true] at hk;refine wp_seq (Go.wp_mono (h cx hk.1 g a w hR) fun ex a w hp=>?_);cases ex with
 | normal=>obtain⟨c',g',h1,h2⟩:=hp;exact h1 cx hk.2 g' a w h2
 | _=>exact hp
theorem WsemQ.seq (hT:zN P T) (hm:P.follows .mixedOrders=true) {p q:Code} {c:CE} {n:CE->Prop} {x:Nat->CE->Prop} {r:CE->Prop} (h:WcX P T p c (fun c=>WsemQ pv P q c n x r) x r):WsemQ pv P (.seq p q) c n x r := .seqS (.of hT hm h)
def z5N (pv:Value) (cx:Ctx) (Q:Exit->Act->World->Prop):Prop := ∀a w,a.defers=cx.ds->Kept cx.F cx.hk cx.yk cx.W w->Q (.panic (zJ4 pv)) a w
def z4N (pv:Value) (P:Program) (o:Oper) (e:Env) (m:Nat):Prop :=
 ∀cx e' g a w,Agree m e e'->Rel cx g e' a w->∀(K:Act->World->Prop) (Q:Exit->Act->World->Prop),z5N pv cx Q->o.wp P a w K Q
theorem Kept.below {F:Nat->Option Nat} {hk yk:List Nat} {W w w':World} (h:Kept F hk yk W w) (hb:Below w.heap.size w w'):Kept F hk yk W w':=by
 refine⟨hb.os.trans h.os,hb.tape.trans h.tape,hb.output.trans h.output,Nat.le_trans h.size hb.size,fun b hlt=>?_⟩;have e:=hb.block b (Nat.lt_of_lt_of_le hlt h.size);rcases h.block b hlt with h1|⟨h1,cs,cs',E,m,k1,k2,k3⟩|h1
 ·exact .inl h1
 ·exact .inr (.inl ⟨h1,cs,cs',E,m,k1,e.trans k2,k3⟩)
 ·exact .inr (.inr (e.trans h1))
theorem zUF {o:Oper} {c:Call} {f:Operand} {e:Env} (ho:o.op = .call c) (hc:c.callee = .value f) {fv:Value} (hf:opd e f = .v (.lit fv)) {args:List AV} (ha:ArgsAs e c.args.toList args) (hp:zLI P fv args pv):z4N pv P o e (zJ f ||| zG c.args.toList):=by
 intro cx e' g a w hag hR K Q hQ;obtain⟨n,first,cap,he,hen,hcalls⟩:=hp;obtain⟨al,ar⟩:=ArgsAs.rep hag hR Sub.inr ha;have hfv:=(zF hag hR Sub.inl hf).lit_eq.1;rw[he] at hfv;unfold Oper.wp;rw[zEB ho hc hfv hen,Oper.upon_enter];have hargs:c.args.map a.eval=(c.args.toList.map a.eval).toArray:=Array.toList_inj.1 (by simp);rw[hargs];have hy:zZ (c.args.toList.map a.eval) []=[]:=by cases c.args.toList<;>rfl
 refine (hcalls g.F w (c.args.toList.map a.eval) hR.fresh ⟨by simp[al],ar,fun i v sz _ h=>by simp at h,by rw[hy];exact List.nodup_nil⟩).mono fun en w' hpost=>?_;obtain⟨rfl,hB⟩:=hpost;exact hQ a w' hR.defers (hR.kept.below hB)
section
variable {arr:Array Oper}
theorem zGK (hT:zN P T) {k:CE->Prop} {Q:Exit->Act->World->Prop} {cx:Ctx} {r2:List Oper} (hK:∀c g a w,k c->Rel cx g (den c) a w->wpList P arr Q r2 a w):∀(r:List Oper) (c:CE) (g:G) (a:Act) (w:World),
  (∀o∈r,∀d,o.dst=some d->d<cx.n)->zCL P T arr.toList r c k->Rel cx g (den c) a w->wpList P arr Q (r++r2) a w
 | [],c,g,a,w,_,h,hR=>hK c g a w (by cases c;exact h) hR
 | o::r,c,g,a,w,hd,h,hR=>by
  have h':cgk arr.toList o c (fun c=>zOI P T arr.toList o c fun c=>zCL P T arr.toList r c k) (fun c=>zCL P T arr.toList r (capp c (putU o.dst .undef)) k):=by cases c;exact h
  obtain⟨c1,t,q1,q2,q3,q4⟩:=jA h';have hw:=q2 cx g (den c1) a w (Agree.refl _ _) (hR.eqv q1);show wpList P arr Q (o::(r++r2)) a w;unfold wpList;have hdo:=hd o List.mem_cons_self;cases t with
  | true =>
   rw[if_pos hw];refine .inl (zGZ (arr:=arr) hT (q3 rfl) trivial hdo (hR.eqv q1) fun c' g' a' w' hu hR'=>?_);exact zGK hT hK r c' g' a' w' (fun o' ho'=>hd o' (List.mem_cons_of_mem _ ho')) hu hR'
  | false =>
   rw[if_neg (by rw[hw];simp)];exact zGK hT hK r _ g _ w (fun o' ho'=>hd o' (List.mem_cons_of_mem _ ho')) (q4 rfl) (by rw[yE];exact (hR.eqv q1).putU hdo (fun d=>(rfl:SlotOk g w d .undef undef)))
def zSA (pv:Value) (P:Program) (o:Oper) (c:CE):Prop:=match o.guard,o.op with
 | none,.call cl=>match cl.callee with
  | .value f=>match opd (den c) f with
   | .v (.lit fv)=>match opds (den c) cl.args.toList with
    | some args=>zLI P fv args pv
    | none=>False
   | _=>False
  | _=>False
 | _,_=>False
def zVH (o:Oper):Nat:=match o.op with
 | .call cl=>match cl.callee with
  | .value f=>zJ f ||| zG cl.args.toList
  | _=>0
 | _=>0
theorem zQ5 {o:Oper} {c:CE} (h:zSA pv P o c):o.guard=none/\z4N pv P o (den c) (zVH o):=by
 unfold zSA at h;split at h
 ·rename_i cl hg ho;split at h
  ·rename_i f hc;split at h
   ·rename_i fv hf;split at h
    ·rename_i args ha;refine⟨hg,?_⟩;have e:zVH o=(zJ f ||| zG cl.args.toList):=by unfold zVH;simp only[ho,hc]
     rw[e];exact zUF ho hc hf (zE8 ha) h
    ·exact h.elim
   ·exact h.elim
  ·exact h.elim
 ·exact h.elim
theorem WsemQ.region (hT:zN P T) (k:Nat) {id:Nat} {vs:List (Nat×SV)} {ow:List (Nat×Nat×Nat)} {al:List Nat} {hp:List (Nat×HO)} {n:CE->Prop} {x:Nat->CE->Prop} {r:CE->Prop}
  (h:crf vs fun vs=>zCL P T arr.toList (arr.toList.take k) ⟨vs,ow,[],hp⟩ fun c=>match arr.toList[k]? with|some o=>zSA pv P o c|none=>False):WsemQ pv P (.region id arr false) ⟨vs,ow,al,hp⟩ n x r:=by
 intro cx hk g a w hR;simp only[zW,List.all_eq_true] at hk;have hd:∀o∈arr.toList,∀d,o.dst=some d->d<cx.n:=fun o ho d hd=>by
  have:=hk o ho;rw[hd] at this;exact Nat.le_of_ble_eq_true this
 simp only[zGB] at h;obtain⟨g',hR'⟩:=hR.refresh;refine wp_region_list ?_;have e:arr.toList=arr.toList.take k++arr.toList.drop k:=(List.take_append_drop k arr.toList).symm;have:=zGK (P:=P) (arr:=arr) (T:=T) hT (r2:=arr.toList.drop k) (Q:=zQX pv cx n x r) (cx:=cx) (k:=fun c=>match arr.toList[k]? with|some o=>zSA pv P o c|none=>False) (fun c g a w hc hR=>?_) (arr.toList.take k) _ g' a w (fun o ho=>hd o (List.mem_of_mem_take ho)) h (by rw[xQ ⟨vs,ow,al,hp⟩];exact hR')
 ·rw[<-e] at this;exact this
 ·cases hk2:arr.toList[k]? with
  | none=>rw[hk2] at hc;exact hc.elim
  | some o =>
   rw[hk2] at hc;obtain⟨hg,hB⟩:=zQ5 hc;have hlt:=(List.getElem?_eq_some_iff.1 hk2).1;have e2:arr.toList.drop k=o::arr.toList.drop (k+1):=by
    rw[List.drop_eq_getElem_cons hlt]
    congr 1
    exact (List.getElem?_eq_some_iff.1 hk2).2
   rw[e2];unfold wpList;have hw:Region.wanted o (yielded arr a.tmps)=true:=by unfold Region.wanted;rw[hg]
   rw[if_pos hw];exact .inl (hB cx _ g a w (Agree.refl _ _) hR _ _ fun a w h1 h2=>⟨rfl,h1,h2⟩)
end
end
section
variable {P:Program} {T:TT} {pv:Value} {arr:Array Oper}
end
section
variable {P:Program} {T:TT} {pv:Value}
theorem zCV (hT : zN P T) (hm : P.follows .mixedOrders = true) {f : Nat} {fn : Func} {c : Code} (hf : P.funcs[f]? = some fn) (hb : fn.body = some c) (hname : (fn.name == "runtime.NumGoroutine") = false) {args : List AV}
  (hlen:args.length<=fn.ntmps) (hk:zW fn.ntmps c=true) (hw:WsemQ pv P c (wU args [] []) (fun _=>False) (fun _ _=>False) (fun _=>False)):zCZ P f args pv:=by
 refine⟨f,_,_,rfl,⟨fn,hf,by rw[hb];rfl,hname⟩,fun F w vs hfr ha=>?_⟩;have hy0:zZ vs []=[]:=by cases vs<;>rfl
 rw[show #[]++vs.toArray ++ #[]=vs.toArray by simp];obtain⟨g,hR⟩:=zAH (hin:=[]) hfr ⟨List.nodup_nil,fun b hb=>by simp[keys] at hb,fun x hx=>by simp at hx⟩ ha (fun b hb=>by rw[hy0] at hb;simp at hb) (n:=fn.ntmps) (by rw[ha.len];exact hlen);refine calls_of_wp hf hb (Go.wp_mono (hw _ hk g _ _ (hR.weaken (qC args [] []) (jG args [] []) (fun _=>rfl) rfl)) fun ex a w' hp=>?_);cases ex with
 | normal=>obtain⟨_,_,h,_⟩:=hp;exact h.elim
 | ret=>obtain⟨_,_,h,_⟩:=hp;exact h.elim
 | exit i=>obtain⟨_,_,h,_⟩:=hp;exact h.elim
 | goto l=>exact hp.elim
 | outgrown=>exact hp.elim
 | panic ch =>
  obtain⟨rfl,h1,h2⟩:=hp;refine⟨h1,rfl,h2.os,h2.tape,h2.output,h2.size,fun b hb=>?_⟩;rcases h2.block b hb with h|⟨h,_⟩|h
  ·simp[keys] at h
  ·rw[hy0] at h;simp at h
  ·exact h
end
def zAX (o:Oper):Oper:=match o.op with
 | .insert t m k x=>{o with op := .mapUpdate t m k x}
 | _=>o
theorem zHH (o:Oper) (ρ:Operand->Value):execOp ρ (zAX o)=execOp ρ o:=by
 unfold zAX;split
 ·rename_i t m k x h;unfold execOp;simp only[h]
 ·rfl
theorem zKX (o:Oper):(zAX o).dst=o.dst:=by unfold zAX;split<;>rfl
theorem zM5 (o:Oper):(zAX o).guard=o.guard:=by unfold zAX;split<;>rfl
theorem zV7 {P:Program} {o:Oper} {a:Act} {w:World} {K:Act->World->Prop} {Q:Exit->Act->World->Prop} (h:(zAX o).wp P a w K Q):o.wp P a w K Q:=by
 unfold Oper.wp at h⊢;rw[zHH] at h;have hd:=zKX o;cases hr:(execOp a.eval o).run P w with
 | ok x w' =>
  rw[hr] at h;cases x<;>simp only[Oper.upon] at h⊢<;>first|(rw[hd] at h;exact h)|exact h
 | halt x w' =>
  rw[hr] at h;cases x<;>exact h
theorem zPQ {P:Program} {o:Oper} {a:Act} {w:World} (h:(zAX o).asks P a w):o.asks P a w:=by
 unfold Oper.asks at h⊢;rw[zHH] at h;exact h
theorem zI9 {P:Program} {arr arr':Array Oper} {Q:Exit->Act->World->Prop}:∀(l:List Oper) (a:Act) (w:World),(∀o∈l,o.guard=none)->wpList P arr' Q (l.map zAX) a w->wpList P arr Q l a w
 | [],a,w,_,h=>h
 | o::l,a,w,hg,h=>by
  rw[List.map_cons] at h;unfold wpList at h⊢;have g:=hg o List.mem_cons_self;have w1:Region.wanted (zAX o) (yielded arr' a.tmps)=true:=by unfold Region.wanted;rw[zM5,g]
  have w2:Region.wanted o (yielded arr a.tmps)=true:=by unfold Region.wanted;rw[g]
  rw[if_pos w1] at h;rw[if_pos w2];rcases h with h|h
  ·exact .inl (Oper.wp_mono (fun a' w' h'=>zI9 l a' w' (fun o' ho'=>hg o' (List.mem_cons_of_mem _ ho')) h') (zV7 h))
  ·exact .inr ⟨zPQ h.1,h.2⟩
theorem Wsem.regionIns {P:Program} {T:TT} (hT:zN P T) {arr:Array Oper} {id:Nat} {vs:List (Nat×SV)} {ow:List (Nat×Nat×Nat)} {al:List Nat} {hp:List (Nat×HO)} {n:CE->Prop} {x:Nat->CE->Prop} {r:CE->Prop}
  (hg:(arr.toList.all fun o=>o.guard.isNone)=true) (h:crf vs fun vs=>zCL P T (arr.toList.map zAX) (arr.toList.map zAX) ⟨vs,ow,[],hp⟩ n):Wsem P (.region id arr false) ⟨vs,ow,al,hp⟩ n x r:=by
 intro cx _ hk g a w hR;simp only[zW,List.all_eq_true] at hk;have hd:∀o∈arr.toList.map zAX,∀d,o.dst=some d->d<cx.n:=fun o ho d hd=>by
  obtain⟨o',ho',rfl⟩:=List.mem_map.1 ho;have:=hk o' ho';rw[zKX] at hd;rw[hd] at this;exact Nat.le_of_ble_eq_true this
 simp only[zGB] at h;obtain⟨g',hR'⟩:=hR.refresh;refine wp_region_list (zI9 (arr':=(arr.toList.map zAX).toArray) arr.toList a w (fun o ho=>?_) ?_)
 ·have:=List.all_eq_true.1 hg o ho;cases hgu:o.guard with
  | none=>rfl
  | some x=>rw[hgu] at this;cases this
 ·exact zAY (arr:=(arr.toList.map zAX).toArray) hT trivial (fun c g a w h1 h2=>⟨c,g,h1,h2⟩) _ _ g' a w hd h (by rw[xQ ⟨vs,ow,al,hp⟩];exact hR')
end Fp
