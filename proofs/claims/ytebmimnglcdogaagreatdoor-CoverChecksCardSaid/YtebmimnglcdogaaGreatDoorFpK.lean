/- Code within a round of a range over a function. No condition. -/
import Derived.Test.YtebmimnglcdogaaGreatDoorFpJ
import Derived.RangeFuncNested
import Derived.OrdersIn
import Derived.TacticsIn
set_option linter.unusedSimpArgs false
set_option linter.unusedVariables false
namespace Fp
open Go Go.MapKept
def FW (rd:Option Nat):Fence:={Fence.wide with round:=rd}
theorem zRX {rd:Option Nat} {n:Nat} {P:Program} {f:FuncId} {args:Array Value} {w:World} {R:Ending->World->Prop} (h:Calls P f args w R):CallsIn (FW rd) n P f args w R:=(callsIn_wide (n:=n)).2 h
def zCK (o:Oper):Bool:=match o.op with
 | .defer _=>true
 | _=>false
def yM:Code->Bool
 | .region _ ops _=>ops.toList.all (fun o => !zCK o)
 | .seq a b=>yM a && yM b
 | .cond _ a b=>yM a && yM b
 | .block _ c=>yM c
 | .loop c=>yM c
 | .scope _=>false
 | .rangeFunc _ _ a b=>yM a && yM b
 | _=>true
section
variable {P:Program} {T:TT} {rd:Option Nat}
theorem zWR {o:Oper} {a:Act} {K:Act->World->Prop} {Q:Exit->Act->World->Prop} {n:Nat}:∀{r:Result Next},o.upon P a K Q r->o.uponIn (FW rd) n P a K Q r
 | .ok x w',h=>by
  cases x<;>simp only[Oper.upon,Oper.uponIn] at h⊢ <;>
   first
    | exact h
    | exact⟨fun h=>by simp[FW,Fence.wide] at h,zRX h⟩
    | exact⟨fun h=>by simp[FW,Fence.wide] at h,fun c cs _=>by obtain⟨v,w2,h1,h2⟩:=h c cs;exact⟨v,w2,h1,stepsIn_wide.2 h2⟩⟩
    | exact h.elim
 | .halt x w',h=>by cases x<;>simp only[Oper.upon,Oper.uponIn] at h⊢<;>exact h
theorem zEV {o:Oper} (hd:zCK o=false) {a:Act} {w:World} {K:Act->World->Prop} {Q:Exit->Act->World->Prop} {n:Nat} (h:o.wp P a w K Q):o.wpIn (FW rd) n P a w K Q:=by
 refine⟨fun _ _=>trivial,?_⟩;rw[Oper.semAt_eq _ _ _ (fun c hc=>by simp[zCK,hc] at hd)];exact zWR h
theorem zBF {ops:Array Oper} {Q:Exit->Act->World->Prop} (hQ:¬LetsOut Q) {n:Nat}:∀(l:List Oper) (a:Act) (w:World),(∀o∈l,zCK o=false)->wpList P ops Q l a w->wpListIn (FW rd) n P ops Q l a w
 | [],a,w,_,h=>h
 | o::r,a,w,hd,h=>by
  unfold wpList at h;unfold wpListIn;split at h
  ·rename_i hw;rw[if_pos hw];rcases h with h|h
   ·exact Oper.wpIn_mono (fun a w h=>zBF hQ r a w (fun o ho=>hd o (List.mem_cons_of_mem _ ho)) h) (zEV (hd o List.mem_cons_self) h)
   ·exact absurd h.2 hQ
  ·rename_i hw;rw[if_neg hw];exact⟨fun _ _=>trivial,zBF hQ r _ w (fun o ho=>hd o (List.mem_cons_of_mem _ ho)) h⟩
theorem zCR {ops:Array Oper} {Q:Exit->Act->World->Prop} (hQ:¬LetsOut Q) {n:Nat} (hd:∀o∈ops.toList,zCK o=false) {md:Region.Mode}:∀(fuel:Nat) (L:Array Bool) (a:Act) (w:World),wpAny P md ops Q fuel L a w->wpAnyIn (FW rd) n P md ops Q fuel L a w
 | 0,L,a,w,h=>h
 | fuel+1,L,a,w,h=>by
  refine⟨h.1,fun i hi=>?_⟩;have h2:=h.2 i hi;unfold wpOp at h2;unfold wpOpIn;split at h2
  ·rename_i ho;simp only[ho];exact zCR hQ hd fuel _ a w h2
  ·rename_i o ho;simp only[ho];have hdo:zCK o=false:=hd o (by rw[<-Array.getElem?_toList] at ho;exact List.mem_of_getElem? ho);split at h2
   ·rename_i hw;rw[if_pos hw];rcases h2 with h2|h2
    ·exact Oper.wpIn_mono (fun a w h=>zCR hQ hd fuel _ a w h) (zEV hdo h2)
    ·exact absurd h2.2 hQ
   ·rename_i hw;rw[if_neg hw];exact⟨fun _ _=>trivial,zCR hQ hd fuel _ _ w h2⟩
theorem zJP {cx:Ctx} {n:CE->Prop} {x:Nat->CE->Prop} {r:CE->Prop}:¬LetsOut (zEE cx n x r):=fun⟨_,_,h⟩=>h
theorem zPU (hT:zN P T) (hm:P.follows .mixedOrders=true) {cx:Ctx} (hyk:True) {m:Nat}:∀(q:Code) (c:CE) (n:CE->Prop) (x:Nat->CE->Prop) (r:CE->Prop),zK cx.n q=true->yM q=true->WcX P T q c n x r ->
  ∀g a w,Rel cx g (den c) a w->q.wpIn (FW rd) m P (zEE cx n x r) a w:=by
 intro q;induction q with
 | skip=>intro c n x r _ _ h g a w hR;exact wpIn_skip ⟨c,g,h,hR⟩
 | region id ops draw =>
  intro c n x r hk hkr h g a w hR;simp only[zK,List.all_eq_true] at hk;simp only[yM,List.all_eq_true,Bool.not_eq_true'] at hkr;have hd:∀o∈ops.toList,∀d,o.dst=some d->d<cx.n:=fun o ho d hd=>by
   have:=hk o ho;rw[hd] at this;exact Nat.le_of_ble_eq_true this
  have hK:∀c g a w,n c->Rel cx g (den c) a w->zEE cx n x r .normal a w:=fun c g a w h1 h2=>⟨c,g,h1,h2⟩
  obtain⟨vs,ow,al,hp⟩:=c;rw[zJD] at h;simp only[zEP] at h;cases draw with
  | true =>
   obtain⟨g1,hR1⟩:=(hR.grow (Grow.drew w)).refresh;have hce:=yZ ⟨vs,ow,al,hp⟩;obtain⟨us,bs,p,t1,t2,t3,t4,t5,t6⟩:=zIE hT ops.toList _ (Fp.refresh (den ⟨vs,ow,al,hp⟩)) [] h (by rw[hce];exact EnvEq.refl _);refine wpIn_region_any hm (zCR zJP hkr _ _ _ _ (zKJ (B:=bs) (us:=us) (p:=p) (e0:=Fp.refresh (den ⟨vs,ow,al,hp⟩)) (fun b=>?_) hd t1 t2 (fun hp b j mp mj hj h1 h2=>zGE (t3 (by simpa using hp) b mp h1) (t4 b j mj hj h2)) (fun j o ho=>t5 j o (by simpa using ho)) (fun b g a w hR=>?_) ops.size _ 0 g1 a _ (by simp) ?_ (fun k o _ hl=>?_) ?_))
   ·obtain⟨c',⟨hc,_⟩,_⟩:=t6 b;exact zE6 hc
   ·obtain⟨c',⟨_,h2⟩,h3⟩:=t6 b;exact hK c' g a w h2 (hR.eqv h3)
   ·unfold left;exact Nat.le_trans (List.length_filter_le _ _) (by simp)
   ·rcases Nat.lt_or_ge k ops.size with hk|hk<;>simp[hk] at hl
   ·rw[zBR (us 0) 0 _ _ (fun j=>by rcases Nat.lt_or_ge j ops.size with hk|hk<;>simp[hk])];exact hR1
  | false =>
   obtain⟨g',hR'⟩:=hR.refresh;exact wpIn_region_list (zBF zJP _ _ _ hkr (qF hT hyk hK _ _ g' a w hd h (by rw[yZ ⟨vs,ow,al,hp⟩];exact hR')))
 | seq p q ihp ihq =>
  intro c n x r hk hkr h g a w hR;simp only[zK,Bool.and_eq_true] at hk;simp only[yM,Bool.and_eq_true] at hkr;refine wpIn_seq (Go.wpIn_mono (ihp c _ x r hk.1 hkr.1 h g a w hR) fun ex a w hp=>?_);cases ex with
  | normal=>obtain⟨c',g',h1,h2⟩:=hp;exact ihq c' n x r hk.2 hkr.2 h1 g' a w h2
  | _=>exact hp
 | cond o p q ihp ihq =>
  intro c n x r hk hkr h g a w hR;simp only[zK,Bool.and_eq_true] at hk;simp only[yM,Bool.and_eq_true] at hkr;have hag:=Agree.refl (zJ o) (den c);rw[zP8] at h;split at h
  ·rename_i t ho;have hv:=(zF hag hR (Sub.refl _) ho).lit_eq.1;cases t with
   | true=>exact wpIn_cond_true hv (ihp c n x r hk.1 hkr.1 h g a w hR)
   | false=>exact wpIn_cond_false hv (ihq c n x r hk.2 hkr.2 h g a w hR)
  ·rename_i t ho;have hv:=(zF hag hR (Sub.refl _) ho).sb_eq;have hR':=zFO hR ho;cases t with
   | true=>exact wpIn_cond_true hv (ihp _ n x r hk.1 hkr.1 (h.1 rfl) g a w (by rw[xZ];exact hR'))
   | false=>exact wpIn_cond_false hv (ihq _ n x r hk.2 hkr.2 (h.2 rfl) g a w (by rw[xZ];exact hR'))
  ·exact h.elim
 | block i q ih =>
  intro c n x r hk hkr h g a w hR;refine wpIn_block (Go.wpIn_mono (ih c n _ r hk hkr h g a w hR) fun ex a w hp=>?_);cases ex with
  | normal=>exact hp
  | exit j =>
   obtain⟨c',g',h1,h2⟩:=hp;simp only[Exit.inBlock];by_cases hj:j=i
   ·rw[if_pos hj];subst hj;rw[Nat.beq_refl] at h1;exact⟨c',g',h1,h2⟩
   ·rw[if_neg hj];rw[Nat.beq_ne hj] at h1;exact⟨c',g',h1,h2⟩
  | _=>exact hp
 | loop q ih =>
  intro c n x r hk hkr h g a w hR;obtain⟨α,I,μ,y,h1,h2⟩:=h;obtain⟨g0,hR0⟩:=hR.le h1;generalize hSS:(fun (a:Act) (w:World) (m:Nat) => ∃y g,μ y=m/\Rel cx g (mkE (I y)) a w)=S;have hS1:∀{a:Act} {w:World} {m:Nat},(∃y g,μ y=m/\Rel cx g (mkE (I y)) a w)->S a w m:=fun h=>by rw[<-hSS];exact h
  have hS2:∀{a:Act} {w:World} {m:Nat},S a w m->(∃y g,μ y=m/\Rel cx g (mkE (I y)) a w):=fun h=>by rw[<-hSS] at h;exact h
  refine wpIn_loop (fun a w => ∃m,S a w m) (fun a w=>least (S a w)) ⟨μ y,hS1 ⟨y,g0,rfl,hR0⟩⟩ fun a w hS=>?_;obtain⟨y1,g1,h3,h4⟩:=hS2 (yX hS).1;refine Go.wpIn_mono (ih (mkC (I y1)) _ x r hk hkr (h2 y1) g1 a w (by rw[zBB];exact h4)) fun ex a' w' hp=>?_;cases ex with
  | normal =>
   obtain⟨c',g',⟨z,h5,h6⟩,h7⟩:=hp;obtain⟨g2,h8⟩:=h7.le h6;have hz:S a' w' (μ z):=hS1 ⟨z,g2,rfl,h8⟩;refine⟨⟨_,hz⟩,?_⟩;have:=(yX ⟨_,hz⟩).2 _ hz;omega
  | _=>exact hp
 | scope q ih=>intro c n x r _ hkr;cases hkr
 | label l=>intro c n x r _ _ h g a w hR;exact wpIn_label ⟨c,g,h,hR⟩
 | exit i=>intro c n x r _ _ h g a w hR;exact wpIn_exit ⟨c,g,h,hR⟩
 | ret=>intro c n x r _ _ h g a w hR;exact wpIn_ret ⟨c,g,h,hR⟩
 | rangeFunc=>intro c n x r _ _ h;exact h.elim
 | goto=>intro c n x r _ _ h;exact h.elim
 | refuse=>intro c n x r _ _ h;exact h.elim
end
open Go Go.MapKept Go.ChangeMaps
section
variable {P:Program} {T:TT} {rd:Option Nat}
theorem Rel.newRaw {cx:Ctx} {g:G} {e:Env} {a:Act} {w:World} (h:Rel cx g e a w) (o:Obj) {p:Obj->Prop} (hp:p o) :
  ∃g',(∀b,b<w.heap.size->g'.F b=g.F b)/\Rel cx g' {e with heap:=e.heap++[(w.heap.size,HO.raw p)]} a (w.alloc o):=by
 have hgr:=Grow.alloc w o;have hnew:(w.alloc o).heap[w.heap.size]? = some o:=World.heap_alloc_new w _;have h1:=h.extend hgr (b0:=w.heap.size) (Nat.le_refl _) (zL hnew) (some 0) .obj (fun s q h=>by cases h);have hlt:∀b,b<w.heap.size->b≠w.heap.size:=fun b hb he=>by omega
 have kp:Keeps g.F w (fun b=>if b=w.heap.size then some 0 else g.F b) (w.alloc o):=hgr.keeps (fun b hb=>by simp[hlt b hb]);have hold:∀b∈keys e.heap,b<w.heap.size:=fun b hb=>by
  obtain⟨x,hx,rfl⟩:=List.mem_map.1 hb;exact (h.heap.ok x hx).lt
 have hk:keys (e.heap++[(w.heap.size,HO.raw p)])=keys e.heap++[w.heap.size]:=by simp[keys]
 refine⟨_,fun b hb=>?_,h1.heapTo ⟨?_,fun b hb=>?_,fun x hx=>?_⟩ fun b hb=>?_⟩
 ·simp only[hlt b hb,if_false]
 ·rw[hk];refine List.nodup_append.2 ⟨h.heap.nodup,by simp,?_⟩;rintro a ha b hb rfl;simp at hb;exact hlt a (hold a ha) hb
 ·rw[hk] at hb;rcases List.mem_append.1 hb with hb|hb
  ·simp only[hlt b (hold b hb),if_false];exact h.heap.shut b hb
  ·simp at hb;simp[hb]
 ·rcases List.mem_append.1 hx with hx|hx
  ·exact (h.heap.ok x hx).grow kp (fun hb=>hgr.block _ hb)
  ·simp at hx;subst hx;exact⟨o,hnew,hp⟩
 ·rw[hk] at hb;rcases List.mem_append.1 hb with hb|hb
  ·simp only[hlt b (hold b hb),if_false];exact h.heapO b hb
  ·simp at hb;simp[hb]
def zS6 (o:Obj):Prop:=(∀cs E fr,o≠.cells cs E fr)/\(∀es c,o≠.map es c)
theorem Rel.setRaw {cx : Ctx} {g : G} {e : Env} {a : Act} {w : World} (h : Rel cx g e a w) {i b : Nat} {p q : Obj -> Prop} (hi : e.heap[i]? = some (b, HO.raw p)) (hr : ∀ o, p o -> zS6 o) (o : Obj) (hq : q o) :
    Rel cx g { e with heap := e.heap.set i (b, HO.raw q) } a (w.putObj b o) := by
  have hmem := List.mem_of_getElem? hi;have hkey : b ∈ keys e.heap := List.mem_map.2 ⟨_, hmem, rfl⟩;have p2 := h.heapO b hkey;have p3 := h.heap.shut b hkey;obtain ⟨o0, m1, hp0⟩ := h.heap.ok _ hmem;simp only at m1;have hraw := hr o0 hp0;have hlt := zL m1;obtain ⟨w', hw'⟩ : ∃ w', w' = w.putObj b o := ⟨_, rfl⟩
  rw [<- hw'];have now : w'.heap[b]? = some o := by rw [hw']; exact World.putObj_heap_same hlt
  have blk : ∀ j, j ≠ b -> w'.heap[j]? = w.heap[j]? := fun j hj => by rw [hw']; exact World.putObj_heap_other hj
  have hsz : w'.heap.size = w.heap.size := by rw [hw']; simp
  have notCells : ∀ {cs E fr}, w.heap[b]? ≠ some (.cells cs E fr) := fun {cs E fr} e => by rw [m1] at e; injection e with e; exact hraw.1 _ _ _ e
  have kp : Keeps g.F w g.F w' := ⟨fun b2 k u hc hm => ⟨by
    by_cases hne : b2 = b
    · subst hne
      unfold World.cell? at hc;rw [m1] at hc;simp only [Option.bind_some] at hc;cases o0 with
      | cells cs E fr => exact absurd rfl (hraw.1 cs E fr)
      | _ => simp at hc
    · rw [World.cell_of_heap (blk b2 hne)]; exact hc, hm⟩, fun b2 es2 c2 hc hm => ⟨by
    by_cases hne : b2 = b
    · subst hne
      rw [m1] at hc; injection hc with hc; exact absurd hc (hraw.2 _ _)
    · exact (blk b2 hne).trans hc, hm⟩⟩
  have m : Mem g w g w' := ⟨kp, fun b2 s q hb => ⟨hb, rfl, blk b2 (fun e => by subst e; rw [p2] at hb; cases hb)⟩, fun b s q hb => .inl hb⟩
  have hks : keys (e.heap.set i (b, HO.raw q)) = keys e.heap := by
    unfold keys;rw [List.map_set];refine List.ext_getElem? fun j => ?_;by_cases hj : i = j
    · subst hj
      rw [List.getElem?_set_self (by simpa using (List.getElem?_eq_some_iff.1 hi).1), List.getElem?_map, hi]; rfl
    · rw [List.getElem?_set_ne hj]
  refine { size := h.size, defers := h.defers, kept := ?_, fext := h.fext, nbx := h.nbx, old := h.old, hkO := h.hkO, hkin := h.hkin, fresh := fun b hb => h.fresh b (by rw [<- hsz]; exact hb), freshO := fun b hb => h.freshO b (by rw [<- hsz]; exact hb),
           slots := fun s => (h.slots s).mem m, own := fun s c sz v ho hpv => ?_, heap := ?_, heapO := fun b2 hb2 => h.heapO b2 (by rw [<- hks]; exact hb2), al := h.al }
  · refine ⟨by rw [hw']; exact h.kept.os, by rw [hw']; exact h.kept.tape, by rw [hw']; exact h.kept.output, by rw [hsz]; exact h.kept.size, fun b2 hb2 => ?_⟩
    by_cases hne : b2 = b
    · subst hne
      exact .inl (h.hkin b2 hb2 p2)
    · rcases h.kept.block b2 hb2 with h1 | ⟨h1, cs, cs', E, mm, q1, q2, q3, q4, q5⟩ | h1
      · exact .inl h1
      · exact .inr (.inl ⟨h1, cs, cs', E, mm, q1, by rw [blk b2 hne]; exact q2, q3, q4, q5⟩)
      · exact .inr (.inr ((blk b2 hne).trans h1))
  · have ht := h.own s c sz v ho (PlaceVal.back h (fun b2 s q hb => (m.box b2 s q hb).2.2) hpv)
    refine ⟨?_, ht.2⟩;rcases ht.1 with h3 | h3 | ⟨b2, off, n, cap, cs2, E2, q1, q2, q3, q4, q5⟩
    · exact .inl h3
    · exact .inr (.inl h3)
    · refine .inr (.inr ⟨b2, off, n, cap, cs2, E2, q1, q2, q3, ?_, q5⟩)
      rw [blk b2 (fun e => by subst e; exact notCells q4)];exact q4
  · refine ⟨by show (keys (e.heap.set i (b, HO.raw q))).Nodup; rw [hks]; exact h.heap.nodup, fun b2 hb2 => h.heap.shut b2 (by rw [<- hks]; exact hb2), fun x hx => ?_⟩
    obtain ⟨j, hj⟩ := List.getElem?_of_mem hx;by_cases hij : i = j
    · subst hij
      change (e.heap.set i (b, HO.raw q))[i]? = some x at hj
      rw [List.getElem?_set_self (List.getElem?_eq_some_iff.1 hi).1] at hj;injection hj with hj
      subst hj;exact ⟨o, now, hq⟩
    · change (e.heap.set i (b, HO.raw q))[j]? = some x at hj
      rw [List.getElem?_set_ne hij] at hj;have hxb : x.1 ≠ b := fun e1 => by
        have hn := h.heap.nodup;have h1 : (keys e.heap)[i]? = some b := by simp [keys, hi]
        have h2 : (keys e.heap)[j]? = some b := by simp [keys, hj, e1]
        exact hij ((List.getElem?_inj (by simpa [keys] using (List.getElem?_eq_some_iff.1 hi).1) hn).1 (h1.trans h2.symm))
      exact (h.heap.ok x (List.mem_of_getElem? hj)).grow kp (fun _ => blk _ hxb)
theorem zMM {cx:Ctx} {g:G} {e:Env} {ac:Act} {w:World} (hR:Rel cx g e ac w) {hin rest:List (Nat×HO)} (hsub:∀x∈hin,x∈e.heap) (hrest:∀x∈rest,x∈e.heap/\x.1∉keys hin) (hrn:(keys rest).Nodup) {post:AV->Nat->List (Nat×HO)->Prop} {en:Ending} {w':World} (hpost:yJ g.F (keys hin) [] w post en w') :
  ∃v r n' hout g',en = .returned v/\post r n' hout/\Rep g'.F w' v r/\Rel cx g' {e with heap:=rest++hout} ac w':=by
 obtain⟨v,r,n',hout,F',rfl,p1,p2,p3,p4,p5,p6,p7,p8⟩:=hpost;have hcd:=Rel.called (d:=0) (tb:=none) hR (hin:=hin) (hout:=hout) (rest:=rest) (yk:=[]) (F':=F') hsub hrest hrn (fun b hb=>by simp at hb) p4 p5 p6 p7 p8 (fun b hb=>by cases hb);exact⟨v,r,n',hout,_,rfl,p1,p2,hcd⟩
def zM5 (P:Program) (F0:Nat->Option Nat) (w0:World) (l:Nat) (hin:List (Nat×HO)) (args:List AV) (post:AV->Nat->List (Nat×HO)->Prop):Prop :=
 ∀F w (vs:List Value) m,Keeps F0 w0 F w->Fresh F w->HeapIn F w hin->qQ F w vs args []->∃fn tmps assign body,(Instr.yield l vs.toArray).run P w = .ok (.round l fn tmps assign body) w/\RoundIn (FW none) m P l fn tmps assign body w (yJ F (keys hin) [] w post)
def WsemB (B:Ctx->Prop) (rd:Option Nat) (P:Program) (q:Code) (c:CE) (n:CE->Prop) (x:Nat->CE->Prop) (r:CE->Prop):Prop :=
 ∀cx:Ctx,B cx->True->zK cx.n q=true->yM q=true->∀g a w,Rel cx g (den c) a w->∀m,q.wpIn (FW rd) m P (zEE cx n x r) a w
variable {B:Ctx->Prop}
theorem WsemB.of (hT:zN P T) (hm:P.follows .mixedOrders=true) {q:Code} {c:CE} {n:CE->Prop} {x:Nat->CE->Prop} {r:CE->Prop} (h:WcX P T q c n x r):WsemB B rd P q c n x r :=
 fun _ _ hyk hk hkr g a w hR _=>zPU hT hm hyk q c n x r hk hkr h g a w hR
theorem WsemB.seqS {p q:Code} {c:CE} {n:CE->Prop} {x:Nat->CE->Prop} {r:CE->Prop} (h:WsemB B rd P p c (fun c=>WsemB B rd P q c n x r) x r):WsemB B rd P (.seq p q) c n x r:=by
 intro cx hB hyk hk hkr g a w hR m;simp only[zK,Bool.and_eq_true] at hk;simp only[yM,Bool.and_eq_true] at hkr;refine wpIn_seq (Go.wpIn_mono (h cx hB hyk hk.1 hkr.1 g a w hR m) fun ex a w hp=>?_);cases ex with
 | normal=>obtain⟨c',g',h1,h2⟩:=hp;exact h1 cx hB hyk hk.2 hkr.2 g' a w h2 m
 | _=>exact hp
theorem WsemB.seq (hT:zN P T) (hm:P.follows .mixedOrders=true) {p q:Code} {c:CE} {n:CE->Prop} {x:Nat->CE->Prop} {r:CE->Prop} (h:WcX P T p c (fun c=>WsemB B rd P q c n x r) x r):WsemB B rd P (.seq p q) c n x r:=WsemB.seqS (WsemB.of hT hm h)
theorem WsemB.block {i:Nat} {q:Code} {c:CE} {n:CE->Prop} {x:Nat->CE->Prop} {r:CE->Prop} (h:WsemB B rd P q c n (fun j c=>match Nat.beq j i with|true=>n c|false=>x j c) r):WsemB B rd P (.block i q) c n x r:=by
 intro cx hB hyk hk hkr g a w hR m;refine wpIn_block (Go.wpIn_mono (h cx hB hyk hk hkr g a w hR m) fun ex a w hp=>?_);cases ex with
 | normal=>exact hp
 | exit j =>
  obtain⟨c',g',h1,h2⟩:=hp;simp only[Exit.inBlock];by_cases hj:j=i
  ·rw[if_pos hj];subst hj;rw[Nat.beq_refl] at h1;exact⟨c',g',h1,h2⟩
  ·rw[if_neg hj];rw[Nat.beq_ne hj] at h1;exact⟨c',g',h1,h2⟩
 | _=>exact hp
theorem WsemB.loop {q:Code} {c:CE} {n:CE->Prop} {x:Nat->CE->Prop} {r:CE->Prop} {α:Type} (I:α->Fr) (μ:α->Nat) (y:α) (hle:le (den c) (I y)) (h:∀y,WsemB B rd P q (mkC (I y)) (fun c => ∃z,μ z<μ y/\le (den c) (I z)) x r):WsemB B rd P (.loop q) c n x r:=by
 intro cx hB hyk hk hkr g a w hR m;obtain⟨g0,hR0⟩:=hR.le hle;generalize hSS:(fun (a:Act) (w:World) (m:Nat) => ∃y g,μ y=m/\Rel cx g (mkE (I y)) a w)=S;have hS1:∀{a:Act} {w:World} {m:Nat},(∃y g,μ y=m/\Rel cx g (mkE (I y)) a w)->S a w m:=fun h=>by rw[<-hSS];exact h
 have hS2:∀{a:Act} {w:World} {m:Nat},S a w m->(∃y g,μ y=m/\Rel cx g (mkE (I y)) a w):=fun h=>by rw[<-hSS] at h;exact h
 refine wpIn_loop (fun a w => ∃m,S a w m) (fun a w=>least (S a w)) ⟨μ y,hS1 ⟨y,g0,rfl,hR0⟩⟩ fun a w hS=>?_;obtain⟨y1,g1,h3,h4⟩:=hS2 (yX hS).1;refine Go.wpIn_mono (h y1 cx hB hyk hk hkr g1 a w (by rw[zBB];exact h4) m) fun ex a' w' hp=>?_;cases ex with
 | normal =>
  obtain⟨c',g',⟨z,h5,h6⟩,h7⟩:=hp;obtain⟨g2,h8⟩:=h7.le h6;have hz:S a' w' (μ z):=hS1 ⟨z,g2,rfl,h8⟩;refine⟨⟨_,hz⟩,?_⟩;have:=(yX ⟨_,hz⟩).2 _ hz;omega
 | _=>exact hp
def Yields (P:Program) (l:Nat) (hin:List (Nat×HO)) (args:List AV) (post:AV->Nat->List (Nat×HO)->Prop) (cx:Ctx):Prop:=zM5 P cx.F cx.W l hin args post/\∀b∈cx.hk,cx.F b=some 0
def zIF (B:Ctx->Prop) (P:Program) (o:Oper) (c:CE) (k:CE->Prop):Prop:=match o.guard,o.op with
 | none,.call cl=>match cl.callee with
  | .value f=>match opd (den c) f with
   | .v (.lit fv)=>match opds (den c) cl.args.toList with
    | some args => ∃l post,fv = .func (.yield l) #[] #[]/\(∀cx,B cx->Yields P l c.hp args post cx)/\∀r w h,post r w h->k (capp c (putU o.dst (.v r)++[.heap h]))
    | none=>False
   | _=>False
  | _=>False
 | _,_=>False
def zUA (B:Ctx->Prop) (P:Program) (T:TT) (ops:List Oper) (l:List Oper):Nat->CE->(CE->Prop)->Prop:=List.rec (motive:=fun _=>Nat->CE->(CE->Prop)->Prop)
 (fun _ _ _=>False)
 (fun o r ih p c k=>match c with
  | ⟨vs,ow,al,h⟩=>match p with
   | 0=>zIF B P o ⟨vs,ow,al,h⟩ fun c=>zFM P T ops r c k
   | p+1=>cgk ops o ⟨vs,ow,al,h⟩ (fun c=>zL9 P T ops o c fun c=>ih p c k) (fun c=>ih p (capp c (putU o.dst .undef)) k)) l
theorem zQ6 {o:Oper} {c:Call} {f:Operand} (ho:o.op = .call c) (hc:c.callee = .value f) {ac:Act} {w:World} {l:Nat} (hf:ac.eval f = .func (.yield l) #[] #[]) :
  (execOp ac.eval o).run P w=(Instr.yield l (c.args.map ac.eval)).run P w:=by
 unfold execOp;simp only[ho,resolve,hc,hf,Deferred.ofValue,pure_bind,invoke];simp
theorem zOD {o:Oper} {c:CE} {k:CE->Prop} (h:zIF B P o c k) {cx:Ctx} (hB:B cx) (hyk:True) {g:G} {a:Act} {w:World} (hd:∀d,o.dst=some d->d<cx.n) (hR:Rel cx g (den c) a w) {m:Nat} {K:Act->World->Prop} {Q:Exit->Act->World->Prop}
  (hK:∀c' g' a' w',k c'->Rel cx g' (den c') a' w'->K a' w'):o.guard=none/\o.wpIn (FW rd) m P a w K Q:=by
 unfold zIF at h;split at h
 ·rename_i cl hg ho;split at h
  ·rename_i f hc;split at h
   ·rename_i fv hf;split at h
    ·rename_i args ha;obtain⟨l,post,rfl,hY,hpost⟩:=h;refine⟨hg,fun _ _=>trivial,?_⟩;obtain⟨hY,h0⟩:=hY cx hB;have hag:=Agree.refl (zJ f ||| zG cl.args.toList) (den c);have hfv:=(zF hag hR Sub.inl hf).lit_eq.1;obtain⟨al,ar⟩:=ArgsAs.rep hag hR Sub.inr (zFL ha);rw[Oper.semAt_eq _ _ _ (fun c hc2=>by rw[ho] at hc2;cases hc2),zQ6 ho hc hfv];have hargs:cl.args.map a.eval=(cl.args.toList.map a.eval).toArray:=Array.toList_inj.1 (by simp);rw[hargs];have hkp:Keeps cx.F cx.W g.F w:=hR.kept.keeps hR.fext h0;have hyk0:∀vs:List Value,zS vs []=[]:=fun vs=>by cases vs<;>rfl
     obtain⟨fn,tmps,assign,body,hy,hround⟩:=hY g.F w (cl.args.toList.map a.eval) (m-1) hkp hR.fresh hR.heap ⟨by simp[al],ar,fun i v sz _ h=>by simp at h,by rw[hyk0];exact List.nodup_nil⟩;rw[hy];refine⟨fun h=>by simp[FW,Fence.wide] at h,RoundIn.mono (show RoundIn (FW rd) (m-1) P l fn tmps assign body w _ from hround) fun e w' hp=>?_⟩;obtain⟨v,r,n',hout,g',rfl,p1,p2,p3⟩:=zMM hR (hin:=c.hp) (rest:=[]) (fun x hx=>hx) (fun x hx=>by simp at hx) List.nodup_nil hp;have hp2:=hpost r n' hout p1;refine hK _ g' _ w' hp2 ?_;rw[yC];have h3:=p3.putU hd (x := .v r) (v:=v) (fun d=>p2);have he:app {den c with heap:=[]++hout} (putU o.dst (.v r))=app (den c) (putU o.dst (.v r)++[.heap hout]):=by
      rw[yG];cases o.dst with
      | none=>exact Env.ext' (fun _=>rfl) (fun _ _=>rfl) (fun _=>rfl) rfl
      | some d=>exact Env.ext' (fun _=>rfl) (fun _ _=>rfl) (fun _=>rfl) rfl
     rw[<-he];exact h3
    ·exact h.elim
   ·exact h.elim
  ·exact h.elim
 ·exact h.elim
theorem zEK (hT:zN P T) {arr:Array Oper} {k:CE->Prop} {Q:Exit->Act->World->Prop} (hQ:¬LetsOut Q) {cx:Ctx} (hB:B cx) (hyk:True) (hK:∀c g a w,k c->Rel cx g (den c) a w->Q .normal a w) {m:Nat}:∀(r:List Oper) (p:Nat) (c:CE) (g:G) (a:Act) (w:World),
  (∀o∈r,∀d,o.dst=some d->d<cx.n)->(∀o∈r,zCK o=false)->zUA B P T arr.toList r p c k->Rel cx g (den c) a w->wpListIn (FW rd) m P arr Q r a w
 | [],p,c,g,a,w,_,_,h,hR=>h.elim
 | o::r,0,c,g,a,w,hd,hdf,h,hR=>by
  have h':zIF B P o c fun c=>zFM P T arr.toList r c k:=by cases c;exact h
  obtain⟨hg,hw⟩:=zOD (rd:=rd) h' hB hyk (m:=m) (Q:=Q) (K:=wpListIn (FW rd) m P arr Q r) (hd o List.mem_cons_self) hR fun c' g' a' w' h1 h2 =>
   zBF hQ r a' w' (fun o ho=>hdf o (List.mem_cons_of_mem _ ho)) (qF hT hyk hK r c' g' a' w' (fun o' ho'=>hd o' (List.mem_cons_of_mem _ ho')) h1 h2)
  unfold wpListIn;rw[if_pos (by unfold Region.wanted;rw[hg])];exact hw
 | o::r,p+1,c,g,a,w,hd,hdf,h,hR=>by
  have h':cgk arr.toList o c (fun c=>zL9 P T arr.toList o c fun c=>zUA B P T arr.toList r p c k) (fun c=>zUA B P T arr.toList r p (capp c (putU o.dst .undef)) k):=by cases c;exact h
  obtain⟨c1,t,q1,q2,q3,q4⟩:=jG h';have hw:=q2 cx g (den c1) a w (Agree.refl _ _) (hR.eqv q1);unfold wpListIn;have hdo:=hd o List.mem_cons_self;cases t with
  | true =>
   rw[if_pos hw];refine zEV (hdf o List.mem_cons_self) (zHO (arr:=arr) hT (q3 rfl) hyk hdo (hR.eqv q1) fun c' g' a' w' hu hR'=>?_);exact zEK hT hQ hB hyk hK r p c' g' a' w' (fun o' ho'=>hd o' (List.mem_cons_of_mem _ ho')) (fun o ho=>hdf o (List.mem_cons_of_mem _ ho)) hu hR'
  | false =>
   rw[if_neg (by rw[hw];simp)];exact⟨fun _ _=>trivial,zEK hT hQ hB hyk hK r p _ g _ w (fun o' ho'=>hd o' (List.mem_cons_of_mem _ ho')) (fun o ho=>hdf o (List.mem_cons_of_mem _ ho)) (q4 rfl) (by rw[yC];exact (hR.eqv q1).putU hdo (fun d=>(rfl:SlotOk g w d .undef undef)))⟩
theorem WsemB.regionY (hT:zN P T) (p:Nat) {id:Nat} {arr:Array Oper} {vs:List (Nat×SV)} {ow:List (Nat×Nat×Nat)} {al:List Nat} {hp:List (Nat×HO)} {n:CE->Prop} {x:Nat->CE->Prop} {r:CE->Prop}
  (h:crf vs fun vs=>zUA B P T arr.toList arr.toList p ⟨vs,ow,[],hp⟩ n):WsemB B rd P (.region id arr false) ⟨vs,ow,al,hp⟩ n x r:=by
 intro cx hB hyk hk hkr g a w hR m;simp only[zK,List.all_eq_true] at hk;simp only[yM,List.all_eq_true,Bool.not_eq_true'] at hkr;have hd:∀o∈arr.toList,∀d,o.dst=some d->d<cx.n:=fun o ho d hd=>by
  have:=hk o ho;rw[hd] at this;exact Nat.le_of_ble_eq_true this
 simp only[zEP] at h;obtain⟨g',hR'⟩:=hR.refresh;exact wpIn_region_list (zEK hT zJP hB hyk (fun c g a w h1 h2=>⟨c,g,h1,h2⟩) _ p _ g' a w hd hkr h (by rw[yZ ⟨vs,ow,al,hp⟩] at *;exact hR'))
end
section
variable {P:Program} {T:TT} {rd:Option Nat} {B:Ctx->Prop}
theorem zK1 (hT:zN P T) {f:Nat} {fn:Func} {c:Code} (hf:P.funcs[f]? = some fn) (hb:fn.body=some c) {vs:List Value} {args:List AV} {hin:List (Nat×HO)}
  (hlen:args.length<=fn.ntmps) (hk:zK fn.ntmps c=true) (hkr:yM c=true) {post:AV->Nat->List (Nat×HO)->Prop} {F:Nat->Option Nat} {w:World}
  (hw:WsemB B none P c (xN args [] hin) (fun c=>xA T fn.results.toList post (den c)) (fun _ _=>False) (fun c=>xA T fn.results.toList post (den c)))
  (hB:B {n:=fn.ntmps,W:=w,F:=F,hk:=keys hin,yk:=[]}) (hfr:Fresh F w) (hh:HeapIn F w hin) (ha:qQ F w vs args []) (m:Nat):CallsIn (FW none) m P f vs.toArray w (yJ F (keys hin) [] w post):=by
 have hy0:zS vs []=[]:=by cases vs<;>rfl
 obtain⟨g,hR⟩:=wV hfr hh ha (by rw[hy0];simp) (n:=fn.ntmps) (by rw[ha.len];exact hlen);rw[hy0] at hR;refine callsIn_of_wp hf hb trivial (Go.wpIn_mono (hw _ hB trivial hk hkr g _ _ (hR.weaken (xH args [] hin) (wF args [] hin) (fun _=>rfl) rfl) m) fun ex a w' hp=>?_);have fin:∀{e:Env} {g:G},xA T fn.results.toList post e->Rel {n:=fn.ntmps,W:=w,F:=F,hk:=keys hin,yk:=[]} g e a w'->a.defers=[]/\∃v,(results fn a.tmps).run P w' = .ok v w'/\yJ F (keys hin) [] w post (.returned v) w':=fun {e g} hr hR=>by
  unfold xA at hr;split at hr
  ·rename_i r hres;obtain⟨v,p1,p2,p3⟩:=wM hT hR hres;refine⟨hR.defers,v,p1,v,r,_,e.heap,g.F,rfl,hr,p2,fun sz ho=>?_,hR.kept,hR.fext,hR.fresh,hR.heap,fun b hb=>?_⟩
   ·obtain⟨q1,q2⟩:=p3 sz ho;refine⟨q1,fun b hb=>?_⟩;obtain⟨s,hs⟩:=q2 b hb;refine .inr ⟨?_,fun hk=>by have:=hR.heapO b hk;rw[hs] at this;cases this⟩;rcases Nat.lt_or_ge b w.heap.size with h2|h2
    ·rcases hR.old b h2 (by simp) with h3|⟨_,h3⟩<;>(rw[hs] at h3;cases h3)
    ·exact h2
   ·rcases Nat.lt_or_ge b w.heap.size with h2|h2
    ·exact .inl (hR.hkin b h2 (hR.heapO b hb))
    ·exact .inr h2
  ·exact hr.elim
 cases ex with
 | normal=>obtain⟨e,g',h1,h2⟩:=hp;exact fin h1 h2
 | ret=>obtain⟨e,g',h1,h2⟩:=hp;exact fin h1 h2
 | exit i=>obtain⟨e,g',h1,h2⟩:=hp;exact h1.elim
 | goto l=>exact hp.elim
 | panic ch=>exact hp.elim
 | outgrown=>exact hp.elim
abbrev yv (l:Nat):Value := .func (.yield l) #[] #[]
abbrev zPW (h':List (Nat×HO)):AV->Nat->List (Nat×HO)->Prop:=fun r _ h=>r = .lit (.bool true)/\h=h'
def zTP (P:Program) (n:Nat) (l m:List AV) (N:Nat) (xs:Nat->List AV):Prop :=
 Enters P n/\∀(hp:Nat->List (Nat×HO)) (l0:Nat) (F:Nat->Option Nat) (w:World) (vs us:List Value) (k0:Nat),
  (∀k,k<N->zM5 P F w l0 (hp k) (xs k) (zPW (hp (k+1))))->Fresh F w->HeapIn F w (hp 0)->vs.length=l.length->(∀(i:Nat) v a,vs[i]? = some v->l[i]? = some a->Rep F w v a)->us.length=m.length->(∀(i:Nat) v a,us[i]? = some v->m[i]? = some a->Rep F w v a) ->
  CallsIn (FW none) k0 P n (vs++([yv l0]++us)).toArray w (yJ F (keys (hp 0)) [] w (fun _ _ h=>h=hp N))
theorem zZO (hT : zN P T) {f : Nat} {fn : Func} {c : Code} (hf : P.funcs[f]? = some fn) (hb : fn.body = some c) (hname : (fn.name == "runtime.NumGoroutine") = false) {l m : List AV} {N : Nat} {xs : Nat -> List AV}
  (hlen:l.length+(1+m.length)<=fn.ntmps) (hk:zK fn.ntmps c=true) (hkr:yM c=true)
  (hw:∀(hp:Nat->List (Nat×HO)) (l0:Nat) (B:Ctx->Prop),(∀k,k<N->∀cx,B cx->Yields P l0 (hp k) (xs k) (zPW (hp (k+1))) cx) ->
   WsemB B none P c (xN (l++([.lit (yv l0)]++m)) [] (hp 0)) (fun c=>xA T fn.results.toList (fun _ _ h=>h=hp N) (den c)) (fun _ _=>False) (fun c=>xA T fn.results.toList (fun _ _ h=>h=hp N) (den c))):zTP P f l m N xs:=by
 refine⟨⟨fn,hf,by rw[hb];rfl,hname⟩,fun hp l0 F w vs us k0 hY hfr hh h1 h2 h3 h4=>?_⟩;have hyk0:zS (vs++([yv l0]++us)) []=[]:=by cases vs<;>rfl
 refine zK1 (B:=fun cx=>cx={n:=fn.ntmps,W:=w,F:=F,hk:=keys (hp 0),yk:=[]}) hT hf hb (args:=l++([.lit (yv l0)]++m)) (by simp;omega) hk hkr (hw hp l0 (fun cx=>cx={n:=fn.ntmps,W:=w,F:=F,hk:=keys (hp 0),yk:=[]}) (fun k hkN cx hcx=>?_)) rfl hfr hh ⟨by simp[h1,h3],fun i v a hv hav=>?_,fun i v sz _ h=>by simp at h,by rw[hyk0];exact List.nodup_nil⟩ k0
 ·subst hcx;exact⟨hY k hkN,hh.shut⟩
 ·rcases Nat.lt_or_ge i vs.length with h|h
  ·rw[List.getElem?_append_left h] at hv;rw[List.getElem?_append_left (by omega)] at hav;exact h2 i v a hv hav
  ·rw[List.getElem?_append_right h] at hv;rw[List.getElem?_append_right (by omega)] at hav;rw[h1] at hv
   match hi:i-l.length with
   | 0 =>
    rw[hi] at hv hav;simp at hv hav;subst hv;subst hav;exact .lit _ rfl
   | j+1 =>
    rw[hi] at hv hav;exact h4 j v a (by simpa using hv) (by simpa using hav)
def zZC (vs:List (Nat×SV)):Bool:=vs.all fun p=>match p.2 with
 | .v _=>true
 | _=>false
theorem zU6 {vs:List (Nat×SV)} (h:zZC vs=true) (s:Nat):yA vs s = .junk∨∃a,yA vs s = .v a:=by
 induction vs with
 | nil=>exact .inl rfl
 | cons p r ih =>
  obtain⟨i,x⟩:=p;simp only[zZC,List.all_cons,Bool.and_eq_true] at h;simp only[yA];cases hb:Nat.beq i s with
  | true =>
   simp only[cond_true];cases x with
   | v a=>exact .inr ⟨a,rfl⟩
   | _=>simp at h
  | false =>
   simp only[cond_false];exact ih h.2
def isLp (q:Obj->Prop):Prop := ∀o,q o->∃r,o = .loop r
theorem isLp.raw {q:Obj->Prop} (h:isLp q):∀o,q o->zS6 o:=fun o ho=>by
 obtain⟨r,rfl⟩:=h o ho;exact⟨by simp,by simp⟩
theorem zFX (r:Loop):isLp (fun o=>o = .loop r):=fun o h=>⟨r,h⟩
def zNP (P:Program) (p1 p2:Nat) (assign body:Code) (vs:List (Nat×SV)) (h h':List (Nat×HO)) (a1 a2:AV):Prop :=
 ∀(l0:Nat) (q1 q2:Obj->Prop),isLp q1->isLp q2->WsemB (fun _=>True) (some l0) P assign ⟨(p1,.v a1)::(p2,.v a2)::vs,[],[],h++[(l0,HO.raw q1)]⟩
  (fun c=>c.hp=h++[(l0,HO.raw q1)]/\WsemB (fun _=>True) (some l0) P body ⟨c.vs,c.ow,c.al,h++[(l0,HO.raw q2)]⟩ (fun c=>(h'++[(l0,HO.raw q2)]).Sublist c.hp) (fun _ _=>False) (fun _=>False)) (fun _ _=>False) (fun _=>False)
theorem zI2 {α:Type} (l:List α) (x y:α):(l++[x]).set l.length y=l++[y]:=by
 rw[List.set_append_right _ _ (Nat.le_refl _)];simp
theorem zVS {p1 p2:Nat} {assign body:Code} {vs0:List (Nat×SV)} (hv0:zZC vs0=true) {h h':List (Nat×HO)} {a1 a2:AV} (hr:zNP P p1 p2 assign body vs0 h h' a1 a2) {tmps:Array Value} (hne:p1≠p2) (hp1:p1<tmps.size) (hp2:p2<tmps.size)
  (hk1:zK tmps.size assign=true) (hk2:zK tmps.size body=true) (hr1:yM assign=true) (hr2:yM body=true) {F0:Nat->Option Nat} {w0:World} (hrep:∀s a,yA vs0 s = .v a->Rep F0 w0 (tmps.getD s undef) a) {fn D:Nat} {l0:Nat} :
  zM5 P F0 w0 l0 (h++[(l0,HO.raw (fun o=>o = .loop {state := .ready,pending:=none,fn:=fn,tmps:=tmps,params := #[p1,p2],assign:=assign,body:=body,defers:=D}))]) [a1,a2]
   (zPW (h'++[(l0,HO.raw (fun o=>o = .loop {state := .ready,pending:=none,fn:=fn,tmps:=tmps,params := #[p1,p2],assign:=assign,body:=body,defers:=D}))])):=by
 intro F w vs m hkp hfr hh ha;obtain⟨rec,hrec⟩:∃rec:LoopState->Loop,rec=fun st=>{state:=st,pending:=none,fn:=fn,tmps:=tmps,params := #[p1,p2],assign:=assign,body:=body,defers:=D}:=⟨_,rfl⟩
 have hsame:({state := .ready,pending:=none,fn:=fn,tmps:=tmps,params := #[p1,p2],assign:=assign,body:=body,defers:=D}:Loop)=rec .ready:=by rw[hrec]
 rw[hsame] at hh⊢;have hl:w.heap[l0]? = some (.loop (rec .ready)):=by
  obtain⟨o,h1,h2⟩:=hh.ok (l0,HO.raw (fun o=>o = .loop (rec .ready))) (by simp);rw[h2] at h1;exact h1
 have hlen:vs.length=2:=ha.len;obtain⟨u1,u2,rfl⟩:∃u1 u2,vs=[u1,u2]:=by
  match vs,hlen with
  | [u1,u2],_=>exact⟨u1,u2,rfl⟩
 have ra1:Rep F w u1 a1:=ha.rep 0 u1 a1 rfl rfl;have ra2:Rep F w u2 a2:=ha.rep 1 u2 a2 rfl rfl;have hy:=run_yield (P:=P) (args := #[u1,u2]) hl (by rw[hrec];rfl);have htm:((rec .ready).params.zip #[u1,u2]).foldl (fun tmps (t,a)=>tmps.setIfInBounds t a) (rec .ready).tmps=(tmps.setIfInBounds p1 u1).setIfInBounds p2 u2:=by
  rw[hrec];simp only[<-Array.foldl_toList,Array.toList_zip]
  rfl
 have hfn:(rec .ready).fn=fn/\(rec .ready).assign=assign/\(rec .ready).body=body:=by rw[hrec];exact⟨rfl,rfl,rfl⟩
 rw[htm,hfn.1,hfn.2.1,hfn.2.2] at hy;refine⟨_,_,_,_,hy,?_⟩;clear htm hfn hy;generalize hin:h++[(l0,HO.raw (fun o=>o = .loop (rec .ready)))]=hi at hh;let cx:Ctx:={n:=tmps.size,W:=w,F:=F,hk:=keys hi,yk:=[]}
 have zNL:∀s,((tmps.setIfInBounds p1 u1).setIfInBounds p2 u2).getD s undef=if s=p2 then u2 else if s=p1 then u1 else tmps.getD s undef:=fun s=>by
  simp only[Array.getD_eq_getD_getElem?,Array.getElem?_setIfInBounds,Array.size_setIfInBounds];by_cases h2:p2=s
  ·subst h2;simp[hp2]
  ·simp only[h2,if_false,Ne.symm h2,if_neg (fun e:s=p2=>h2 e.symm)];by_cases h1:p1=s
   ·subst h1;simp[hp1]
   ·simp[h1,Ne.symm h1,fun e:s=p1=>h1 e.symm]
 have hR0:Rel cx {F:=F,O:=fun b=>if b∈keys hi then .obj else .no} (den ⟨(p1,.v a1)::(p2,.v a2)::vs0,[],[],hi⟩) {tmps:=(tmps.setIfInBounds p1 u1).setIfInBounds p2 u2,defers:=[]} w:=by
  have hlt:∀b∈keys hi,b<w.heap.size:=fun b hb=>by
   obtain⟨x,hx,rfl⟩:=List.mem_map.1 hb;exact (hh.ok x hx).lt
  refine {size:=by simp[cx],defers:=rfl,kept:=⟨rfl,rfl,rfl,Nat.le_refl _,fun _ _ => .inr (.inr rfl)⟩,fext:=fun _ _ => .inl rfl,nbx:=fun b s q hb ho=>by (simp only[] at ho;split at ho<;>cases ho),old:=fun b hb _=>?_,hkO:=hlt,hkin:=fun b _ ho=>?_,fresh:=hfr,freshO:=fun b hb=>?_,slots:=fun s=>?_,own:=fun s c sz v ho=>?_,heap:=hh,heapO:=fun b hb=>if_pos hb,al:=fun b s hb=>?_}
  ·by_cases hk:b∈keys hi
   ·exact .inr ⟨hk,if_pos hk⟩
   ·exact .inl (if_neg hk)
  ·by_cases hk:b∈keys hi
   ·exact hk
   ·simp[hk] at ho
  ·exact if_neg fun hk=>by have:=hlt b hk;omega
  ·show SlotOk _ w s (yA ((p1,.v a1)::(p2,.v a2)::vs0) s) _;rw[zNL s];simp only[yA];by_cases h2:p2=s
   ·subst h2;rw[Nat.beq_ne hne,cond_false,Nat.beq_refl,cond_true,if_pos rfl];exact ra2
   ·rw[if_neg (fun e=>h2 e.symm)];by_cases h1:p1=s
    ·subst h1;rw[Nat.beq_refl,cond_true,if_pos rfl];exact ra1
    ·rw[Nat.beq_ne h1,cond_false,if_neg (fun e=>h1 e.symm),Nat.beq_ne h2,cond_false];rcases zU6 hv0 s with h3|⟨a,h3⟩
     ·rw[h3];trivial
     ·rw[h3];exact (hrep s a h3).mono hkp
  ·simp[den,lookW] at ho
  ·by_cases hk:b∈keys hi<;>simp[hk] at hb
 subst hin;refine roundIn_of_wpIn trivial (Go.wpIn_mono (hr l0 _ (fun o=>o = .loop (rec .busy)) (zFX _) (zFX _) cx trivial trivial hk1 hr1 _ _ _ hR0 m) fun ex a w1 hp=>?_);cases ex with
 | normal =>
  obtain⟨c1,g1,⟨hc1,hbody⟩,hR1⟩:=hp;have hi1:(den c1).heap[h.length]? = some (l0,HO.raw (fun o=>o = .loop (rec .ready))):=by
   show c1.hp[h.length]? = _;rw[hc1];simp
  obtain⟨o1,ho1,ho2⟩:=hR1.heap.ok _ (List.mem_of_getElem? hi1);simp only at ho1;rw[ho2] at ho1;refine⟨_,run_beginRound ho1 (by rw[hrec]),?_⟩;have hbz:({rec .ready with state := .busy}:Loop)=rec .busy:=by rw[hrec]
  rw[hbz];have hR2:=hR1.setRaw hi1 (zFX _).raw (.loop (rec .busy)) (q:=fun o=>o = .loop (rec .busy)) rfl;have he2:{den c1 with heap:=(den c1).heap.set h.length (l0,HO.raw (fun o=>o = .loop (rec .busy)))} = den ⟨c1.vs,c1.ow,c1.al,h++[(l0,HO.raw (fun o=>o = .loop (rec .busy)))]⟩:=by
   have:(den c1).heap.set h.length (l0,HO.raw (fun o=>o = .loop (rec .busy)))=h++[(l0,HO.raw (fun o=>o = .loop (rec .busy)))]:=by
    show c1.hp.set _ _=_;rw[hc1,zI2]
   rw[this];rfl
  rw[he2] at hR2;refine Go.wpIn_mono (hbody cx trivial trivial hk2 hr2 _ _ _ hR2 m) fun ex a3 w3 hp=>?_;cases ex with
  | normal =>
   obtain⟨c3,g3,hs3,hR3⟩:=hp;have hR4:=hR3.drop hs3;have hi3:(h'++[(l0,HO.raw (fun o=>o = .loop (rec .busy)))])[h'.length]? = some (l0,HO.raw (fun o=>o = .loop (rec .busy))):=by simp
   obtain⟨o3,ho3,ho4⟩:=hR4.heap.ok _ (List.mem_of_getElem? hi3);simp only at ho3;rw[ho4] at ho3;have hR5:=hR4.setRaw hi3 (zFX _).raw (.loop (rec .ready)) (q:=fun o=>o = .loop (rec .ready)) rfl;have hend:=run_endRound (P:=P) (jump:=none) ho3;have hrd:({rec .busy with state:=if (none:Option Code).isNone then LoopState.ready else .done,pending:=none}:Loop)=rec .ready:=by rw[hrec];rfl
   rw[hrd] at hend;refine⟨_,_,hend,.bool true,.lit (.bool true),0,_,g3.F,rfl,⟨rfl,?_⟩,.lit _ rfl,(fun sz h=>by cases h),hR5.kept,hR5.fext,hR5.fresh,hR5.heap,fun b hb=>?_⟩
   ·exact zI2 _ _ _
   ·rcases Nat.lt_or_ge b w.heap.size with h2|h2
    ·exact .inl (hR5.hkin b h2 (hR5.heapO b hb))
    ·exact .inr h2
  | ret=>obtain⟨_,_,h,_⟩:=hp;exact h.elim
  | exit i=>obtain⟨_,_,h,_⟩:=hp;exact h.elim
  | goto l=>exact hp.elim
  | panic ch=>exact hp.elim
  | outgrown=>exact hp.elim
 | ret=>obtain⟨_,_,h,_⟩:=hp;exact h.elim
 | exit i=>obtain⟨_,_,h,_⟩:=hp;exact h.elim
 | goto l=>exact hp.elim
 | panic ch=>exact hp.elim
 | outgrown=>exact hp.elim
end
section
variable {P:Program} {T:TT} {rd:Option Nat} {B:Ctx->Prop}
def zF4 (D:Nat):Deferred:={target := .collected D,args := #[]}
def zLC:Obj->Prop:=fun o=>o = .deferred (some [])
theorem zZ2:∀o,zLC o->zS6 o:=fun o h=>by rw[show o=_ from h];exact⟨by simp,by simp⟩
theorem zP5 {e e':Env} (h:e.vals=e'.vals):∀{l:List (Nat×SV)},leV e l->leV e' l
 | [],_=>trivial
 | (s,x)::r,hl=>⟨by rw[<-h];exact hl.1,zP5 h hl.2⟩
theorem Rel.vals {cx:Ctx} {g:G} {e:Env} {a:Act} {w:World} (h:Rel cx g e a w) {vs0:List (Nat×SV)} {e0:Env} (he0:e0.vals=e.vals) (hle0:leV e0 vs0) {s:Nat} {b:AV} (hb:yA vs0 s = .v b):Rep g.F w (a.tmps.getD s undef) b:=by
 have hle:=zP5 he0 hle0;have h1:=h.slots s;rcases zCL s hle with q|q
 ·rw[q] at hb;cases hb
 ·rw[hb] at q;have key:SlotOk g w s (rfv (e.vals s)) (a.tmps.getD s undef):=by
   cases hx:e.vals s with
   | v y=>rw[hx] at h1;exact h1
   | _ =>
    exfalso;rw[hx] at q;unfold leS at q;split at q<;>simp[wks] at q
  exact zOK key q
theorem zRV {p1 p2:Nat} {assign body:Code} {ac:Act} {w1:World} {cx:Ctx} {e:Env} {g1:G} (hyk:True) {vs0:List (Nat×SV)} (hv0:zZC vs0=true) (hvs:∀s a,yA vs0 s = .v a->Rep g1.F w1 (ac.tmps.getD s undef) a)
  (hne:p1≠p2) (hp1:p1<cx.n) (hp2:p2<cx.n) (hk1:zK cx.n assign=true) (hk2:zK cx.n body=true) (hr1:yM assign=true) (hr2:yM body=true)
  {n:Nat} {fl fm:List AV} {N:Nat} {xs:Nat->List AV} (hIt:zTP P n fl fm N xs) {hp:Nat->List (Nat×HO)} (hround:∀k,k<N->∃a1 a2,xs k=[a1,a2]/\zNP P p1 p2 assign body vs0 (hp k) (hp (k+1)) a1 a2)
  {fn D l0:Nat} {rest:List (Nat×HO)} (he:∃A,e.heap=A/\(hp 0++[(l0,HO.raw (fun o=>o = .loop {state := .ready,pending:=none,fn:=fn,tmps:=ac.tmps,params := #[p1,p2],assign:=assign,body:=body,defers:=D}))]).Sublist A/\∀x∈rest,x∈A/\x.1∉keys (hp 0++[(l0,HO.raw (fun o=>o = .loop {state := .ready,pending:=none,fn:=fn,tmps:=ac.tmps,params := #[p1,p2],assign:=assign,body:=body,defers:=D}))])) (hrn:(keys rest).Nodup)
  (hR:Rel cx g1 e ac w1) {vs us:List Value} (h1:vs.length=fl.length) (h2:∀(i:Nat) v a,vs[i]? = some v->fl[i]? = some a->Rep g1.F w1 v a) (h3:us.length=fm.length) (h4:∀(i:Nat) v a,us[i]? = some v->fm[i]? = some a->Rep g1.F w1 v a) (k0 k1:Nat) {Q:Exit->Act->World->Prop} {a':Act} {dss:List Deferred} (ha':a'={ac with defers:=dss})
  (hQ:∀g' w',Rel cx g' {e with heap:=rest++hp N} ac w'->Q .normal a' w') :
  CallsIn (FW rd) k0 P n (vs++([yv l0]++us)).toArray w1 (rangePost (FW rd) k1 P l0 Q a'):=by
 obtain⟨rec,hrec⟩:∃rec:Loop,rec={state := .ready,pending:=none,fn:=fn,tmps:=ac.tmps,params := #[p1,p2],assign:=assign,body:=body,defers:=D}:=⟨_,rfl⟩
 rw[<-hrec] at he;obtain⟨A,hA,hsub,hrest⟩:=he;subst hA;have hh0:HeapIn g1.F w1 (hp 0++[(l0,HO.raw (fun o=>o = .loop rec))]):=(hR.drop hsub).heap;have hYl:∀k,k<N->zM5 P g1.F w1 l0 (hp k++[(l0,HO.raw (fun o=>o = .loop rec))]) (xs k) (zPW (hp (k+1)++[(l0,HO.raw (fun o=>o = .loop rec))])):=fun k hk=>by
  obtain⟨a1,a2,hx,hr⟩:=hround k hk;rw[hx,hrec];exact zVS hv0 hr (tmps:=ac.tmps) hne (by rw[hR.size];exact hp1) (by rw[hR.size];exact hp2) (by rw[hR.size];exact hk1) (by rw[hR.size];exact hk2) hr1 hr2 hvs
 have hcall:=hIt.2 (fun k=>hp k++[(l0,HO.raw (fun o=>o = .loop rec))]) l0 g1.F w1 vs us k0 hYl hR.fresh hh0 h1 h2 h3 h4;refine CallsIn.mono (show CallsIn (FW rd) k0 P n _ w1 _ from hcall) fun en w' hp'=>?_;obtain⟨v,r,n',hout,g',rfl,hpo,_,hR'⟩:=zMM hR (fun x hx=>hsub.subset hx) hrest hrn hp';subst hpo;have hi:(rest++(hp N++[(l0,HO.raw (fun o=>o = .loop rec))]))[(rest++hp N).length]? = some (l0,HO.raw (fun o=>o = .loop rec)):=by
  rw[<-List.append_assoc];simp
 obtain⟨o,ho1,ho2⟩:=hR'.heap.ok _ (List.mem_of_getElem? hi);simp only at ho1;rw[ho2] at ho1;have hend:=run_endLoop (P:=P) ho1 (by rw[hrec];simp);have hend2:(Instr.endLoop l0).run P w' = .ok none (w'.putObj l0 (.loop {rec with state := .exhausted})):=by rw[hend,show rec.pending=none by rw[hrec]]
 refine⟨none,_,hend2,?_⟩;have hR2:=hR'.setRaw hi (zFX _).raw (.loop {rec with state := .exhausted}) (q:=fun _=>True) trivial;have hR3:=hR2.drop (hp:=rest++hp N) (by
  show (rest++hp N).Sublist ((rest++(hp N++[(l0,HO.raw (fun o=>o = .loop rec))])).set (rest++hp N).length (l0,HO.raw fun _=>True));rw[<-List.append_assoc,zI2];exact List.sublist_append_left _ _)
 refine hQ g' _ ?_;exact hR3
theorem Rel.setDs {cx:Ctx} {g:G} {e:Env} {a:Act} {w:World} (h:Rel cx g e a w) (d:List Deferred):Rel {cx with ds:=d} g e {a with defers:=d} w :=
 {size:=h.size,defers:=rfl,kept:=h.kept,fext:=h.fext,nbx:=h.nbx,old:=h.old,hkO:=h.hkO,hkin:=h.hkin,fresh:=h.fresh,freshO:=h.freshO,slots:=h.slots,own:=h.own,heap:=h.heap,heapO:=h.heapO,al:=h.al}
def Marks (ds:List Deferred) (h:List (Nat×HO)):Prop := ∃Ds:List Nat,ds=Ds.map zF4/\Ds.Nodup/\∀D∈Ds,(D,HO.raw zLC)∈h
theorem Marks.nil (h:List (Nat×HO)):Marks [] h:=⟨[],rfl,List.nodup_nil,fun D h=>by simp at h⟩
def MK (h h':List (Nat×HO)):Prop := ∀D,(D,HO.raw zLC)∈h->(D,HO.raw zLC)∈h'
theorem Marks.keep {ds:List Deferred} {h h':List (Nat×HO)} (hm:Marks ds h) (hk:MK h h'):Marks ds h':=by
 obtain⟨Ds,h1,h2,h3⟩:=hm;exact⟨Ds,h1,h2,fun D hD=>hk D (h3 D hD)⟩
def z0D (cx:Ctx) (n:CE->Prop) (x:Nat->CE->Prop) (r:CE->Prop):Exit->Act->World->Prop
 | .normal,a,w => ∃c g ds,n c/\Marks ds c.hp/\Rel {cx with ds:=ds} g (den c) a w
 | .exit i,a,w => ∃c g ds,x i c/\Marks ds c.hp/\Rel {cx with ds:=ds} g (den c) a w
 | .ret,a,w => ∃c g ds,r c/\Marks ds c.hp/\Rel {cx with ds:=ds} g (den c) a w
 | _,_,_=>False
def WsemM (P:Program) (q:Code) (c:CE) (n:CE->Prop) (x:Nat->CE->Prop) (r:CE->Prop):Prop :=
 ∀cx:Ctx,cx.hk=[]->True->zK cx.n q=true->yM q=true->Marks cx.ds c.hp->∀g a w,Rel cx g (den c) a w->∀m,q.wpIn (FW none) m P (z0D cx n x r) a w
theorem WsemM.of {q:Code} {c:CE} {n:CE->Prop} {x:Nat->CE->Prop} {r:CE->Prop} (h:WsemB (fun cx=>cx.hk=[]) none P q c (fun c'=>MK c.hp c'.hp/\n c') (fun i c'=>MK c.hp c'.hp/\x i c') (fun c'=>MK c.hp c'.hp/\r c')):WsemM P q c n x r:=by
 intro cx hhk hyk hk hkr hM g a w hR m;refine Go.wpIn_mono (h cx hhk hyk hk hkr g a w hR m) fun ex a w hp=>?_;cases ex with
 | normal=>obtain⟨c',g',⟨h1,h2⟩,h3⟩:=hp;exact⟨c',g',cx.ds,h2,hM.keep h1,h3⟩
 | exit i=>obtain⟨c',g',⟨h1,h2⟩,h3⟩:=hp;exact⟨c',g',cx.ds,h2,hM.keep h1,h3⟩
 | ret=>obtain⟨c',g',⟨h1,h2⟩,h3⟩:=hp;exact⟨c',g',cx.ds,h2,hM.keep h1,h3⟩
 | _=>exact hp
theorem WsemM.seqS {p q:Code} {c:CE} {n:CE->Prop} {x:Nat->CE->Prop} {r:CE->Prop} (h:WsemM P p c (fun c=>WsemM P q c n x r) x r):WsemM P (.seq p q) c n x r:=by
 intro cx hhk hyk hk hkr hM g a w hR m;simp only[zK,Bool.and_eq_true] at hk;simp only[yM,Bool.and_eq_true] at hkr;refine wpIn_seq (Go.wpIn_mono (h cx hhk hyk hk.1 hkr.1 hM g a w hR m) fun ex a w hp=>?_);cases ex with
 | normal=>obtain⟨c',g',ds,h1,h2,h3⟩:=hp;exact h1 {cx with ds:=ds} hhk hyk hk.2 hkr.2 h2 g' a w h3 m
 | _=>exact hp
theorem WsemM.block {i:Nat} {q:Code} {c:CE} {n:CE->Prop} {x:Nat->CE->Prop} {r:CE->Prop} (h:WsemM P q c n (fun j c=>match Nat.beq j i with|true=>n c|false=>x j c) r):WsemM P (.block i q) c n x r:=by
 intro cx hhk hyk hk hkr hM g a w hR m;refine wpIn_block (Go.wpIn_mono (h cx hhk hyk hk hkr hM g a w hR m) fun ex a w hp=>?_);cases ex with
 | normal=>exact hp
 | exit j =>
  obtain⟨c',g',ds,h1,h2,h3⟩:=hp;simp only[Exit.inBlock];by_cases hj:j=i
  ·rw[if_pos hj];subst hj;rw[Nat.beq_refl] at h1;exact⟨c',g',ds,h1,h2,h3⟩
  ·rw[if_neg hj];rw[Nat.beq_ne hj] at h1;exact⟨c',g',ds,h1,h2,h3⟩
 | _=>exact hp
theorem WsemM.cut (fr:Fr) {q:Code} {c:CE} {n:CE->Prop} {x:Nat->CE->Prop} {r:CE->Prop} (hle:le (den c) fr) (h:WsemM P q (mkC fr) n x r):WsemM P q c n x r:=by
 intro cx hhk hyk hk hkr hM g a w hR m;obtain⟨g',hR'⟩:=hR.le hle;have hh:c.hp=(mkC fr).hp:=hle.2.2;exact h cx hhk hyk hk hkr (by rw[<-hh];exact hM) g' a w (by rw[zBB];exact hR') m
theorem WsemM.range {g:Operand} {p1 p2:Nat} {assign body:Code} {vs:List (Nat×SV)} {ow:List (Nat×Nat×Nat)} {al:List Nat} {hp:Nat->List (Nat×HO)} {vs0:List (Nat×SV)} (hv0:zZC vs0=true) (hle:leV (den ⟨vs,ow,al,hp 0⟩) vs0)
  (hne:p1≠p2) {n:Nat} {fl fm:List AV} (hg:opd (den ⟨vs,ow,al,hp 0⟩) g = .v (.fn (.func n) fl fm)) {N:Nat} {xs:Nat->List AV} (hIt:zTP P n fl fm N xs) (hround:∀k,k<N->∃a1 a2,xs k=[a1,a2]/\zNP P p1 p2 assign body vs0 (hp k) (hp (k+1)) a1 a2)
  (hMK:MK (hp 0) (hp N)) {nn:CE->Prop} {x:Nat->CE->Prop} {r:CE->Prop} (hn:∀D,nn ⟨vs,ow,al,(D,HO.raw zLC)::hp N⟩):WsemM P (.rangeFunc g #[p1,p2] assign body) ⟨vs,ow,al,hp 0⟩ nn x r:=by
 intro cx hhk hyk hk hkr hM gg a w hR m;simp only[zK,Bool.and_eq_true,List.all_cons,List.all_nil] at hk;simp only[yM,Bool.and_eq_true] at hkr;obtain⟨⟨hp1,hp2,_⟩,hk1,hk2⟩:=hk;have hp1:p1<cx.n:=Nat.le_of_ble_eq_true hp1;have hp2:p2<cx.n:=Nat.le_of_ble_eq_true hp2;refine wpIn_rangeFunc fun fn hfn=>?_;obtain⟨rec,hrec⟩:∃rec:Loop,rec={state := .ready,pending:=none,fn:=fn,tmps:=a.tmps,params := #[p1,p2],assign:=assign,body:=body,defers:=w.heap.size}:=⟨_,rfl⟩
 obtain⟨g0,hg0,hR0⟩:=hR.newRaw (.deferred (some [])) (p:=zLC) rfl;obtain⟨g1,hg1,hR1⟩:=hR0.newRaw (.loop rec) (p:=fun o=>o = .loop rec) rfl;have hsz:(w.alloc (.deferred (some []))).heap.size=w.heap.size+1:=by simp
 rw[hsz] at hR1 hg1;obtain⟨w1,hw1⟩:∃w1,w1=(w.alloc (.deferred (some []))).alloc (.loop rec):=⟨_,rfl⟩
 rw[<-hw1] at hR1;have hag:=Agree.refl (zJ g) (den ⟨vs,ow,al,hp 0⟩);obtain⟨vs1,us1,hv1,hv2,hv3,hv4,hv5⟩:=Rep.fn_eq (zF hag hR (Sub.refl _) hg);have hkp:Keeps gg.F w g1.F w1:=by
  rw[hw1];exact ((Grow.alloc w _).keeps hg0).trans ((Grow.alloc _ (.loop rec)).keeps (by rw[hsz];exact hg1))
 have hgv:a.eval g = .func (.func n) vs1 us1:=hv1;have e1:(vs1 ++ #[yv (w.heap.size+1)])++us1=(vs1.toList++([yv (w.heap.size+1)]++us1.toList)).toArray:=by
  apply Array.ext';simp
 obtain⟨fe,hf1,hf2,hf3⟩:=hIt.1;have hf4:fe.body.isNone=false:=by cases hb:fe.body<;>simp[hb] at hf2⊢
 refine⟨w.heap.size+1,[zF4 w.heap.size],w1,{target := .fn (.func n) us1,args:=vs1 ++ #[yv (w.heap.size+1)]},w1,n,(vs1 ++ #[yv (w.heap.size+1)])++us1,w1,?_,?_,fun _ _=>trivial,?_,fun h=>by simp[FW,Fence.wide] at h,?_⟩
 ·rw[hw1,hrec];exact run_enterLoop_outer _ _ _ _ _
 ·simp only[resolve,rangeCall,hgv,Deferred.ofValue];simp[Act.eval]
 ·have hp:(program).run P w1 = .ok P w1:=rfl;simp only[invoke,callFunc,Sem.run_bind,hp,Result.andThen_ok,hf1,hf3,hf4,Bool.false_eq_true,if_false,Sem.run_pure]
 ·rw[e1];have hlt:∀b∈keys (hp 0),b<w.heap.size:=fun b hb=>by
   obtain⟨x,hx,rfl⟩:=List.mem_map.1 hb;exact (hR.heap.ok x hx).lt
  refine zRV hyk hv0 (fun s b hb=>hR1.vals (e0:=den ⟨vs,ow,al,hp 0⟩) rfl hle hb) hne hp1 hp2 hk1 hk2 hkr.1 hkr.2 hIt hround (rest:=[(w.heap.size,HO.raw zLC)])
   ⟨_,rfl,by rw[<-hrec];exact (List.sublist_append_left _ _).append (List.Sublist.refl _),fun x hx=>?_⟩ (by simp[keys]) hR1 (vs:=vs1.toList) (us:=us1.toList) (by simp[hv2]) (fun i v b hv hb=>(hv4 i v b (by simpa using hv) hb).mono hkp) (by simp[hv3]) (fun i v b hv hb=>(hv5 i v b (by simpa using hv) hb).mono hkp) (m-1) m (Q:=z0D cx nn x r)
   (a':={a with defers:=[zF4 w.heap.size]++a.defers}) rfl (fun g' w' hR'=>?_)
  ·simp only[List.mem_singleton] at hx;subst hx;refine⟨by simp,fun hk=>?_⟩;simp only[keys,List.map_append,List.mem_append,List.map_cons,List.map_nil,List.mem_singleton] at hk;rcases hk with hk|hk
   ·have:=hlt _ hk;omega
   ·omega
  ·obtain⟨Ds,hD1,hD2,hD3⟩:=hM;have hds:[zF4 w.heap.size]++a.defers=(w.heap.size::Ds).map zF4:=by rw[hR.defers,hD1];rfl
   refine⟨⟨vs,ow,al,(w.heap.size,HO.raw zLC)::hp N⟩,g',[zF4 w.heap.size]++a.defers,hn _,⟨w.heap.size::Ds,hds,List.nodup_cons.2 ⟨fun hm=>?_,hD2⟩,fun D hD=>?_⟩,?_⟩
   ·have:=hlt _ (List.mem_map.2 ⟨_,hD3 _ hm,rfl⟩);simp at this
   ·rcases List.mem_cons.1 hD with rfl|hD
    ·exact List.mem_cons_self
    ·exact List.mem_cons_of_mem _ (hMK D (hD3 D hD))
   ·exact hR'.setDs _
def unraw:List (Nat×HO)->List (Nat×HO)
 | []=>[]
 | (b,o)::r=>match o with
  | .raw _=>unraw r
  | _=>(b,o)::unraw r
theorem zGM:∀h:List (Nat×HO),(unraw h).Sublist h
 | [] => .slnil
 | (b,o)::r=>by
  cases o with
  | raw p=>exact (zGM r).cons _
  | _=>exact (zGM r).cons_cons _
theorem zL4:∀{h:List (Nat×HO)} {i b:Nat} {p q:Obj->Prop},h[i]? = some (b,HO.raw p)->unraw (h.set i (b,HO.raw q))=unraw h
 | [],i,b,p,q,hi=>by simp at hi
 | (b',o)::r,0,b,p,q,hi=>by simp at hi;obtain⟨rfl,rfl⟩:=hi;rfl
 | (b',o)::r,i+1,b,p,q,hi=>by
  have:=zL4 (q:=q) (h:=r) (i:=i) (by simpa using hi);cases o with
  | raw p=>simpa[unraw] using this
  | _=>simp only[List.set_cons_succ,unraw,this]
theorem zFQ (e:Env) (h:List (Nat×HO)):∀rs:List ResultVar,qE T {e with heap:=h} rs=qE T e rs
 | []=>rfl
 | r::rs=>by
  have h1:zFH T {e with heap:=h} r=zFH T e r:=by cases r<;>rfl
  simp only[qE,h1,zFQ e h rs]
theorem zPE (e:Env) (h:List (Nat×HO)) (rs:List ResultVar):zCN T {e with heap:=h} rs=zCN T e rs:=by
 have h1:∀r,zFH T {e with heap:=h} r=zFH T e r:=fun r=>by cases r<;>rfl
 match rs with
 | []=>rfl
 | [r]=>exact h1 r
 | r::r'::rs=>simp only[zCN,zFQ]
theorem zH3 (hT : zN P T) {f : Nat} {fn : Func} {c : Code} (hf : P.funcs[f]? = some fn) (hb : fn.body = some c) (hname : (fn.name == "runtime.NumGoroutine") = false) {args : List AV}
  (hlen:args.length<=fn.ntmps) (hk:zK fn.ntmps c=true) (hkr:yM c=true) {post:AV->Nat->List (Nat×HO)->Prop}
  (hw:WsemM P c (xN args [] []) (fun c=>xA T fn.results.toList (fun r _ h=>post r 0 (unraw h)) (den c)) (fun _ _=>False) (fun c=>xA T fn.results.toList (fun r _ h=>post r 0 (unraw h)) (den c))) :
  CallsG P (fnv f) [] args [] post:=by
 refine⟨f,_,_,rfl,⟨fn,hf,by rw[hb];rfl,hname⟩,fun F w vs hfr hh ha hy=>?_⟩;rw[show #[]++vs.toArray ++ #[]=vs.toArray by simp];have hy0:zS vs []=[]:=by cases vs<;>rfl
 rw[hy0];refine (callsIn_wide (n:=0)).1 ?_;obtain⟨g,hR⟩:=wV hfr hh ha (by rw[hy0];simp) (n:=fn.ntmps) (by rw[ha.len];exact hlen);rw[hy0] at hR;refine callsIn_of_wp_marks hf hb trivial (Go.wpIn_mono (hw _ rfl trivial hk hkr (Marks.nil _) g _ _ (hR.weaken (xH args [] []) (wF args [] []) (fun _=>rfl) rfl) 0) fun ex a w' hp=>?_);have fin:∀(Ds:List Nat),Ds.Nodup->∀{e:Env} {g:G} {a:Act} {w':World} {cx:Ctx},cx.n=fn.ntmps->cx.W=w->cx.F=F->cx.hk=keys []->cx.yk=[]->(∀D∈Ds,(D,HO.raw zLC)∈e.heap)->xA T fn.results.toList (fun r _ h=>post r 0 (unraw h)) e->Rel cx g e a w' ->
   LeavesInM Fence.wide 0 P fn a.tmps (yJ F (keys []) [] w post) (Ds.map zF4) .returning w':=by
  intro Ds;induction Ds with
  | nil =>
   intro _ e g a w' cx c1 c2 c3 c4 c5 _ hr hR;unfold xA at hr;split at hr
   ·rename_i r hres;obtain⟨v,p1,p2,p3⟩:=wM hT hR hres;have hR2:=hR.drop (zGM e.heap);refine⟨v,p1,v,r,0,unraw e.heap,g.F,rfl,hr,p2,(fun sz ho=>by cases ho),by rw[<-c3,<-c4,<-c2,<-c5];exact hR.kept,by rw[<-c3,<-c2,<-c5];exact hR.fext,hR.fresh,hR2.heap,fun b hb=>?_⟩;rcases Nat.lt_or_ge b w.heap.size with h2|h2
    ·exact .inl (by rw[<-c4];exact hR.hkin b (by rw[c2];exact h2) (hR2.heapO b hb))
    ·exact .inr h2
   ·exact hr.elim
  | cons D Ds ih =>
   intro hnd e g a w' cx c1 c2 c3 c4 c5 hD hr hR;obtain⟨i,hi⟩:=List.getElem?_of_mem (hD D List.mem_cons_self);obtain⟨o,ho1,ho2⟩:=hR.heap.ok _ (List.mem_of_getElem? hi);simp only at ho1;rw[show o=_ from ho2] at ho1;refine⟨by simp,.inl ⟨D,_,rfl,run_takeDeferred ho1,?_⟩⟩;have hR2:=hR.setRaw hi zZ2 (.deferred none) (q:=fun _=>True) trivial;refine ih (List.nodup_cons.1 hnd).2 c1 c2 c3 c4 c5 (fun D' hD'=>?_) ?_ hR2
   ·have hne:D'≠D:=fun e=>(List.nodup_cons.1 hnd).1 (e ▸ hD');obtain⟨j,hj⟩:=List.getElem?_of_mem (hD D' (List.mem_cons_of_mem _ hD'));have hij:i≠j:=fun e=>by subst e;rw[hi] at hj;injection hj with hj;injection hj with hj;exact hne hj.symm
    exact List.mem_of_getElem? (i:=j) (by rw[List.getElem?_set_ne hij];exact hj)
   ·unfold xA at hr⊢;rw[zPE];cases hres:zCN T e fn.results.toList with
    | none=>rw[hres] at hr;exact hr
    | some r =>
     rw[hres] at hr;show post r 0 (unraw (e.heap.set i (D,HO.raw fun _=>True)));rw[zL4 hi];exact hr
 cases ex with
 | normal=>obtain⟨c',g',ds,h1,⟨Ds,rfl,hnd,hDs⟩,h2⟩:=hp;have hdf:a.defers=Ds.map zF4:=h2.defers;show LeavesInM _ _ _ _ _ _ _ _ _;rw[hdf];exact fin Ds hnd rfl rfl rfl rfl rfl hDs h1 h2
 | ret=>obtain⟨c',g',ds,h1,⟨Ds,rfl,hnd,hDs⟩,h2⟩:=hp;have hdf:a.defers=Ds.map zF4:=h2.defers;show LeavesInM _ _ _ _ _ _ _ _ _;rw[hdf];exact fin Ds hnd rfl rfl rfl rfl rfl hDs h1 h2
 | exit i=>obtain⟨_,_,_,h1,_⟩:=hp;exact h1.elim
 | goto l=>exact hp.elim
 | panic ch=>exact hp.elim
 | outgrown=>exact hp.elim
end
end Fp
