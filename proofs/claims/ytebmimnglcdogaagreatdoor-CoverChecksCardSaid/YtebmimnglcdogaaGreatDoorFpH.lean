/- A map that is shut, gone through: whichever entry comes next. No condition. -/
import Derived.Test.YtebmimnglcdogaaGreatDoorFpG
import Derived.Maps.RangeRun
set_option linter.unusedSimpArgs false
set_option linter.unusedVariables false
namespace Fp
open Go Go.MapKept Go.ChangeMaps
section
variable {P:Program} {o:Oper} {e:Env} {T:TT}
theorem Rel.setIt {cx : Ctx} {g : G} {a : Act} {w : World} (h : Rel cx g e a w) {i b : Nat} {x y : HO} (hi : e.heap[i]? = some (b, x)) {m m' : Option Nat} {s s' c c' : Nat} {t t' : Array Nat} (m1 : w.heap[b]? = some (.mapIter m s t c))
    (hy : ∀ w', w' = setBlock w b (.mapIter m' s' t' c') -> Keeps g.F w g.F w' -> w'.heap[b]? = some (.mapIter m' s' t' c') -> (∀ j, j ≠ b -> w'.heap[j]? = w.heap[j]?) -> HoOk g.F w' b y) :
    Rel cx g (app e [.heap (e.heap.set i (b, y))]) a (setBlock w b (.mapIter m' s' t' c')) := by
  have hmem := List.mem_of_getElem? hi;have hkey : b ∈ keys e.heap := List.mem_map.2 ⟨_, hmem, rfl⟩;have p2 := h.heapO b hkey;have p3 := h.heap.shut b hkey;have hlt := zL m1;obtain ⟨w', hw'⟩ : ∃ w', w' = setBlock w b (.mapIter m' s' t' c') := ⟨_, rfl⟩
  rw [<- hw'];have now : w'.heap[b]? = some (.mapIter m' s' t' c') := by rw [hw']; simp [setBlock, hlt]
  have blk : ∀ j, j ≠ b -> w'.heap[j]? = w.heap[j]? := fun j hj => by rw [hw']; simp [setBlock, Ne.symm hj]
  have hsz : w'.heap.size = w.heap.size := by rw [hw']; simp [setBlock]
  have notCells : ∀ {cs E fr}, w.heap[b]? ≠ some (.cells cs E fr) := fun {cs E fr} e => by rw [m1] at e; cases e
  have kp : Keeps g.F w g.F w' := ⟨fun b2 k u hc hm => ⟨by
    by_cases hne : b2 = b
    · subst hne
      unfold World.cell? at hc;rw [m1] at hc; simp at hc
    · rw [World.cell_of_heap (blk b2 hne)]; exact hc, hm⟩, fun b2 es2 c2 hc hm => ⟨by
    by_cases hne : b2 = b
    · subst hne
      rw [m1] at hc; cases hc
    · exact (blk b2 hne).trans hc, hm⟩⟩
  have hyo := hy w' hw' kp now blk;have m : Mem g w g w' := ⟨kp, fun b2 s q hb => ⟨hb, rfl, blk b2 (fun e => by subst e; rw [p2] at hb; cases hb)⟩, fun b s q hb => .inl hb⟩
  have hks : keys (e.heap.set i (b, y)) = keys e.heap := by
    unfold keys;rw [List.map_set];refine List.ext_getElem? fun j => ?_;by_cases hj : i = j
    · subst hj
      rw [List.getElem?_set_self (by simpa using (List.getElem?_eq_some_iff.1 hi).1), List.getElem?_map, hi]; rfl
    · rw [List.getElem?_set_ne hj]
  refine { size := h.size, defers := h.defers, kept := ?_, fext := h.fext, nbx := h.nbx, old := h.old, hkO := h.hkO, hkin := h.hkin, fresh := fun b hb => h.fresh b (by rw [<- hsz]; exact hb), freshO := fun b hb => h.freshO b (by rw [<- hsz]; exact hb),
           slots := fun s => (h.slots s).mem m, own := fun s c sz v ho hpv => ?_, heap := ?_, heapO := fun b2 hb2 => h.heapO b2 (by rw [<- hks]; exact hb2), al := h.al }
  · refine ⟨by rw [hw']; exact h.kept.os, by rw [hw']; exact h.kept.tape, by rw [hw']; exact h.kept.output, by rw [hsz]; exact h.kept.size, fun b2 hb2 => ?_⟩
    by_cases hne : b2 = b
    · subst hne
      exact .inl (h.hkin b2 hb2 p2)
    · rcases h.kept.block b2 hb2 with h1 | ⟨h1, cs, cs', E, mm, q1, q2, q3, q4, q5⟩ | h1
      · exact .inl h1
      · exact .inr (.inl ⟨h1, cs, cs', E, mm, q1, by rw [blk b2 hne]; exact q2, q3, q4, q5⟩)
      · exact .inr (.inr ((blk b2 hne).trans h1))
  · have ht := h.own s c sz v ho (PlaceVal.back h (fun b2 s q hb => (m.box b2 s q hb).2.2) hpv)
    refine ⟨?_, ht.2⟩;rcases ht.1 with h3 | h3 | ⟨b2, off, n, cap, cs2, E2, q1, q2, q3, q4, q5⟩
    · exact .inl h3
    · exact .inr (.inl h3)
    · refine .inr (.inr ⟨b2, off, n, cap, cs2, E2, q1, q2, q3, ?_, q5⟩)
      rw [blk b2 (fun e => by subst e; exact notCells q4)];exact q4
  · refine ⟨by show (keys (e.heap.set i (b, y))).Nodup; rw [hks]; exact h.heap.nodup, fun b2 hb2 => h.heap.shut b2 (by rw [<- hks]; exact hb2), fun x hx => ?_⟩
    obtain ⟨j, hj⟩ := List.getElem?_of_mem hx;by_cases hij : i = j
    · subst hij
      change (e.heap.set i (b, y))[i]? = some x at hj
      rw [List.getElem?_set_self (List.getElem?_eq_some_iff.1 hi).1] at hj;injection hj with hj
      subst hj;exact hyo
    · change (e.heap.set i (b, y))[j]? = some x at hj
      rw [List.getElem?_set_ne hij] at hj;have hxb : x.1 ≠ b := fun e1 => by
        have hn := h.heap.nodup;have h1 : (keys e.heap)[i]? = some b := by simp [keys, hi]
        have h2 : (keys e.heap)[j]? = some b := by simp [keys, hj, e1]
        exact hij ((List.getElem?_inj (by simpa [keys] using (List.getElem?_eq_some_iff.1 hi).1) hn).1 (h1.trans h2.symm))
      exact (h.heap.ok x (List.mem_of_getElem? hj)).grow kp (fun _ => blk _ hxb)
theorem zSR (hT:zN P T) {t:TypeId} {x:Operand} (ho:o.op = .range t x) {kt et:Nat} (hf:find T t = .mp kt et) {l:List (AV×AV)} (hx:opd e x = .v (.mpv l)) {d:Nat} (hd:o.dst=some d) {k:List U->Prop}
  (h:∀b,k [.val d (.v (.lit (.pointer (some ⟨b,0,none⟩)))),.clr d,.heap (e.heap++[(b,HO.it l [])])]) :
  ∀cx g a w,(∀d,o.dst=some d->d<cx.n)->Rel cx g e a w->∀(K:Act->World->Prop) (Q:Exit->Act->World->Prop),(∀u g' a' w',k u->Rel cx g' (app e u) a' w'->K a' w')->o.wp P a w K Q:=by
 intro cx g ac w hdn hR K Q hK;have hk0:=find_ok hT t;rw[hf] at hk0;have hmt:=hk0.1;have hag:=Agree.refl (zJ x) e;obtain⟨m,es,clock,hxv,m1,m2,m3,m4⟩:=Rep.mpv_eqB (zF hag hR (Sub.refl _) hx);have hrun:(execOp ac.eval o).run P w = .ok (.value (.pointer (some ⟨w.heap.size,0,none⟩))) (w.alloc (.mapIter (some m) clock #[] clock)):=by
  unfold execOp;simp only[ho,Instr.range,Sem.run_bind,run_underlying hmt,Result.andThen_ok,hxv,run_getObj_map m1,Sem.run_pure]
  rfl
 refine zU hrun ?_;rw[hd];have hgr:=Grow.alloc w (.mapIter (some m) clock #[] clock);have hnew:(w.alloc (.mapIter (some m) clock #[] clock)).heap[w.heap.size]? = some (.mapIter (some m) clock #[] clock):=World.heap_alloc_new w _;have h1:=hR.extend hgr (b0:=w.heap.size) (Nat.le_refl _) (zL hnew) (some 0) .obj (fun s q h=>by cases h);have hlt:∀b,b<w.heap.size->b≠w.heap.size:=fun b hb he=>by omega
 have kp:Keeps g.F w (fun b=>if b=w.heap.size then some 0 else g.F b) (w.alloc (.mapIter (some m) clock #[] clock)):=hgr.keeps (fun b hb=>by simp[hlt b hb]);have hold:∀b∈keys e.heap,b<w.heap.size:=fun b hb=>by
  obtain⟨x,hx,rfl⟩:=List.mem_map.1 hb;exact (hR.heap.ok x hx).lt
 have hk:keys (e.heap++[(w.heap.size,HO.it l [])])=keys e.heap++[w.heap.size]:=by simp[keys]
 refine hK _ _ _ _ (h w.heap.size) ((h1.put (hdn d hd) (x := .v (.lit (.pointer (some ⟨w.heap.size,0,none⟩)))) (Rep.lit _ rfl)).heapTo ⟨?_,fun b hb=>?_,fun x hx=>?_⟩ fun b hb=>?_)
 ·rw[hk];refine List.nodup_append.2 ⟨hR.heap.nodup,by simp,?_⟩;rintro a ha b hb rfl;simp at hb;exact hlt a (hold a ha) hb
 ·rw[hk] at hb;rcases List.mem_append.1 hb with hb|hb
  ·simp only[hlt b (hold b hb),if_false];exact hR.heap.shut b hb
  ·simp at hb;simp[hb]
 ·rcases List.mem_append.1 hx with hx|hx
  ·exact (hR.heap.ok x hx).grow kp (fun hb=>hgr.block _ hb)
  ·simp at hx;subst hx;exact⟨m,es,clock,#[],hnew,(kp.mp m es clock m1 m2).1,(kp.mp m es clock m1 m2).2,m3,⟨m4.1,fun j e p he hp=>⟨(m4.2 j e p he hp).1.mono kp,(m4.2 j e p he hp).2.mono kp⟩⟩,rfl,fun j i x hs=>by simp at hs⟩
 ·rw[hk] at hb;rcases List.mem_append.1 hb with hb|hb
  ·simp only[hlt b (hold b hb),if_false];exact hR.heapO b hb
  ·simp at hb;simp[hb]
theorem Rel.itAt {cx:Ctx} {g:G} {a:Act} {w:World} (h:Rel cx g e a w) {i b:Nat} {l:List (AV×AV)} {seen:List Nat} (hi:e.heap[i]? = some (b,HO.it l seen)):HoOk g.F w b (.it l seen):=h.heap.ok _ (List.mem_of_getElem? hi)
theorem born_inj {es:Array MapEntry} {clock:Nat} (hb:Born es clock) {i j:Nat} {x y:MapEntry} (hi:es[i]? = some x) (hj:es[j]? = some y) (h:x.born=y.born):i=j:=by
 have hn:=hb.1;have h1:(es.toList.map (·.born))[i]? = some x.born:=by rw[List.getElem?_map,Array.getElem?_toList,hi];rfl
 have h2:(es.toList.map (·.born))[j]? = some x.born:=by rw[List.getElem?_map,Array.getElem?_toList,hj,h];rfl
 exact (List.getElem?_inj (List.getElem?_eq_some_iff.1 h1).1 hn).1 (h1.trans h2.symm)
theorem zUW {x:Operand} (ho:o.op = .next x false) {b i:Nat} {l:List (AV×AV)} {seen:List Nat} (hx:opd e x = .v (.lit (.pointer (some ⟨b,0,none⟩)))) (hi:e.heap[i]? = some (b,HO.it l seen)) {k:List U->Prop}
  (h1:∀(j:Nat) (p:AV×AV),j∉seen->l[j]? = some p->k (putU o.dst (.v (.tup [.lit (.bool true),p.1,p.2]))++[.heap (e.heap.set i (b,HO.it l (seen++[j])))]))
  (h2:(∀j,j<l.length->j∈seen)->k (putU o.dst (.v (.tup [.lit (.bool false)])))) :
  ∀cx g a w,(∀d,o.dst=some d->d<cx.n)->Rel cx g e a w->∀(K:Act->World->Prop) (Q:Exit->Act->World->Prop),(∀u g' a' w',k u->Rel cx g' (app e u) a' w'->K a' w')->o.wp P a w K Q:=by
 intro cx g ac w hdn hR K Q hK;have hag:=Agree.refl (zJ x) e;have hv:=(zF hag hR (Sub.refl _) hx).lit_eq.1;obtain⟨m,es,clock,st,q1,q2,q3,q4,q5,q6,q7⟩:=hR.itAt hi;have hrun:=run_next_at (P:=P) w o.type b m clock clock st es clock q1 q2 q4.2 (Nat.le_refl _);have hes:es.size=l.length:=by rw[<-q5.1];simp
 have hleft:∀x,x∈(leftOf es st).toList↔x∈es.toList/\x.born∉st.toList:=fun x=>by
  unfold leftOf;simp
 have hex:∀r w',(Instr.next (.pointer (some ⟨b,0,none⟩)) false o.type).run P w = .ok r w'->(execOp ac.eval o).run P w = .ok (.value r) w':=fun r w' h=>by
  unfold execOp;simp only[ho,hv,Sem.run_bind,h,Result.andThen_ok,Sem.run_pure]
 rcases hrun with⟨h0,hr⟩|⟨en,hen,w1,hw1,hr⟩
 ·refine zU (hex _ _ hr) ?_;have hall:∀j,j<l.length->j∈seen:=fun j hj=>by
   have hjs:j<es.size:=by omega
   by_cases hin:es[j].born∈st.toList
   ·obtain⟨q,hq⟩:=List.getElem?_of_mem hin;have hql:=(List.getElem?_eq_some_iff.1 hq).1;obtain⟨i',hi'⟩:∃i',seen[q]? = some i':=⟨_,List.getElem?_eq_getElem (by omega)⟩
    obtain⟨e',he',hb'⟩:=q7 q i' _ hi' hq;have:=born_inj q4 (Array.getElem?_eq_getElem hjs) he' hb';rw[this];exact List.mem_of_getElem? hi'
   ·have:es[j]∈(leftOf es st).toList:=(hleft _).2 ⟨by simp,hin⟩;have hl0:(leftOf es st).toList=[]:=by
     have:=Array.eq_empty_of_size_eq_zero h0;rw[this]
    rw[hl0] at this;cases this
  refine hK _ g _ _ (h2 hall) (hR.putU hdn fun d=>?_);exact .tup _ _ rfl fun j u c hu hc=>by
   match j with
   | 0=>simp at hu hc;subst hu;subst hc;exact .lit _ rfl
   | j+1=>simp at hu
 ·obtain⟨hm1,hm2⟩:=(hleft en).1 hen;obtain⟨j,hj⟩:=List.getElem?_of_mem hm1;rw[Array.getElem?_toList] at hj;have hjl:j<l.length:=by rw[<-hes];exact (Array.getElem?_eq_some_iff.1 hj).1
  have hns:j∉seen:=fun hin=>by
   obtain⟨q,hq⟩:=List.getElem?_of_mem hin;have hql:=(List.getElem?_eq_some_iff.1 hq).1;obtain⟨x',hx'⟩:∃x',st.toList[q]? = some x':=⟨_,List.getElem?_eq_getElem (by omega)⟩
   obtain⟨e',he',hb'⟩:=q7 q j _ hq hx';rw[hj] at he';injection he' with he';subst he'
   exact hm2 (hb' ▸ List.mem_of_getElem? hx')
  have hlj:l[j]? = some l[j]:=List.getElem?_eq_getElem hjl;obtain⟨r1,r2⟩:=q5.2 j en l[j] (by rw[Array.getElem?_toList];exact hj) hlj;have hR1:Rel cx g e ac w1:=by
   rcases hw1 with rfl|rfl
   ·exact hR
   ·exact hR.grow (Grow.drew w)
  have hk1:w1.heap=w.heap:=by rcases hw1 with rfl|rfl<;>rfl
  have q1':w1.heap[b]? = some (.mapIter (some m) clock st clock):=by rw[hk1];exact q1
  refine zU (hex _ _ hr) ?_;have hset:=hR1.setIt (y := .it l (seen++[j])) hi q1' (m':=some m) (s':=clock) (t':=st.push en.born) (c':=clock) (fun w' _ kp now blk=>by
   have q2':w1.heap[m]? = some (.map es clock):=by rw[hk1];exact q2
   have h5:=hR1.itAt hi;obtain⟨m',es',clock',st',p1,p2,p3,p4,p5,p6,p7⟩:=h5;rw[q1'] at p1;injection p1 with p1
   injection p1 with e1 e2 e3 e4
   injection e1 with e1
   subst e1;subst e2;subst e3;rw[q2'] at p2;injection p2 with p2;injection p2 with p2;subst p2
   refine⟨m,es,clock,st.push en.born,now,(kp.mp m es clock q2' p3).1,(kp.mp m es clock q2' p3).2,q4,⟨p5.1,fun j e p he hp=>⟨(p5.2 j e p he hp).1.mono kp,(p5.2 j e p he hp).2.mono kp⟩⟩,by simp;simpa using q6,fun q i' x' hs hx'=>?_⟩;rw[Array.toList_push] at hx';by_cases hql:q<seen.length
   ·rw[List.getElem?_append_left hql] at hs;rw[List.getElem?_append_left (by omega)] at hx';exact q7 q i' x' hs hx'
   ·rw[List.getElem?_append_right (by omega)] at hs hx';have h0:q-seen.length=0:=by have:=(List.getElem?_eq_some_iff.1 hs).1;simp at this;omega
    rw[h0] at hs;rw[q6,h0] at hx';simp at hs hx';subst hs;subst hx';exact⟨en,hj,rfl⟩)
  refine hK _ g _ _ (h1 j l[j] hns hlj) (hset.putHeap hdn fun d=>?_);have kp2:Keeps g.F w g.F (setBlock w1 b (.mapIter (some m) clock (st.push en.born) clock)):=by
   refine⟨fun b2 k2 u hc hm=>⟨?_,hm⟩,fun b2 es2 c2 hc hm=>⟨?_,hm⟩⟩
   ·by_cases hne:b2=b
    ·subst hne;unfold World.cell? at hc;rw[q1] at hc;simp at hc
    ·rw[World.cell_of_heap (w:=w)]
     ·exact hc
     ·simp[setBlock,Ne.symm hne,hk1]
   ·by_cases hne:b2=b
    ·subst hne;rw[q1] at hc;cases hc
    ·simp[setBlock,Ne.symm hne,hk1];exact hc
  exact .tup _ _ rfl fun j u c hu hc=>by
   match j with
   | 0=>simp at hu hc;subst hu;subst hc;exact .lit _ rfl
   | 1=>simp at hu hc;subst hu;subst hc;exact r1.mono kp2
   | 2=>simp at hu hc;subst hu;subst hc;exact r2.mono kp2
   | j+3=>simp at hu
theorem zRP {x:Operand} (ho:o.op = .entry x) {b i:Nat} {l:List (AV×AV)} {seen:List Nat} {j:Nat} {p:AV×AV} (hx:opd e x = .v (.lit (.pointer (some ⟨b,0,none⟩)))) (hi:e.heap[i]? = some (b,HO.it l (seen++[j]))) (hp:l[j]? = some p) {k:List U->Prop}
  (h:k (putU o.dst (.v (.tup [p.1,p.2])))) :
  ∀cx g a w,(∀d,o.dst=some d->d<cx.n)->Rel cx g e a w->∀(K:Act->World->Prop) (Q:Exit->Act->World->Prop),(∀u g' a' w',k u->Rel cx g' (app e u) a' w'->K a' w')->o.wp P a w K Q:=by
 intro cx g ac w hdn hR K Q hK;have hag:=Agree.refl (zJ x) e;have hv:=(zF hag hR (Sub.refl _) hx).lit_eq.1;obtain⟨m,es,clock,st,q1,q2,q3,q4,q5,q6,q7⟩:=hR.itAt hi;have hes:es.size=l.length:=by rw[<-q5.1];simp
 have hjl:=(List.getElem?_eq_some_iff.1 hp).1;have hje:es[j]? = some (es[j]'(by omega)):=Array.getElem?_eq_getElem _;have hlen:st.toList.length=seen.length+1:=by rw[q6];simp
 obtain⟨x',hx'⟩:∃x',st.toList[seen.length]? = some x':=⟨_,List.getElem?_eq_getElem (by omega)⟩
 obtain⟨e',he',hb'⟩:=q7 seen.length j x' (by simp) hx';have hst:∃st0:Array Nat,st=st0.push e'.born:=by
  refine⟨st.pop,?_⟩;have hs:st.size=seen.length+1:=by simpa using hlen
  refine Array.toList_inj.1 ?_;rw[Array.toList_push,Array.toList_pop];have hne:st.toList≠[]:=fun h=>by rw[h] at hlen;simp at hlen
  have hla:st.toList.getLast hne=e'.born:=by
   have h1:=(List.getElem?_eq_some_iff.1 hx').2;rw[List.getLast_eq_getElem];have h2:st.toList.length-1=seen.length:=by omega
   simp only[h2];rw[h1,hb']
  rw[<-hla,List.dropLast_concat_getLast hne]
 obtain⟨st0,rfl⟩:=hst;have hmem:e'∈es.toList:=List.mem_of_getElem? (by rw[Array.getElem?_toList];exact he');have hr:=run_entry_at (P:=P) w b m clock st0 es clock e' q1 q2 hmem q4.1;have hex:(execOp ac.eval o).run P w = .ok (.value (.tuple #[e'.key,e'.val])) w:=by
  unfold execOp;simp only[ho,hv,Sem.run_bind,hr,Result.andThen_ok,Sem.run_pure]
 obtain⟨r1,r2⟩:=q5.2 j e' p (by rw[Array.getElem?_toList];exact he') hp;refine zU hex (hK _ g _ _ h (hR.putU hdn fun d=>?_));exact .tup _ _ rfl fun j u c hu hc=>by
  match j with
  | 0=>simp at hu hc;subst hu;subst hc;exact r1
  | 1=>simp at hu hc;subst hu;subst hc;exact r2
  | j+2=>simp at hu
end
open Go Go.MapKept
def zXO (T:TT) (o:Oper) (t:Nat) (l:List (AV×AV)) (ix:Operand) (ok:Bool) (e:Env) (k:List U->Prop):Prop:=match find T t with
 | .mp kt et=>match find T kt,opd e ix with
  | .sc kz,.v (.lit kv) => ∃(r:Option (Nat×AV)),(∀p∈l,qC kz p.1)/\qC kz (.lit kv)/\Found l kv r /\
    match zeroV T et with
    | some z=>k (putU o.dst (.v (zT4 ok r z)))
    | none=>False
  | _,_=>False
 | _=>False
def zYH (T:TT) (o:Oper) (t:Nat) (A:Option Addr) (n cap:Nat) (lo hi:Option Operand) (e:Env) (k:List U->Prop):Prop:=match find T t,bnd e lo 0,bnd e hi (n:Nat) with
 | .sl _ esz,some l,some h=>0<=l/\l<=h/\h<=cap/\k (putU o.dst (.v (.lit (.slice (if cap=l.toNat then A else A.map (·.add (l.toNat*esz))) (h.toNat-l.toNat) (cap-l.toNat)))))
 | _,_,_=>False
def zSH (T:TT) (o:Oper) (t s:Nat) (y:Operand) (e:Env) (k:List U->Prop):Prop:=match o.dst,opd e y with
 | none,.v a=>match z1T a.cells.length (zF0 T t),a with
  | true,.tup _=>False
  | true,_=>match e.vals s with
   | .v (.lit (.pointer (some ⟨b,off,none⟩)))=>true=true/\∃(i:Nat) (l:List AV),e.heap[i]? = some (b,HO.cells l)/\off+a.cells.length<=l.length/\k [.heap (e.heap.set i (b,HO.cells (setAt l off a.cells)))]
   | _=>False
  | _,_=>False
 | _,_=>False
def zZG (T:TT) (o:Oper) (t:Nat) (x y:Operand) (e:Env) (k:List U->Prop):Prop:=match find T t,opd e x,opd e y with
 | .sl _ esz,.v (.lit (.slice (some ⟨b,off,none⟩) n _)),.v a=>match a with
  | .lit (.slice (some ⟨b2,off2,none⟩) n2 _) => ∃(i i2:Nat) (l l2:List AV),e.heap[i]? = some (b,HO.cells l)/\e.heap[i2]? = some (b2,HO.cells l2)/\off+min n2 n*esz<=l.length/\off2+min n2 n*esz<=l2.length /\
    k (putU o.dst (.v (.lit (.int .i64 (min n2 n:Nat))))++[.heap (e.heap.set i (b,HO.cells (setAt l off ((l2.drop off2).take (min n2 n*esz)))))])
  | _=>match wk a with
   | .sl m=>(n=0/\k (putU o.dst (.v (.lit (.int .i64 0)))))∨∃(i:Nat) (l:List AV),e.heap[i]? = some (b,HO.cells l)/\off+m.length*esz<=l.length/\Uni esz m/\m.length<=n /\
     k (putU o.dst (.v (.lit (.int .i64 (m.length:Nat))))++[.heap (e.heap.set i (b,HO.cells (setAt l off (m.flatMap AV.cells))))])
   | _=>False
 | _,_,_=>False
def z4H:BinOp->Bool
 | .and | .or | .xor | .shl | .shr | .andNot=>true
 | _=>false
def zYF (o:Oper):Bool:=match o.op with
 | .fieldAddr _ _ _=>true
 | _=>false
def zZN (d:Nat) (l:List Operand):Bool:=l.any fun x=>match x with
 | .tmp t=>Nat.beq t d
 | _=>false
def z03 (ops:List Oper) (d:Nat) (o:Oper):Bool:=match o.op with
 | .move (.tmp s)=>ops.any fun c=>match c.dst,c.op with
  | some r,.call {callee := .value _,args:=a,.. }=>zZN d a.toList && ops.any fun c2=>match c2.dst,c2.op with
   | some r2,.call {callee := .value _,args:=a2,.. }=>zZN r a2.toList && ops.any fun q=>match q.dst,q.op with
    | some s',.assign (.tmp r')=>Nat.beq s' s && Nat.beq r' r2
    | _,_=>false
   | _,_=>false
  | _,_=>false
 | _=>false
def zAT (o:Oper):List Oper:=match o.dst with
 | some d=>[{o with op := .assign (.tmp d)}]
 | none=>[]
def z5F (x:SV) (off:Nat):Bool:=match x with
 | .box _ a=>match a.cells[off]? with
  | some (.lit (.slice _ _ _))=>true
  | _=>false
 | _=>false
section
variable (P:Program) (T:TT) (ops:List Oper)
def zIC (o:Oper) (fv:Value) (as:List Operand) (e:Env) (k:List U->Prop):Prop:=match zC9 e as with
 | some args => ∃r,zE4 P fv args r/\k (putU o.dst (.v r))
 | none=>False
def fnH (o:Oper) (f:Nat) (l m:List AV) (as:List Operand) (e:Env) (k:List U->Prop):Prop:=match opds e as with
 | some args => ∃r,zB P f (l++args++m) r/\k (putU o.dst (.v r))
 | none=>False
def fnR (o:Oper) (f:Nat) (l m:List AV) (as:List Operand) (e:Env) (k:List U->Prop):Prop:=match zC9 e as with
 | some args => ∃r,zB P f (l++args++m) r/\k (putU o.dst (.v r))
 | none=>False
def dfl (o:Oper) (c:CE) (n:CE->Nat×Nat->Prop):Prop:=ay P T false ops o (den c) fun u=>n (capp c u) (rd ops false o,wr ops false o)
def mkfn (o:Oper) (fn:Fn) (first cap:List Operand) (c:CE) (n:CE->Nat×Nat->Prop):Prop :=
 match zC9 (den (capp c (zD8 (yA c.vs) (first++cap)))) first,zC9 (den (capp c (zD8 (yA c.vs) (first++cap)))) cap with
 | some l,some m=>n (capp (capp c (zD8 (yA c.vs) (first++cap))) (putU o.dst (.v (.fn fn l m)))) (zG (first++cap),wrU (zD8 (yA c.vs) (first++cap)) ||| yI o.dst)
 | _,_=>False
def zLR (o:Oper) (x:Operand) (c:CE) (n:CE->Nat×Nat->Prop):Prop:=match x with
 | .tmp s=>match yA c.vs s with
  | .box _ a=>n (capp (capp c [.val s (.v (.ptr a.cells)),.clr s]) (putU o.dst (.v (.ptr a.cells)))) (bV s,(bV s ||| bO s) ||| yI o.dst)
  | _=>dfl P T ops o c n
 | _=>dfl P T ops o c n
def jM (o:Oper) (c:CE) (n:CE->Nat×Nat->Prop):Prop:=match o.op with
 | .load t (.tmp s)=>match yA c.vs s with
  | .v (.ptr l)=>match zXY T t l with
   | some a=>n (capp c (putU o.dst (.v a))) (bV s,yI o.dst)
   | none=>False
  | .v _=>wC T ops o t s (den c) fun u=>n (capp c u) (rd ops false o,wr ops false o)
  | .adB s' _ off=>match z5F (yA c.vs s') off with
   | true=>wC T (ops.filter zYF) o t s (den c) fun u=>n (capp c u) (zY (ops.filter zYF) o ||| zG9 (ops.filter zYF) o s,wr (ops.filter zYF) false o)
   | false=>wC T ops o t s (den c) fun u=>n (capp c u) (zY ops o ||| zG9 ops o s,wr ops false o)
  | _=>wC T ops o t s (den c) fun u=>n (capp c u) (zY ops o ||| zG9 ops o s,wr ops false o)
 | .fieldAddr t (.tmp s) f=>match yA c.vs s with
  | .v (.ptr l)=>match zZJ T t f with
   | some off=>n (capp c (putU o.dst (.v (.ptr (l.drop off))))) (bV s,yI o.dst)
   | none=>False
  | _=>dfl P T ops o c n
 | .indexAddr t x ix=>match opd (den c) x with
  | .v (.sl l)=>match zB1 (den c) ix,find T t with
   | some i,.sl _ esz => ∃a,0<=i/\l[i.toNat]? = some a/\a.cells.length=esz/\n (capp c (putU o.dst (.v (.ptr a.cells)))) (rd ops false o,wr ops false o)
   | _,_=>False
  | _=>dfl P T ops o c n
 | .store t (.tmp s) y=>match yA c.vs s with
  | .v (.lit (.pointer (some ⟨_,_,none⟩)))=>zSH T o t s y (den c) fun u=>n (capp c u) (bV s ||| (zJ y ||| 8),8)
  | _=>dfl P T ops o c n
 | .nilCheck x=>match opd (den c) x with
  | .v (.ptr l)=>n (capp c (putU o.dst (.v (.ptr l)))) (zJ x,yI o.dst)
  | _=>dfl P T ops o c n
 | .lookup t x ix ok=>match opd (den c) x with
  | .v (.mpv l)=>zXO T o t l ix ok (den c) fun u=>n (capp c u) (zJ x ||| zJ ix,yI o.dst)
  | _=>zPY T o t x ix ok (den c) fun u=>n (capp c u) (rd ops false o ||| 8,wr ops false o)
 | .mapUpdate t x ix y=>zX2 T o t x ix y (den c) fun u=>n (capp c u) (rd ops false o ||| 8,8)
 | .makeFunc fn first cap=>mkfn o fn first.toList cap.toList c n
 | .move x=>match z03 ops (o.dst.getD 0) o with
  | true=>ay P T false (zAT o) o (den c) fun u=>n (capp c u) (rd (zAT o) false o,wr (zAT o) false o)
  | false=>zLR P T ops o x c n
 | .assign x=>zLR P T ops o x c n
 | .slice t x lo hi none=>match opd (den c) x with
  | .v (.lit (.slice A k cap))=>zYH T o t A k cap lo hi (den c) fun u=>n (capp c u) (zJ x ||| (zG lo.toList ||| zG hi.toList),yI o.dst)
  | .v .nil=>(bnd (den c) lo 0=some 0/\bnd (den c) hi 0=some 0/\(match find T t with | .sl _ _=>n (capp c (putU o.dst (.v .nil))) (zJ x ||| (zG lo.toList ||| zG hi.toList),yI o.dst)|_=>False))∨dfl P T ops o c n
  | _=>dfl P T ops o c n
 | .binOp op t x y _=>match z4H op with
  | true=>match opd (den c) x,opd (den c) y with
   | .v (.lit (.int ka a)),.v (.lit (.int kb b)) => ∃r,(∀w,(binOp op t (.int ka a) (.int kb b)).run P w = .ok r w)/\r.oneCell'=true/\n (capp c (putU o.dst (.v (.lit r)))) (zJ x ||| zJ y,yI o.dst)
   | _,_=>False
  | false=>dfl P T ops o c n
 | .call cl=>match cl.callee with
  | .value f=>match opd (den c) f with
   | .v (.fn (.func k) l m)=>fnH P o k l m cl.args.toList (den c) (fun u=>n (capp c u) (zJ f ||| zG cl.args.toList,yI o.dst))∨fnR P o k l m cl.args.toList (den c) (fun u=>n (capp c u) (zJ f ||| zG cl.args.toList,yI o.dst))
   | .v (.lit fv)=>zLM P o fv cl.args.toList (den c) (fun u=>n (capp c u) (rd ops false o,wr ops false o))∨(zIC P o fv cl.args.toList (den c) (fun u=>n (capp c u) (zJ f ||| zG cl.args.toList,yI o.dst)) ∨
     (zMC P o fv cl.args.toList (den c) (fun u=>n (capp c u) (rd ops false o ||| 8,wr ops false o))∨zHG P o fv cl.args.toList (den c) (fun u=>n (capp c u) (rd ops false o ||| 8,wr ops false o ||| 8))))
   | _=>False
  | .builtin .cap=>match cl.argTypes.toList,cl.args.toList with
   | [t],[x]=>match find T t,opd (den c) x with
    | .sl _ _,.v .nil=>n (capp c (putU o.dst (.v (.lit (.int .i64 0))))) (zJ x,yI o.dst)
    | .sl _ _,.v (.lit (.slice _ _ k))=>n (capp c (putU o.dst (.v (.lit (.int .i64 (k:Nat)))))) (zJ x,yI o.dst)
    | _,_=>False
   | _,_=>False
  | .builtin .copy=>match cl.argTypes.toList,cl.args.toList with
   | [t,_],[x,y]=>zZG T o t x y (den c) fun u=>n (capp c u) (zJ x ||| (zJ y ||| 8),yI o.dst ||| 8)
   | _,_=>False
  | _=>dfl P T ops o c n
 | _=>dfl P T ops o c n
def z6B (o:Oper) (fv:Value) (as:List Operand) (e:Env) (k:List U->Prop):Prop:=match zC9 e as with
 | some args => ∃is hin os post,xK is e.heap=some hin/\is.Nodup/\wR e as os=true/\CallsG P fv hin args os post /\
    ∀r w hout,post r w hout->k (lose as os++(putU o.dst (.v r)++(zBX o.dst w++[.heap (yF is e.heap++hout)])))
 | none=>False
def mvX (o:Oper) (x:Operand) (c:CE) (n:CE->Prop):Prop:=match x with
 | .tmp s=>match yA c.vs s with
  | .box _ a=>n (capp (capp c [.val s (.v (.ptr a.cells)),.clr s]) (putU o.dst (.v (.ptr a.cells))))∨hpfy [.tmp s] c fun c=>ay P T true ops o (den c) fun u=>n (capp c u)
  | _=>ay P T true ops o (den c) fun u=>n (capp c u)
 | _=>ay P T true ops o (den c) fun u=>n (capp c u)
def z3Q (o:Oper) (op:BinOp) (t:Nat) (c:CE) (n:CE->Prop):Prop:=match find T t,op with
 | .sl _ _,.eql=>n (capp c (putU o.dst (.v (.lit (.bool true)))))/\n (capp c (putU o.dst (.v (.lit (.bool false)))))
 | .sl _ _,.neq=>n (capp c (putU o.dst (.v (.lit (.bool false)))))/\n (capp c (putU o.dst (.v (.lit (.bool true)))))
 | _,_=>False
def fnG (P:Program) (o:Oper) (n:Nat) (l m:List AV) (as:List Operand) (e:Env) (k:List U->Prop):Prop:=match opds e as with
 | some args => ∃is hin post,xK is e.heap=some hin/\is.Nodup/\CallsG P (fnv n) hin (l++args++m) [] post /\
    ∀r w hout,post r w hout->k (lose as []++(putU o.dst (.v r)++(zBX o.dst w++[.heap (yF is e.heap++hout)])))
 | none=>False
def shB (y:Operand) (c:CE) (k:CE->Prop):Prop:=match y with
 | .tmp u=>match yA c.vs u with
  | .box _ a=>k (capp c [.val u (.v (.ptr a.cells)),.clr u])
  | _=>k c
 | _=>k c
def zL9 (o:Oper) (c:CE) (n:CE->Prop):Prop:=match o.op with
 | .makeMap _ none=>match o.dst with
  | some d => ∀b,n (capp c [.val d (.v (.lit (.map (some b)))),.clr d,.heap (c.hp++[(b,HO.mp [])])])
  | none=>False
 | .makeSlice _ _ _=>ay P T true ops o (den c) fun u=>n (capp c u)
 | .range t x=>match opd (den c) x,o.dst,find T t with
  | .v (.mpv l),some d,.mp _ _ => ∀b,n (capp c [.val d (.v (.lit (.pointer (some ⟨b,0,none⟩)))),.clr d,.heap (c.hp++[(b,HO.it l [])])])
  | _,_,_=>False
 | .next x false=>match opd (den c) x with
  | .v (.lit (.pointer (some ⟨b,0,none⟩))) => ∃(i:Nat) (l:List (AV×AV)) (seen:List Nat),c.hp[i]? = some (b,HO.it l seen) /\
    (∀(k:Nat) (p:AV×AV),k∉seen->l[k]? = some p->n (capp c (putU o.dst (.v (.tup [.lit (.bool true),p.1,p.2]))++[.heap (c.hp.set i (b,HO.it l (seen++[k])))]))) /\
    ((∀k,k<l.length->k∈seen)->n (capp c (putU o.dst (.v (.tup [.lit (.bool false)])))))
  | _=>False
 | .entry x=>match opd (den c) x with
  | .v (.lit (.pointer (some ⟨b,0,none⟩))) => ∃(i:Nat) (l:List (AV×AV)) (seen:List Nat) (k:Nat) (p:AV×AV),c.hp[i]? = some (b,HO.it l (seen++[k]))/\l[k]? = some p/\n (capp c (putU o.dst (.v (.tup [p.1,p.2]))))
  | _=>False
 | .makeFunc fn first cap=>mkfn o fn first.toList cap.toList c (fun c _=>n c)∨hpfy (first.toList++cap.toList) c fun c=>ay P T true ops o (den c) fun u=>n (capp c u)
 | .move x=>mvX P T ops o x c n
 | .assign x=>mvX P T ops o x c n
 | .store _ _ y=>shB y c fun c=>ay P T true ops o (den c) fun u=>n (capp c u)
 | .binOp op t x y _=>match opd (den c) x,opd (den c) y with
  | .v (.sl []),.v .nil=>z3Q T o op t c n
  | _,_=>jM P T ops o c (fun c _=>n c)
 | .call cl=>match cl.callee with
  | .value f=>match opd (den c) f with
   | .v (.lit fv)=>zLM P o fv cl.args.toList (den c) (fun u=>n (capp c u))∨(zIC P o fv cl.args.toList (den c) (fun u=>n (capp c u))∨(zMC P o fv cl.args.toList (den c) (fun u=>n (capp c u))∨(zHG P o fv cl.args.toList (den c) (fun u=>n (capp c u)) ∨
     (zB4 P true o fv cl.args.toList (den c) (fun u=>n (capp c u))∨(z6B P o fv cl.args.toList (den c) (fun u=>n (capp c u)) ∨
     hpfy cl.args.toList c fun c=>zB4 P true o fv cl.args.toList (den c) (fun u=>n (capp c u)))))))
   | .v (.fn (.func k) l m)=>fnH P o k l m cl.args.toList (den c) (fun u=>n (capp c u))∨(fnR P o k l m cl.args.toList (den c) (fun u=>n (capp c u))∨fnG P o k l m cl.args.toList (den c) (fun u=>n (capp c u)))
   | _=>jM P T ops o c (fun c _=>n c)
  | .builtin .append=>match cl.argTypes.toList,cl.args.toList with
   | [t,t2],[x,y]=>match find T t2 with
    | .sc (.lit (.int _ _))=>match find T t,opd (den c) x,opd (den c) y,o.dst with
     | .sl _ esz,.v .nil,.v (.lit (.int .i64 z)),some d => ∃m:Nat,z=(m:Nat)/\0<m/\m<=4294967296/\∀b cap zs,m<=cap->zs.length=cap*esz->n (capp c [.val d (.v (.lit (.slice (some ⟨b,0,none⟩) m cap))),.clr d,.heap (c.hp++[(b,HO.cells zs)])])
     | _,_,_,_=>False
    | _=>ay P T true ops o (den c) fun u=>n (capp c u)
   | _,_=>ay P T true ops o (den c) fun u=>n (capp c u)
  | .builtin .cap=>jM P T ops o c (fun c _=>n c)
  | .builtin .copy=>jM P T ops o c (fun c _=>n c)
  | _=>ay P T true ops o (den c) fun u=>n (capp c u)
 | _=>jM P T ops o c (fun c _=>n c)
end
section
variable {P:Program} {arr:Array Oper} {o:Oper} {e:Env} {T:TT}
theorem z1P (hT:zN P T) {t:Nat} {x ix:Operand} {ok:Bool} (ho:o.op = .lookup t x ix ok) {l:List (AV×AV)} (hx:opd e x = .v (.mpv l)) {k:List U->Prop} (h:zXO T o t l ix ok e k) :
  ∃u,RunsB P o e u (zJ x ||| zJ ix)/\wrU u=yI o.dst/\k u:=by
 unfold zXO at h;split at h
 ·rename_i kt et hf;split at h
  ·rename_i kz kv hfk hix;obtain⟨r,h2,h3,h4,h5⟩:=h;split at h5
   ·rename_i z hz;have hk:=find_ok hT kt;rw[hfk] at hk;obtain⟨d,_,k1,k2,_⟩:=hk;obtain⟨v,hv,hkv⟩:=wS h3 k2;injection hv with hv;subst hv
    exact⟨_,zUM hT ho hf k1 hx hix hkv (fun p hp=>wS (h2 p hp) k2) h4 (zJZ hT hz),zZ _ _,h5⟩
   ·exact h5.elim
  ·exact h.elim
 ·exact h.elim
theorem zYJ (hT:zN P T) {t:TypeId} {x:Operand} {lo hi:Option Operand} (ho:o.op = .slice t x lo hi none) {A:Option Addr} {n cap:Nat} (hx:opd e x = .v (.lit (.slice A n cap))) {k:List U->Prop} (h:zYH T o t A n cap lo hi e k) :
  ∃u,RunsB P o e u (zJ x ||| (zG lo.toList ||| zG hi.toList))/\wrU u=yI o.dst/\k u:=by
 unfold zYH at h;split at h
 ·rename_i E esz l h' hf hl hh;obtain⟨p1,p2,p3,h⟩:=h;exact⟨_,z1D hT ho hf hx hl hh p1 p2 p3,zZ _ _,h⟩
 ·exact h.elim
theorem z2D (hT:zN P T) {c:Call} (ho:o.op = .call c) (hc:c.callee = .builtin .copy) {x y:Operand} {t t2:Nat} (hts:c.argTypes.toList=[t,t2]) (hxs:c.args.toList=[x,y]) {k:List U->Prop} (h:zZG T o t x y e k) :
  ∃u,RunsB P o e u (zJ x ||| (zJ y ||| 8))/\Sub (wrU u) (yI o.dst ||| 8)/\k u:=by
 have w8:∀(x:SV) (h:List (Nat×HO)),Sub (wrU (putU o.dst x++[.heap h])) (yI o.dst ||| 8):=fun x h=>by
  rw[zB9,zZ];exact .or Sub.inl (by simp only[wrU];exact .or Sub.inr (Sub.zero _))
 unfold zZG at h;split at h
 ·rename_i E esz b off n cap a hf hx hy;split at h
  ·rename_i b2 off2 n2 cap2;obtain⟨i,i2,l,l2,h1,h2,h3,h4,h5⟩:=h;exact⟨_,z1L hT ho hc hts hxs hf hx h1 hy h2 h3 h4,w8 _ _,h5⟩
  ·split at h
   ·rename_i m hw;rcases h with⟨h0,h⟩|⟨i,l,h1,h2,h3,h4,h5⟩
    ·subst h0;exact⟨_,(z0M hT ho hc hts hxs hf hx hy hw).sub (.or Sub.inl (Sub.trans Sub.inl Sub.inr)),by rw[zZ];exact Sub.inl,h⟩
    ·exact⟨_,z0R hT ho hc hts hxs hf hx h1 h2 hy hw h3 h4,w8 _ _,h5⟩
   ·exact h.elim
 ·exact h.elim
theorem zMO {cl:Call} {f:Operand} (ho:o.op = .call cl) (hc:cl.callee = .value f) {fv:Value} (hf:opd e f = .v (.lit fv)) {k:List U->Prop} (h:zIC P o fv cl.args.toList e k) :
  ∃u,RunsB P o e u (zJ f ||| zG cl.args.toList)/\wrU u=yI o.dst/\k u:=by
 unfold zIC at h;split at h
 ·rename_i args ha;obtain⟨r,h1,h2⟩:=h;exact⟨_,z0Y ho hc hf (zBT ha) h1,zZ _ _,h2⟩
 ·exact h.elim
theorem z0B {cl:Call} {f:Operand} (ho:o.op = .call cl) (hc:cl.callee = .value f) {n:Nat} {l m:List AV} (hf:opd e f = .v (.fn (.func n) l m)) {k:List U->Prop} (h:fnH P o n l m cl.args.toList e k∨fnR P o n l m cl.args.toList e k) :
  ∃u,RunsB P o e u (zJ f ||| zG cl.args.toList)/\wrU u=yI o.dst/\k u:=by
 rcases h with h|h
 ·unfold fnH at h;split at h
  ·rename_i args ha;obtain⟨r,h1,h2⟩:=h;exact⟨_,zTO ho hc hf (zFL ha) h1,zZ _ _,h2⟩
  ·exact h.elim
 ·unfold fnR at h;split at h
  ·rename_i args ha;obtain⟨r,h1,h2⟩:=h;exact⟨_,zTO ho hc hf (zBT ha) h1,zZ _ _,h2⟩
  ·exact h.elim
theorem zCZ:∀(us vs:List U) (c:CE),capp c (us++vs)=capp (capp c us) vs
 | [],_,_=>rfl
 | u::us,vs,c=>zCZ us vs (zJU c u)
theorem zYQ {fn:Fn} {first cap:Array Operand} (ho:o.op = .makeFunc fn first cap) {c:CE} {n:CE->Nat×Nat->Prop} (h:mkfn o fn first.toList cap.toList c n) :
  ∃u m,RunsB P o (den c) u m.1/\Sub (wrU u) m.2/\n (capp c u) m:=by
 unfold mkfn at h;split at h
 ·rename_i l m hl hm;rw[yC] at hl hm;refine⟨zD8 (yA c.vs) (first.toList++cap.toList)++putU o.dst (.v (.fn fn l m)),(zG (first.toList++cap.toList),wrU (zD8 (yA c.vs) (first.toList++cap.toList)) ||| yI o.dst),z3H (e:=den c) ho hl hm,?_,by rw[zCZ];exact h⟩;rw[zB9,zZ];exact Sub.refl _
 ·exact h.elim
theorem zDE (hT:zN P T) {c:CE} {n:CE->Nat×Nat->Prop} (h:dfl P T arr.toList o c n):∃u m,RunsB P o (den c) u m.1/\Sub (wrU u) m.2/\n (capp c u) m:=by
 obtain⟨u,h2,h3,h4⟩:=zDR hT h;exact⟨u,(rd arr.toList false o,wr arr.toList false o),h2,h3,h4⟩
theorem zMU (hT:zN P T) {x:Operand} (ho:∀(a:Act) w,(execOp a.eval o).run P w = .ok (.value (a.eval x)) w) {c:CE} {n:CE->Nat×Nat->Prop} (h:zLR P T arr.toList o x c n):∃u m,RunsB P o (den c) u m.1/\Sub (wrU u) m.2/\n (capp c u) m:=by
 unfold zLR at h;split at h
 ·rename_i s;split at h
  ·rename_i q a hx;refine⟨[.val s (.v (.ptr a.cells)),.clr s]++putU o.dst (.v (.ptr a.cells)),(bV s,(bV s ||| bO s) ||| yI o.dst),fun cx e' g ac w hd hag hR K Q hK=>?_,?_,by rw[zCZ];exact h⟩
   ·have hx':(den c).vals s = .box q a:=hx;obtain⟨g1,hR1⟩:=hR.freeze (hag.box (Sub.refl _) hx');refine zU (ho ac w) (hK g1 _ _ ?_);rw[yG];refine hR1.putU hd fun _=>?_;have:=hR1.slots s;have e1:(app e' [.val s (.v (.ptr a.cells)),.clr s]).vals s = .v (.ptr a.cells):=zW _ _ _;rw[e1] at this;exact this
   ·rw[zB9,zZ];simp only[wrU];exact .or (.or (Sub.trans Sub.inl Sub.inl) (.or (Sub.trans Sub.inr Sub.inl) (Sub.zero _))) Sub.inr
  ·exact zDE hT h
 ·exact zDE hT h
theorem zYT (hT:zN P T) {t s:Nat} {y:Operand} (ho:o.op = .store t (.tmp s) y) {k:List U->Prop} (h:zSH T o t s y e k):∃u,RunsB P o e u (bV s ||| (zJ y ||| 8))/\Sub (wrU u) 8/\k u:=by
 unfold zSH at h;split at h
 ·rename_i a hd hy;split at h
  ·exact h.elim
  ·rename_i a _ _ hnt hn;have hnt':∀l,a≠.tup l:=fun l hl=>hnt l hl;split at h
   ·rename_i b off hx;obtain⟨_,i,l,hi,hle,hk⟩:=h;refine⟨_,fun cx e' g ac w hdn hag hR K Q hK=>?_,?_,hk⟩
    ·have hsl:=hag.slot hR (s:=s) Sub.inl;rw[hx] at hsl;have hv:=(Rep.lit_eq hsl).1;have hh:=hag.heap ((Sub.trans Sub.inr Sub.inr:Sub 8 (bV s ||| (zJ y ||| 8))) 3 (by decide));rw[hh] at hi;obtain⟨cs,E,p5,p6⟩:=hR.heapAt hi;have v1:=zF hag hR (Sub.trans Sub.inl Sub.inr) hy;have v2:=v1.cells hnt';have hsz:cs.size=l.length:=by rw[<-p6.1];simp
     obtain⟨w',cs',r1,r2,r3⟩:=zD1 (off:=off) hT hn v2 p5 (by omega);refine wp_skip (zCQ ho hv r1) ?_;rw[hd];have hp:=(hR.setHeap hi r2 (p6.piece v2 hle r3)).putNone undef;refine hK g _ w' ?_;rw[hh];exact hp
    ·simp only[wrU];exact .or (Sub.refl _) (Sub.zero _)
   ·exact h.elim
  ·exact h.elim
 ·exact h.elim
theorem zY7 {cx:Ctx} {g:G} {e:Env} {a:Act} {w:World} {d:Option Nat} {l:List AV} (h:Rel cx g (app e (putU d (.adE l))) a w):Rel cx g (app e (putU d (.v (.ptr l)))) a w:=by
 cases d with
 | none=>exact h
 | some d =>
  have hd:∀s,s≠d->(app e (putU (some d) (.v (.ptr l)))).vals s=(app e (putU (some d) (.adE l))).vals s:=fun s hs=>by
   show zBJ e.vals d _ s=zBJ e.vals d _ s;rw[yQ _ _ hs,yQ _ _ hs]
  refine {h with slots:=fun s=>?_,own:=fun s c sz v ho hp=>?_}
  ·by_cases hs:s=d
   ·subst hs;have h1:=h.slots s;rw[show (app e (putU (some s) (.adE l))).vals s = .adE l from zW _ _ _] at h1;rw[show (app e (putU (some s) (.v (.ptr l)))).vals s = .v (.ptr l) from zW _ _ _];obtain⟨b,off,h2,h3⟩:=h1;show Rep g.F w _ _;rw[h2];refine .ptr b off l (fun k=>((w.cell? ⟨b,off+k,none⟩)).getD undef) (fun c hc=>?_) (fun k hk=>?_) (fun k c hc=>?_)
    ·obtain⟨j,hj⟩:=List.getElem?_of_mem hc;obtain⟨u,_,_,_,q⟩:=h3 j c hj;exact q
    ·obtain⟨u,q1,q2,_,_⟩:=h3 k _ (List.getElem?_eq_getElem hk);rw[q1];exact⟨rfl,q2⟩
    ·obtain⟨u,q1,_,q3,_⟩:=h3 k c hc;rw[q1];exact q3
   ·rw[hd s hs];exact h.slots s
  ·by_cases hs:s=d
   ·subst hs;have:(app e (putU (some s) (.v (.ptr l)))).own s c=0:=by simp[app,app1,putU]
    rw[this] at ho;cases ho
   ·rw[hd s hs] at hp;exact h.own s c sz v ho hp
theorem zP6 {P:Program} {o:Oper} {e:Env} {l:List AV} {m:Nat} (h:RunsB P o e (putU o.dst (.adE l)) m):RunsB P o e (putU o.dst (.v (.ptr l))) m :=
 fun cx e' g a w hd hag hR K Q hK=>h cx e' g a w hd hag hR K Q fun g' a' w' hR'=>hK g' a' w' (zY7 hR')
theorem zCG (hT:zN P T) {c:CE} {n:CE->Nat×Nat->Prop} (h:jM P T arr.toList o c n):∃u m,RunsB P o (den c) u m.1/\Sub (wrU u) m.2/\n (capp c u) m:=by
 have ofD:stepD P T arr.toList o c n->∃u m,RunsB P o (den c) u m.1/\Sub (wrU u) m.2/\n (capp c u) m:=zKO hT;unfold jM at h;split at h
 ·rename_i t s ho;split at h
  ·rename_i l hx;split at h
   ·rename_i a ha;exact⟨_,_,z0P hT ho hx ha,by rw[zZ];exact Sub.refl _,h⟩
   ·exact h.elim
  ·rename_i a _ hx;refine ofD ?_;unfold stepD;simp only[ho,hx];exact h
  ·rename_i s' q off hx;split at h
   ·have hD:stepD P T ((arr.toList.filter zYF).toArray).toList o c n:=by
     unfold stepD;simp only[ho,hx,List.toList_toArray];exact h
    exact zKO hT hD
   ·refine ofD ?_;unfold stepD;simp only[ho,hx];exact h
  ·rename_i hn1 hn2 hn3;refine ofD ?_;unfold stepD;simp only[ho];exact h
 ·rename_i t s f ho;split at h
  ·rename_i l hx;split at h
   ·rename_i off hf;exact⟨_,_,zP6 (z2C hT ho hx hf),by rw[zZ];exact Sub.refl _,h⟩
   ·exact h.elim
  ·exact zDE hT h
 ·rename_i t x ix ho;split at h
  ·rename_i l hx;split at h
   ·rename_i i E esz hix hf;obtain⟨a,h1,h2,h3,h4⟩:=h;have hay:ay P T false arr.toList o (den c) fun u=>u=putU o.dst (.adE a.cells):=by
     unfold ay;simp only[ho,hx,hix,hf];exact⟨a,h1,h2,h3,rfl⟩
    obtain⟨u,q1,q2,rfl⟩:=zDR hT hay;have q1':RunsB P o (den c) (putU o.dst (.adE a.cells)) (rd arr.toList false o):=q1;rw[zZ] at q2;exact⟨_,_,zP6 q1',by rw[zZ];exact q2,h4⟩
   ·exact h.elim
  ·exact zDE hT h
 ·rename_i t s y ho;split at h
  ·obtain⟨u,h1,h2,h3⟩:=zYT hT ho h;exact⟨u,_,h1,h2,h3⟩
  ·exact zDE hT h
 ·rename_i x ho;split at h
  ·rename_i l hx;exact⟨_,_,zYI ho hx,by rw[zZ];exact Sub.refl _,h⟩
  ·exact zDE hT h
 ·rename_i t x ix ok ho;split at h
  ·rename_i l hx;obtain⟨u,h1,h2,h3⟩:=z1P hT ho hx h;exact⟨u,_,h1,by rw[h2];exact Sub.refl _,h3⟩
  ·obtain⟨u,h1,h2,h3⟩:=zTX (arr:=arr) hT ho h;exact⟨u,_,h1,h2,h3⟩
 ·rename_i t x ix y ho;obtain⟨u,h1,h2,h3⟩:=zZR (arr:=arr) hT ho h;exact⟨u,_,h1,h2,h3⟩
 ·rename_i fn first cap ho
  exact zYQ ho h
 ·rename_i x ho;split at h
  ·have hay':ay P T false ((zAT o).toArray).toList o (den c) fun u=>n (capp c u) (rd (zAT o) false o,wr (zAT o) false o):=by simpa using h
   obtain⟨u,h2,h3,h4⟩:=zDR hT hay';refine⟨u,_,?_,?_,h4⟩
   ·have h2':RunsB P o (den c) u (rd ((zAT o).toArray).toList false o):=h2;simpa using h2'
   ·simpa using h3
  ·exact zMU hT (fun a w=>by unfold execOp;simp only[ho,Sem.run_pure]) h
 ·rename_i x ho;exact zMU hT (fun a w=>by unfold execOp;simp only[ho,Sem.run_pure]) h
 ·rename_i t x lo hi ho;split at h
  ·rename_i A k cap hx;obtain⟨u,h1,h2,h3⟩:=zYJ hT ho hx h;exact⟨u,_,h1,by rw[h2];exact Sub.refl _,h3⟩
  ·rename_i hx;rcases h with⟨h1,h2,h3⟩|h
   ·split at h3
    ·rename_i E esz hf;exact⟨_,_,z00 hT ho hf hx h1 h2,by rw[zZ];exact Sub.refl _,h3⟩
    ·exact h3.elim
   ·exact zDE hT h
  ·exact zDE hT h
 ·rename_i op t x y t2 ho;split at h
  ·split at h
   ·rename_i ka a kb b hx hy;obtain⟨r,h1,h2,h3⟩:=h;exact⟨_,_,z5A ho hx hy (by simp) (by simp) h1 h2,by rw[zZ];exact Sub.refl _,h3⟩
   ·exact h.elim
  ·exact zDE hT h
 ·rename_i cl ho;split at h
  ·rename_i f hc;split at h
   ·rename_i k l m hf;have h':∀{A B:Prop},A∨B->A∨B:=id;obtain⟨u,h1,h2,h3⟩:=z0B ho hc hf h;exact⟨u,_,h1,by rw[h2];exact Sub.refl _,h3⟩
   ·rename_i fv hf;rcases h with h|h|h|h
    ·obtain⟨u,h1,h2,h3⟩:=zNR (arr:=arr) hT ho hc hf h;exact⟨u,_,h1,h2,h3⟩
    ·obtain⟨u,h1,h2,h3⟩:=zMO ho hc hf h;exact⟨u,_,h1,by rw[h2];exact Sub.refl _,h3⟩
    ·obtain⟨u,h1,h2,h3⟩:=zNW (arr:=arr) ho hc hf h;exact⟨u,_,h1,h2,h3⟩
    ·obtain⟨u,h1,h2,h3⟩:=zKC (arr:=arr) ho hc hf h;exact⟨u,_,h1,h2,h3⟩
   ·exact h.elim
  ·rename_i hc;split at h
   ·rename_i t x hts hxs;split at h
    ·rename_i E esz hf hx;exact⟨_,_,z2O hT ho hc hts hxs hf (n:=0) (.inl ⟨hx,rfl⟩),by rw[zZ];exact Sub.refl _,h⟩
    ·rename_i E esz A q k hf hx;exact⟨_,_,z2O hT ho hc hts hxs hf (.inr ⟨A,q,hx⟩),by rw[zZ];exact Sub.refl _,h⟩
    ·exact h.elim
   ·exact h.elim
  ·rename_i hc;split at h
   ·rename_i t t2 x y hts hxs;obtain⟨u,h1,h2,h3⟩:=z2D hT ho hc hts hxs h;exact⟨u,_,h1,h2,h3⟩
   ·exact h.elim
  ·exact zDE hT h
 ·exact zDE hT h
end
section
variable (P:Program) (T:TT) (ops:List Oper)
def zGH (o:Oper):Bool:=match o.op,o.dst with
 | .makeMap _ none,some _=>true
 | _,_=>false
def zFM (l:List Oper):CE->(CE->Prop)->Prop:=List.rec (motive:=fun _=>CE->(CE->Prop)->Prop)
 (fun c k=>match c with|⟨vs,ow,al,h⟩=>k ⟨vs,ow,al,h⟩)
 (fun o _ ih c k=>match c with
  | ⟨vs,ow,al,h⟩=>cgk ops o ⟨vs,ow,al,h⟩ (fun c=>zL9 P T ops o c fun c=>ih c k) (fun c=>ih (capp c (putU o.dst .undef)) k)) l
def zOI (fl:Nat) (l:List Oper):CE->List (Nat×Nat)->(CE->List (Nat×Nat)->Prop)->Prop:=List.rec (motive:=fun _=>CE->List (Nat×Nat)->(CE->List (Nat×Nat)->Prop)->Prop)
 (fun c bs k=>match c with|⟨vs,ow,al,h⟩=>k ⟨vs,ow,al,h⟩ bs)
 (fun o _ ih c bs k=>match c with
  | ⟨vs,ow,al,h⟩=>cgk ops o ⟨vs,ow,al,h⟩ (fun c=>jM P T ops o c fun c m=>ih c (bs++[(zY ops o ||| (m.1 ||| fl),m.2)]) k) (fun c=>ih (capp c (putU o.dst .undef)) (bs++[(zY ops o ||| fl,yI o.dst)]) k)) l
def zKD (l:List Oper):CE->List (Nat×Nat)->(CE->List (Nat×Nat)->Prop)->Prop:=List.rec (motive:=fun _=>CE->List (Nat×Nat)->(CE->List (Nat×Nat)->Prop)->Prop)
 (fun c bs k=>match c with|⟨vs,ow,al,h⟩=>k ⟨vs,ow,al,h⟩ bs)
 (fun o r ih c bs k=>match c with
  | ⟨vs,ow,al,h⟩=>match zGH o with
   | true=>match o.guard,o.dst with
    | none,some d => ∀b,zOI P T ops 128 r (capp ⟨vs,ow,al,h⟩ [.val d (.v (.lit (.map (some b)))),.clr d,.heap (h++[(b,HO.mp [])])]) (bs++[(8,(bV d ||| bO d) ||| (8 ||| 128))]) k
    | _,_=>False
   | false=>cgk ops o ⟨vs,ow,al,h⟩ (fun c=>jM P T ops o c fun c m=>ih c (bs++[(zY ops o ||| (m.1 ||| 0),m.2)]) k) (fun c=>ih (capp c (putU o.dst .undef)) (bs++[(zY ops o ||| 0,yI o.dst)]) k)) l
end
def WcX (P:Program) (T:TT) (q:Code):CE->(CE->Prop)->(Nat->CE->Prop)->(CE->Prop)->Prop:=Code.rec (motive:=fun _=>CE->(CE->Prop)->(Nat->CE->Prop)->(CE->Prop)->Prop)
 (skip:=fun c n _ _=>n c)
 (region:=fun _ ops draw c n _ _=>match c with
  | ⟨vs,ow,_,hp⟩=>crf vs fun vs=>match draw with
   | true=>zKD P T ops.toList ops.toList ⟨vs,ow,[],hp⟩ [] fun c bs=>zMD ops.toList bs=true/\n c
   | false=>zFM P T ops.toList ops.toList ⟨vs,ow,[],hp⟩ n)
 (seq:=fun _ _ iha ihb c n x r=>iha c (fun c=>ihb c n x r) x r)
 (cond:=fun o _ _ iha ihb c n x r=>match opd (den c) o with
  | .v (.lit (.bool t))=>match t with
   | true=>iha c n x r
   | false=>ihb c n x r
  | .v (.sb t)=>(t=true->iha (crefine o true c) n x r)/\(t=false->ihb (crefine o false c) n x r)
  | _=>False)
 (block:=fun i _ ih c n x r=>ih c n (fun j c=>match Nat.beq j i with|true=>n c|false=>x j c) r)
 (loop:=fun _ ih c _ x r => ∃(α:Type) (I:α->Fr) (μ:α->Nat) (y:α),le (den c) (I y)/\∀y,ih (mkC (I y)) (fun c => ∃z,μ z<μ y/\le (den c) (I z)) x r)
 (exit:=fun i c _ x _=>x i c)
 (scope:=fun _ ih c n x r=>ih c n x r)
 (label:=fun _ c n _ _=>n c)
 (ret:=fun c _ _ r=>r c)
 (rangeFunc:=fun _ _ _ _ _ _ _ _ _ _=>False)
 (goto:=fun _ _ _ _ _=>False)
 (refuse:=fun _ _ _ _ _=>False) q
section
variable {P:Program} {T:TT} {ops:List Oper}
theorem zRN {o:Oper} {r:List Oper} {vs ow al h bs k}:zKD P T ops (o::r) ⟨vs,ow,al,h⟩ bs k=(match zGH o with
   | true=>match o.guard,o.dst with
    | none,some d => ∀b,zOI P T ops 128 r (capp ⟨vs,ow,al,h⟩ [.val d (.v (.lit (.map (some b)))),.clr d,.heap (h++[(b,HO.mp [])])]) (bs++[(8,(bV d ||| bO d) ||| (8 ||| 128))]) k
    | _,_=>False
   | false=>cgk ops o ⟨vs,ow,al,h⟩ (fun c=>jM P T ops o c fun c m=>zKD P T ops r c (bs++[(zY ops o ||| (m.1 ||| 0),m.2)]) k) (fun c=>zKD P T ops r (capp c (putU o.dst .undef)) (bs++[(zY ops o ||| 0,yI o.dst)]) k)):=rfl
theorem zJD {i:Nat} {arr:Array Oper} {draw:Bool} {vs ow al hp} {n:CE->Prop} {x:Nat->CE->Prop} {r:CE->Prop}:WcX P T (.region i arr draw) ⟨vs,ow,al,hp⟩ n x r=(crf vs fun vs=>match draw with
   | true=>zKD P T arr.toList arr.toList ⟨vs,ow,[],hp⟩ [] fun c bs=>zMD arr.toList bs=true/\n c
   | false=>zFM P T arr.toList arr.toList ⟨vs,ow,[],hp⟩ n):=rfl
theorem zP8 {o:Operand} {a b:Code} {c:CE} {n:CE->Prop} {x:Nat->CE->Prop} {r:CE->Prop}:WcX P T (.cond o a b) c n x r=(match opd (den c) o with
  | .v (.lit (.bool t))=>match t with
   | true=>WcX P T a c n x r
   | false=>WcX P T b c n x r
  | .v (.sb t)=>(t=true->WcX P T a (crefine o true c) n x r)/\(t=false->WcX P T b (crefine o false c) n x r)
  | _=>False):=rfl
end
section
variable {P:Program} {arr:Array Oper} {o:Oper} {T:TT}
theorem zVL (hT:zN P T) {op:BinOp} {t t2:Nat} {x y:Operand} (ho:o.op = .binOp op t x y t2) {c:CE} (hx:opd (den c) x = .v (.sl [])) (hy:opd (den c) y = .v .nil) {n:CE->Prop} (h:z3Q T o op t c n)
  {cx:Ctx} {g:G} {a:Act} {w:World} (hd:∀d,o.dst=some d->d<cx.n) (hR:Rel cx g (den c) a w) {K:Act->World->Prop} {Q:Exit->Act->World->Prop}
  (hK:∀c' g' a' w',n c'->Rel cx g' (den c') a' w'->K a' w'):o.wp P a w K Q:=by
 have hag:=Agree.refl (zJ x ||| zJ y) (den c);have hv:=zF hag hR Sub.inl hx;have hn:=(zF hag hR Sub.inr hy).nil_eq;obtain⟨A,m,cp,hva⟩:∃A m cp,a.eval x = .slice A m cp:=by
  generalize a.eval x=v at hv;cases hv<;>exact⟨_,_,_,rfl⟩
 have fin:∀b:Bool,(binOp op t (.slice A m cp) (.slice none 0 0)).run P w = .ok (.bool b) w->n (capp c (putU o.dst (.v (.lit (.bool b)))))->o.wp P a w K Q:=fun b hr hb=>by
  refine zU (v := .bool b) (w':=w) ?_ (hK _ g _ _ hb ?_)
  ·unfold execOp;simp only[ho,Sem.run_bind,hva,hn,zCX (op:=op) (t:=t) (x:=x) (y:=y) (a := .slice A m cp) (b := .slice none 0 0) (by simp) (by simp),Result.andThen_ok,hr,Sem.run_pure]
  ·rw[yC];exact hR.putU hd fun d=>Rep.lit _ rfl
 unfold z3Q at h;split at h
 ·rename_i E esz hf;have hk:=find_ok hT t;rw[hf] at hk;obtain⟨it,i,z,k1,_⟩:=hk;have hr:=(zAM k1 A m cp w).1;cases A with
  | none=>exact fin _ hr h.1
  | some A=>exact fin _ hr h.2
 ·rename_i E esz hf;have hk:=find_ok hT t;rw[hf] at hk;obtain⟨it,i,z,k1,_⟩:=hk;have hr:=(zAM k1 A m cp w).2;cases A with
  | none=>exact fin _ hr h.1
  | some A=>exact fin _ hr h.2
 ·exact h.elim
theorem zHO (hT:zN P T) {c:CE} {n:CE->Prop} (h:zL9 P T arr.toList o c n) {cx:Ctx} (hyk:True) {g:G} {a:Act} {w:World} (hd:∀d,o.dst=some d->d<cx.n) (hR:Rel cx g (den c) a w) {K:Act->World->Prop} {Q:Exit->Act->World->Prop}
  (hK:∀c' g' a' w',n c'->Rel cx g' (den c') a' w'->K a' w'):o.wp P a w K Q:=by
 have put:∀{c:CE} (u:List U) g' a' w',n (capp c u)->Rel cx g' (app (den c) u) a' w'->K a' w':=fun u g' a' w' h1 h2=>hK _ g' a' w' h1 (by rw[yC];exact h2);have dflt:∀{c:CE} {g},ay P T true arr.toList o (den c) (fun u=>n (capp c u))->Rel cx g (den c) a w->o.wp P a w K Q:=fun {c g} h1 hR=>zTU hT h1 cx g a w hd hR K Q (fun u g' a' w'=>put u g' a' w');have yy:jM P T arr.toList o c (fun c _=>n c)->o.wp P a w K Q:=fun h=>by
  obtain⟨u,m,h1,_,h3⟩:=zCG hT h;exact h1.text hd hR fun g' a' w' hR'=>put u g' a' w' h3 hR'
 have hpf:∀l,hpfy l c (fun c=>ay P T true arr.toList o (den c) fun u=>n (capp c u))->o.wp P a w K Q:=fun l h=>by
  obtain⟨c2,g2,h2,hR2⟩:=zA3 hyk l c h hR;exact dflt h2 hR2
 have mv:∀{x:Operand},(∀(a:Act) w,(execOp a.eval o).run P w = .ok (.value (a.eval x)) w)->mvX P T arr.toList o x c n->o.wp P a w K Q:=fun {x} ho h=>by
  unfold mvX at h;split at h
  ·rename_i s;split at h
   ·rename_i q a0 hx;rcases h with h|h
    ·have h':zLR P T arr.toList o (.tmp s) c (fun c _=>n c):=by
      unfold zLR;simp only[hx];exact h
     obtain⟨u,m,h1,_,h3⟩:=zMU (arr:=arr) hT ho h';exact h1.text hd hR fun g' a' w' hR'=>put u g' a' w' h3 hR'
    ·exact hpf _ h
   ·exact dflt h hR
  ·exact dflt h hR
 unfold zL9 at h;split at h
 ·rename_i t ho;split at h
  ·rename_i d hdd;exact zFW ho hdd (k:=fun u=>n (capp c u)) h cx g a w hd hR K Q fun u g' a' w' h1 h2=>put u g' a' w' h1 h2
  ·exact h.elim
 ·exact dflt h hR
 ·rename_i t x ho;split at h
  ·rename_i l d kt et hx hdd hf;exact zSR hT ho hf hx hdd (k:=fun u=>n (capp c u)) h cx g a w hd hR K Q fun u g' a' w' h1 h2=>put u g' a' w' h1 h2
  ·exact h.elim
 ·rename_i x ho;split at h
  ·rename_i b hx;obtain⟨i,l,seen,hi,h1,h2⟩:=h;exact zUW ho hx hi (k:=fun u=>n (capp c u)) h1 h2 cx g a w hd hR K Q fun u g' a' w' h1 h2=>put u g' a' w' h1 h2
  ·exact h.elim
 ·rename_i x ho;split at h
  ·rename_i b hx;obtain⟨i,l,seen,j,p,hi,hp,h1⟩:=h;exact zRP ho hx hi hp (k:=fun u=>n (capp c u)) h1 cx g a w hd hR K Q fun u g' a' w' h1 h2=>put u g' a' w' h1 h2
  ·exact h.elim
 ·rename_i fn first cap ho
  rcases h with h|h
  ·obtain⟨u,m,h1,_,h3⟩:=zYQ ho h;exact h1.text hd hR fun g' a' w' hR'=>put u g' a' w' h3 hR'
  ·exact hpf _ h
 ·rename_i x ho;exact mv (fun a w=>by unfold execOp;simp only[ho,Sem.run_pure]) h
 ·rename_i x ho;exact mv (fun a w=>by unfold execOp;simp only[ho,Sem.run_pure]) h
 ·rename_i y ho;unfold shB at h;split at h
  ·rename_i u;split at h
   ·rename_i k0 a0 hx;obtain⟨g',hR'⟩:=hR.freeze (s:=u) (q:=k0) (a0:=a0) hx;exact dflt (g:=g') h (by rw[yC];exact hR')
   ·exact dflt h hR
  ·exact dflt h hR
 ·rename_i op t x y t2 ho;split at h
  ·rename_i hx hy;exact zVL hT ho hx hy h hd hR hK
  ·exact yy h
 ·rename_i cl ho;split at h
  ·rename_i f hc;split at h
   ·rename_i fv hf;have call:∀{c:CE} {g},opd (den c) f = .v (.lit fv)->zB4 P true o fv cl.args.toList (den c) (fun u=>n (capp c u))->Rel cx g (den c) a w->o.wp P a w K Q:=fun {c g} hf h hR=>by
     refine dflt (c:=c) ?_ hR;unfold ay;simp only[ho,hc,hf];exact h
    rcases h with h|h|h|h|h|h|h
    ·obtain⟨u,h1,_,h3⟩:=zNR (arr:=arr) hT ho hc hf h;exact h1.text hd hR fun g' a' w' hR'=>put u g' a' w' h3 hR'
    ·obtain⟨u,h1,_,h3⟩:=zMO ho hc hf h;exact h1.text hd hR fun g' a' w' hR'=>put u g' a' w' h3 hR'
    ·obtain⟨u,h1,_,h3⟩:=zNW (arr:=arr) ho hc hf h;exact h1.text hd hR fun g' a' w' hR'=>put u g' a' w' h3 hR'
    ·obtain⟨u,h1,_,h3⟩:=zKC (arr:=arr) ho hc hf h;exact h1.text hd hR fun g' a' w' hR'=>put u g' a' w' h3 hR'
    ·exact call hf h hR
    ·unfold z6B at h;split at h
     ·rename_i args ha;obtain⟨is,hin,os,post,h1,h2,h3,h4,h5⟩:=h;obtain⟨k,first,cap,he,hen,hcalls⟩:=h4;have hag:=Agree.refl (zJ f ||| zG cl.args.toList) (den c);have hfv:=(zF hag hR Sub.inl hf).lit_eq.1;rw[he] at hfv;exact zB8 hag hR ho hc Sub.inr hd (zBT ha) h1 h2 h3 hfv hen (fun vs q1 q2 q3=>hcalls g.F w vs hR.fresh q1 q2 q3) fun r k' hout g' a' w' hp hR'=>put _ g' a' w' (h5 r k' hout hp) hR'
     ·exact h.elim
    ·obtain⟨c2,g2,h2,hR2⟩:=zA3 hyk _ c h hR;unfold zB4 at h2;have hc2:∀{args},opds (den c2) cl.args.toList=some args->True:=fun _=>trivial;cases f with
     | tmp t =>
      have key:∀(l:List Operand) (c:CE) (k:CE->Prop),yA c.vs t = .v (.lit fv)->hpfy l c k->∀{g:G},Rel cx g (den c) a w->∃c' g',k c'/\Rel cx g' (den c') a w/\yA c'.vs t = .v (.lit fv):=by
       intro l;induction l with
       | nil=>intro c k hx h g hR;exact⟨c,g,h,hR,hx⟩
       | cons x r ih =>
        intro c k hx h g hR;unfold hpfy at h;split at h
        ·rename_i s;split at h
         ·rename_i q a0 hxs;obtain⟨hn,h⟩:=h;obtain⟨b,g',hR'⟩:=hR.unbox hyk (s:=s) (q:=q) (a0:=a0) hxs (zDX hn);have hst:s≠t:=fun e=>by subst e;rw[hx] at hxs;cases hxs
          refine ih _ k ?_ (h b) (g:=g') (by rw[yC];exact hR');show yA ((s,_)::c.vs) t=_;simp only[yA,Nat.beq_ne hst,cond_false];exact hx
         ·exact ih c k hx h hR
        ·exact ih c k hx h hR
      obtain⟨c3,g3,h3,hR3,hf3⟩:=key _ c _ hf h hR;exact call (c:=c3) hf3 h3 hR3
     | const v=>exact call (c:=c2) hf h2 hR2
     | func k=>exact call (c:=c2) hf h2 hR2
     | global k=>exact call (c:=c2) hf h2 hR2
   ·rename_i k l m hf;rcases h with h|h|h
    ·obtain⟨u,h1,_,h3⟩:=z0B ho hc hf (.inl h);exact h1.text hd hR fun g' a' w' hR'=>put u g' a' w' h3 hR'
    ·obtain⟨u,h1,_,h3⟩:=z0B ho hc hf (.inr h);exact h1.text hd hR fun g' a' w' hR'=>put u g' a' w' h3 hR'
    ·unfold fnG at h;split at h
     ·rename_i args ha;obtain⟨is,hin,post,h1,h2,hcall,h5⟩:=h;have hag:=Agree.refl (zJ f ||| zG cl.args.toList) (den c);obtain⟨vs1,us1,q1,q2,q3,q4,q5⟩:=Rep.fn_eq (zF hag hR Sub.inl hf);obtain⟨n',first,cap,he,hen,hcalls⟩:=hcall;injection he with e1 e2 e3
      injection e1 with e1
      subst e1;subst e2;subst e3;have hyk0:∀vs:List Value,zS vs []=[]:=fun vs=>by cases vs<;>rfl
      refine zB8 hag hR ho hc Sub.inr hd (zFL ha) (os:=[]) h1 h2 (by cases cl.args.toList<;>rfl) q1 hen (fun vs r1 r2 _=>?_) fun r k' hout g' a' w' hp hR'=>put _ g' a' w' (h5 r k' hout hp) hR';have:=hcalls g.F w (vs1.toList++(vs++us1.toList)) hR.fresh r1 ⟨by simp[q2,q3,r2.len],fun i v a hv hav=>?_,fun i v sz _ h=>by simp at h,by rw[hyk0];exact List.nodup_nil⟩ (fun b hb=>by rw[hyk0] at hb;simp at hb)
      ·rw[hyk0] at this⊢;rw[show #[]++(vs1.toList++(vs++us1.toList)).toArray ++ #[]=vs1++vs.toArray++us1 by apply Array.ext';simp] at this;exact this
      ·rw[List.append_assoc] at hav;rcases Nat.lt_or_ge i vs1.size with h|h
       ·rw[List.getElem?_append_left (by simpa using h)] at hv;rw[List.getElem?_append_left (by omega)] at hav;exact q4 i v a (by simpa using hv) hav
       ·rw[List.getElem?_append_right (by simpa using h)] at hv;rw[List.getElem?_append_right (by omega)] at hav;rw[Array.length_toList,q2] at hv;rcases Nat.lt_or_ge (i-l.length) vs.length with h'|h'
        ·rw[List.getElem?_append_left h'] at hv;rw[List.getElem?_append_left (by rw[<-r2.len];exact h')] at hav;exact r2.rep _ v a hv hav
        ·rw[List.getElem?_append_right h'] at hv;rw[List.getElem?_append_right (by rw[<-r2.len];exact h'),<-r2.len] at hav;exact q5 _ v a (by simpa using hv) hav
     ·exact h.elim
   ·exact yy h
  ·rename_i hc;split at h
   ·rename_i t t2 x y hts hxs;split at h
    ·rename_i q z2 hf2;split at h
     ·rename_i E esz z d hf hx hy hdd;obtain⟨m,rfl,h1,h2,h3⟩:=h;exact zQN hT ho hc hts hxs hf hf2 hx hy h1 h2 hdd (k:=fun u=>n (capp c u)) h3 cx g a w hd hR K Q fun u g' a' w' h1 h2=>put u g' a' w' h1 h2
     ·exact h.elim
    ·exact dflt h hR
   ·exact dflt h hR
  ·exact yy h
  ·exact yy h
  ·exact dflt h hR
 ·exact yy h
theorem qF (hT:zN P T) {k:CE->Prop} {Q:Exit->Act->World->Prop} {cx:Ctx} (hyk:True) (hK:∀c g a w,k c->Rel cx g (den c) a w->Q .normal a w):∀(r:List Oper) (c:CE) (g:G) (a:Act) (w:World),
  (∀o∈r,∀d,o.dst=some d->d<cx.n)->zFM P T arr.toList r c k->Rel cx g (den c) a w->wpList P arr Q r a w
 | [],c,g,a,w,_,h,hR=>hK c g a w (by cases c;exact h) hR
 | o::r,c,g,a,w,hd,h,hR=>by
  have h':cgk arr.toList o c (fun c=>zL9 P T arr.toList o c fun c=>zFM P T arr.toList r c k) (fun c=>zFM P T arr.toList r (capp c (putU o.dst .undef)) k):=by cases c;exact h
  obtain⟨c1,t,q1,q2,q3,q4⟩:=jG h';have hw:=q2 cx g (den c1) a w (Agree.refl _ _) (hR.eqv q1);unfold wpList;have hdo:=hd o List.mem_cons_self;cases t with
  | true =>
   rw[if_pos hw];refine .inl (zHO (arr:=arr) hT (q3 rfl) hyk hdo (hR.eqv q1) fun c' g' a' w' hu hR'=>?_);exact qF hT hyk hK r c' g' a' w' (fun o' ho'=>hd o' (List.mem_cons_of_mem _ ho')) hu hR'
  | false =>
   rw[if_neg (by rw[hw];simp)];exact qF hT hyk hK r _ g _ w (fun o' ho'=>hd o' (List.mem_cons_of_mem _ ho')) (q4 rfl) (by rw[yC];exact (hR.eqv q1).putU hdo (fun d=>(rfl:SlotOk g w d .undef undef)))
def MkB (b:Nat) (o:Oper) (e:Env) (u:List U) (m:Nat):Prop := ∃t d,o.op = .makeMap t none/\o.dst=some d/\o.guard=none/\Sub 8 m/\u=[.val d (.v (.lit (.map (some b)))),.clr d,.heap (e.heap++[(b,HO.mp [])])]
def RunsF (P:Program) (b:Nat) (o:Oper) (e:Env) (u:List U) (m:Nat):Prop:=(zGH o=false/\RunsB P o e u m)∨MkB b o e u m
theorem RunsF.agree {b:Nat} {u:List U} {m:Nat} {e e':Env} (h:RunsF P b o e u m) (q:Agree m e' e):RunsF P b o e' u m:=by
 rcases h with h|⟨t,d,h1,h2,h3,h4,h5⟩
 ·exact .inl ⟨h.1,h.2.agree q⟩
 ·exact .inr ⟨t,d,h1,h2,h3,h4,by rw[h5,q.heap (h4 3 (by decide))]⟩
def StepF (P:Program) (arr:Array Oper) (b:Nat) (o:Oper) (e:Env) (u:List U) (m:Nat×Nat):Prop :=
 Sub (wrU u) m.2/\Sub (zY arr.toList o) m.1/\((Wants arr o e true/\RunsF P b o e u m.1)∨(Wants arr o e false/\u=putU o.dst .undef))
theorem StepF.agree {b:Nat} {u:List U} {m:Nat×Nat} {e e':Env} (h:StepF P arr b o e u m) (q:Agree m.1 e' e):StepF P arr b o e' u m :=
 ⟨h.1,h.2.1,h.2.2.imp (fun k=>⟨k.1.agree (q.sub h.2.1),k.2.agree q⟩) (fun k=>⟨k.1.agree (q.sub h.2.1),k.2⟩)⟩
def zGS (P:Program) (arr:Array Oper) (b:Nat):List Oper->Env->List (List U)->List (Nat×Nat)->Prop
 | [],_,us,bs=>us=[]/\bs=[]
 | o::r,e,us,bs => ∃u us' m bs',us=u::us'/\bs=m::bs'/\StepF P arr b o e u m/\zGS P arr b r (app e u) us' bs'
theorem zL5 {b:Nat} {L:Array Bool} {m:Nat×Nat}:∀(r:List Oper) (us:List (List U)) (bs:List (Nat×Nat)) (i k:Nat) (e e':Env),zGS P arr b r e us bs->r[k]? = some o->bs[k]? = some m->Agree m.1 e e' ->
  (∀(j:Nat) v,us[j]? = some v->j<k->L.getD (i+j) false=false->Disj (wrU v) m.1)->(∀(j:Nat) v,us[j]? = some v->k<=j->L.getD (i+j) false=true->Disj (wrU v) m.1) ->
  ∃u,us[k]? = some u/\StepF P arr b o (yV us i L e') u m
 | [],us,bs,i,k,e,e',_,h,_,_,_,_=>by simp at h
 | o'::r,us,bs,i,0,e,e',ht,h,hm,q,h1,h2=>by
  obtain⟨u,us',m',bs',rfl,rfl,hs,ht'⟩:=ht;simp only[List.getElem?_cons_zero,Option.some.injEq] at h hm;subst h;subst hm;exact⟨u,rfl,hs.agree ((zC3 (u::us') i L e' fun j v hj hl=>h2 j v hj (Nat.zero_le _) hl).trans q.symm)⟩
 | o'::r,us,bs,i,k+1,e,e',ht,h,hm,q,h1,h2=>by
  obtain⟨u,us',m',bs',rfl,rfl,hs,ht'⟩:=ht;have g1:∀(j:Nat) v,us'[j]? = some v->j<k->L.getD (i+1+j) false=false->Disj (wrU v) m.1:=fun j v hj hk hl=>h1 (j+1) v hj (by omega) (by rw[show i+(j+1)=i+1+j by omega];exact hl);have g2:∀(j:Nat) v,us'[j]? = some v->k<=j->L.getD (i+1+j) false=true->Disj (wrU v) m.1:=fun j v hj hk hl=>h2 (j+1) v hj (by omega) (by rw[show i+(j+1)=i+1+j by omega];exact hl);have step:Agree m.1 (app e u) (if L.getD i false=true then app e' u else e'):=by
   split
   ·exact zAP q
   ·rename_i hl;exact (zF5 (h1 0 u rfl (by omega) (by simpa using hl))).trans q
  obtain⟨u',p1,p2⟩:=zL5 r us' bs' (i+1) k _ _ ht' (by simpa using h) (by simpa using hm) step g1 g2;exact⟨u',by simpa using p1,p2⟩
theorem zDV {b:Nat}:∀(r:List Oper) (us:List (List U)) (bs:List (Nat×Nat)) (e:Env),zGS P arr b r e us bs->us.length=r.length/\bs.length=r.length/\∀(j:Nat) u,us[j]? = some u->∃m,bs[j]? = some m/\Sub (wrU u) m.2
 | [],us,bs,e,ht=>by
  obtain⟨rfl,rfl⟩:=ht;exact⟨rfl,rfl,fun j u h=>by simp at h⟩
 | o::r,us,bs,e,ht=>by
  obtain⟨u,us',m,bs',rfl,rfl,hs,ht'⟩:=ht;obtain⟨h1,h2,h3⟩:=zDV r us' bs' _ ht';refine⟨by simp[h1],by simp[h2],fun j v hj=>?_⟩
  match j with
  | 0=>simp at hj;subst hj;exact⟨m,rfl,hs.1⟩
  | j+1=>obtain⟨m',q1,q2⟩:=h3 j v (by simpa using hj);exact⟨m',by simpa using q1,q2⟩
theorem zE7 (L:Array Bool):∀(us vs:List (List U)) (i:Nat) (e:Env),us.length=vs.length->(∀j,L.getD (i+j) false=true->us[j]? = vs[j]?)->yV us i L e=yV vs i L e
 | [],[],_,_,_,_=>rfl
 | u::us,v::vs,i,e,hl,h=>by
  have ih:=fun e=>zE7 L us vs (i+1) e (by simpa using hl) (fun j hj=>by simpa using h (j+1) (by rw[show i+(j+1)=i+1+j by omega];exact hj));simp only[yV];split
  ·rename_i hc;have h0:=h 0 (by simpa using hc);simp at h0;subst h0;exact ih _
  ·exact ih _
 | [],_::_,_,_,hl,_=>by simp at hl
 | _::_,[],_,_,hl,_=>by simp at hl
end
section
variable {P:Program} {arr:Array Oper} {o:Oper} {T:TT}
theorem zKJ {B:Nat->List (Nat×Nat)} (hc:∀b,zIS arr.toList (B b)) {Q:Exit->Act->World->Prop} {cx:Ctx} (hd:∀o∈arr.toList,∀d,o.dst=some d->d<cx.n) {e0:Env} {us:Nat->List (List U)} (ht:∀b,zGS P arr b arr.toList e0 (us b) (B b))
  {p:Nat} (hcon:∀b b' j,j<p->(us b)[j]? = (us b')[j]?) (hbar:p<arr.size->∀b j mp mj,p<j->(B b)[p]? = some mp->(B b)[j]? = some mj->clash mp.1 mp.2 mj.1 mj.2=true)
  (hmk:∀(j:Nat) o,arr[j]? = some o->zGH o=true->o.guard=none->j=p)
  (hQ:∀b g a w,Rel cx g (zAD e0 (us b)) a w->Q .normal a w):∀(fuel:Nat) (L:Array Bool) (b:Nat) (g:G) (a:Act) (w:World),L.size=arr.size->left arr L<=fuel ->
   (∀(k:Nat) o,arr.toList[k]? = some o->L.getD k false=true->∀e∈o.after.toList,Region.binds .any e=true->L.getD e.on false=true) ->
   Rel cx g (yV (us b) 0 L e0) a w->wpAny P .any arr Q fuel L a w:=by
 have hlenA:∀b,(us b).length=arr.size:=fun b=>by rw[(zDV _ _ _ _ (ht b)).1];simp
 have full:∀L:Array Bool,L.size=arr.size->Region.ready .any arr L=[]->∀j,j<arr.size->L.getD j false=true:=by
  intro L hL hr j;induction j using Nat.strongRecOn with
  | _ j ih =>
   intro hj;cases hl:L.getD j false with
   | true=>rfl
   | false =>
    exfalso;have:j∈Region.ready .any arr L:=by
     rw[mem_ready];have hjL:j<L.size:=by rw[hL];exact hj
     have he:L.getD j true=L.getD j false:=by simp[Array.getD_eq_getD_getElem?,hjL]
     refine⟨by rw[he];exact hl,arr[j],by simp[hj],fun e he hb=>?_⟩;have hoj:arr.toList[j]? = some arr[j]:=by simp[hj]
     have:=(hc 0).back j _ hoj e (by simpa using he) hb;exact ih e.on this (by omega)
    rw[hr] at this;cases this
 have done:∀(L:Array Bool) (b:Nat) (g:G) (a:Act) (w:World),L.size=arr.size->Region.ready .any arr L=[]->Rel cx g (yV (us b) 0 L e0) a w->Q .normal a w:=fun L b g a w hL hr hR=>by
  have:=zFD (us b) 0 L e0 fun j hj=>by rw[Nat.zero_add];exact full L hL hr j (by rw[<-hlenA b];exact hj)
  rw[this] at hR;exact hQ b g a w hR
 intro fuel;induction fuel with
 | zero =>
  intro L b g a w hL hf hcl hR;have hr:Region.ready .any arr L=[]:=by
   cases hr:Region.ready .any arr L with
   | nil=>rfl
   | cons j r =>
    have hj:j∈Region.ready .any arr L:=by rw[hr];exact List.mem_cons_self
    obtain⟨h1,o,ho,_⟩:=mem_ready.1 hj;have:j∈(List.range arr.size).filter fun i => !L.getD i true:=List.mem_filter.2 ⟨List.mem_range.2 (Array.getElem?_eq_some_iff.1 ho).1,by rw[h1];rfl⟩;have:=List.length_pos_of_mem this;unfold left at hf;omega
  exact⟨hr,done L b g a w hL hr hR⟩
 | succ fuel ih =>
  intro L b1 g a w hL hf hcl hR1;refine⟨fun hr=>done L b1 g a w hL hr hR1,fun j hj=>?_⟩;obtain⟨h1,o,ho,h2⟩:=mem_ready.1 hj;have hjs:=(Array.getElem?_eq_some_iff.1 ho).1;have hjL:j<L.size:=by rw[hL];exact hjs
  have hoj:arr.toList[j]? = some o:=by rw[Array.getElem?_toList];exact ho
  have hlj:L.getD j false=false:=by
   have he:L.getD j true=L.getD j false:=by simp[Array.getD_eq_getD_getElem?,hjL]
   rw[<-he];exact h1
  have hedge:∀e∈o.after.toList,Region.binds .any e=true->L.getD e.on false=true:=fun e he hb=>h2 e (by simpa using he) hb;have each:∀b,(∀(i:Nat) v,(us b)[i]? = some v->i<j->True)->∃u m,(us b)[j]? = some u/\(B b)[j]? = some m/\StepF P arr b o (yV (us b) 0 L e0) u m/\∀g' a' w',Rel cx g' (app (yV (us b) 0 L e0) u) a' w'->wpAny P .any arr Q fuel (L.setIfInBounds j true) a' w':=fun b _=>by
   obtain⟨hlen,hblen,hwr⟩:=zDV _ _ _ _ (ht b);obtain⟨mj,hmj⟩:∃m,(B b)[j]? = some m:=⟨_,List.getElem?_eq_getElem (by rw[hblen];simpa using hjs)⟩
   have opAt:∀(i:Nat) m,(B b)[i]? = some m->∃oi,arr.toList[i]? = some oi:=fun i m hi=>by
    have:=(List.getElem?_eq_some_iff.1 hi).1;exact⟨_,List.getElem?_eq_getElem (by rw[<-hblen];exact this)⟩
   have before:∀(i:Nat) v,(us b)[i]? = some v->i<j->L.getD i false=false->Disj (wrU v) mj.1:=fun i v hi hij hl=>by
    obtain⟨mi,hmi,hs⟩:=hwr i v hi;cases hcc:clash mi.1 mi.2 mj.1 mj.2 with
    | true=>have:=(hc b).clash i j o mi mj hij hoj hmi hmj hcc L hcl hedge;rw[hl] at this;cases this
    | false=>exact (xI hcc).1.sub hs (Sub.refl _)
   have behind:∀(i:Nat) mi,(B b)[i]? = some mi->j<i->L.getD i false=true->clash mj.1 mj.2 mi.1 mi.2=false:=fun i mi hmi hij hl=>by
    cases hcc:clash mj.1 mj.2 mi.1 mi.2 with
    | false=>rfl
    | true =>
     obtain⟨oi,hoi⟩:=opAt i mi hmi;have:=(hc b).clash j i oi mj mi hij hoi hmj hmi hcc L hcl (fun e he hb=>hcl i oi hoi hl e he hb);rw[hlj] at this;cases this
   obtain⟨u,hu,hst⟩:=zL5 (b:=b) (L:=L) arr.toList (us b) (B b) 0 j e0 e0 (ht b) hoj hmj (Agree.refl _ _) (fun i v hi hij hl=>before i v hi hij (by simpa using hl)) (fun i v hi hij hl=>by
    rw[Nat.zero_add] at hl;rcases Nat.eq_or_lt_of_le hij with rfl|hlt
    ·rw[hlj] at hl;cases hl
    ·obtain⟨mi,hmi,hs⟩:=hwr i v hi;exact (xI (behind i mi hmi hlt hl)).2.2.symm.sub hs (Sub.refl _))
   have hins:yV (us b) 0 (L.setIfInBounds j true) e0=app (yV (us b) 0 L e0) u:=by
    have:=jR (us b) 0 j L e0 u (by omega) hu (by simpa using hlj) (fun i v hi hij hl=>by
     rw[Nat.zero_add] at hl;obtain⟨mi,hmi,hs⟩:=hwr i v hi;exact (xI (behind i mi hmi hij hl)).2.1.sub hst.1 hs)
    rw[Nat.zero_add] at this;exact this
   have hnext:∀g' a' w',Rel cx g' (app (yV (us b) 0 L e0) u) a' w'->wpAny P .any arr Q fuel (L.setIfInBounds j true) a' w':=fun g' a' w' hR'=>by
    refine ih _ b g' a' w' (by simp[hL]) ?_ (fun k ok hk hl e he hb=>?_) (by rw[hins];exact hR')
    ·have:left arr (L.setIfInBounds j true)<left arr L:=by
      refine filter_lt (j:=j) (fun i hi=>?_) (List.mem_range.2 hjs) (by rw[h1];rfl) (by simp[hjL]);by_cases hij:j=i
      ·subst hij;simp[hjL] at hi
      ·rw[getD_set_ne true hij] at hi;exact hi
     omega
    ·by_cases hjk:j=k
     ·subst hjk;rw[hoj] at hk;injection hk with hk;subst hk
      exact getD_set_true (hedge e he hb)
     ·rw[getD_set_ne false hjk] at hl;exact getD_set_true (hcl k ok hk hl e he hb)
   exact⟨u,mj,hu,hmj,hst,hnext⟩
  have hdo:=hd o (List.mem_of_getElem? hoj);unfold wpOp;rw[ho];simp only[];obtain⟨u,m,hu,hm,hst,hnext⟩:=each b1 (fun _ _ _ _=>trivial);rcases hst.2.2 with⟨hw,hr⟩|⟨hw,hu2⟩
  ·rw[if_pos (hw cx g _ a w (Agree.refl _ _) hR1)];refine .inl ?_;rcases hr with hr|⟨t,d,ho1,ho2,ho3,ho4,_⟩
   ·exact hr.2 cx _ g a w hdo (Agree.refl _ _) hR1 _ _ hnext
   ·
    have hjp:j=p:=hmk j o ho (by unfold zGH;rw[ho1,ho2]) ho3;subst hjp;have same:∀b,yV (us b) 0 L e0=yV (us b1) 0 L e0:=fun b=>zE7 L _ _ 0 e0 (by rw[hlenA,hlenA]) fun i hi=>by
     rw[Nat.zero_add] at hi;rcases Nat.lt_trichotomy i j with q|q|q
     ·exact hcon b b1 i q
     ·subst q;rw[hlj] at hi;cases hi
     ·exfalso;obtain⟨hlen,hblen,_⟩:=zDV _ _ _ _ (ht b1);have hi2:i<arr.size:=by
       rcases Nat.lt_or_ge i arr.size with h|h
       ·exact h
       ·simp[hL,h] at hi
      have hoi:arr.toList[i]? = some arr[i]:=by simp[hi2]
      obtain⟨mi,hmi⟩:∃m,(B b1)[i]? = some m:=⟨_,List.getElem?_eq_getElem (by rw[hblen];simpa using hi2)⟩
      have hcl2:=hbar hjs b1 i m mi q hm hmi;have:=(hc b1).clash j i arr[i] m mi q hoi hm hmi hcl2 L hcl (fun e he hb=>hcl i _ hoi hi e he hb);rw[hlj] at this;cases this
    refine zFW (k:=fun v => ∃b,v=[.val d (.v (.lit (.map (some b)))),.clr d,.heap ((yV (us b1) 0 L e0).heap++[(b,HO.mp [])])]) ho1 ho2 (fun b=>⟨b,rfl⟩) cx g a w hdo hR1 _ _ fun v g' a' w' hv hR'=>?_;obtain⟨b,rfl⟩:=hv;obtain⟨u',m',hu',hm',hst',hnext'⟩:=each b (fun _ _ _ _=>trivial);have hu2:u'=[.val d (.v (.lit (.map (some b)))),.clr d,.heap ((yV (us b1) 0 L e0).heap++[(b,HO.mp [])])]:=by
     rcases hst'.2.2 with⟨_,hr⟩|⟨hw',_⟩
     ·rcases hr with hr|⟨t',d',p1,p2,p3,p4,p5⟩
      ·have:=hr.1;unfold zGH at this;rw[ho1,ho2] at this;cases this
      ·rw[ho2] at p2;injection p2 with p2;subst p2
       rw[p5,same b]
     ·have h1:=hw' cx g _ a w (Agree.refl _ _) (by rw[same b];exact hR1);have h2:=hw cx g _ a w (Agree.refl _ _) hR1;rw[h1] at h2;cases h2
    refine hnext' g' a' w' ?_;rw[hu2,same b];exact hR'
  ·rw[if_neg (by rw[hw cx g _ a w (Agree.refl _ _) hR1];simp)];subst hu2;exact hnext g _ w (hR1.putU hdo (fun d=>(rfl:SlotOk g w d .undef undef)))
theorem zPF {c:CE} {n:CE->Nat×Nat->Prop} (h:jM P T arr.toList o c n):zGH o=false:=by
 unfold zGH;split
 ·rename_i t d ho hd;exfalso;unfold jM at h;simp only[ho] at h;unfold dfl ay at h;simp only[ho] at h
 ·rfl
theorem zGE {a b c d:Nat} (h1:Sub 128 b) (h2:Sub 128 c):clash a b c d=true:=by
 unfold clash;have h:Nat.beq (Nat.land b c) 0=false:=by
  refine Nat.beq_ne fun h=>?_;have h3:(b &&& c).testBit 7=true:=by rw[Nat.testBit_and,h1 7 (by decide),h2 7 (by decide)];rfl
  rw[show b &&& c=0 from h] at h3;simp at h3
 rw[h];rfl
theorem zM7 (hT:zN P T) {fl b:Nat} {k:CE->List (Nat×Nat)->Prop}:∀(r:List Oper) (c:CE) (e0:Env) (bs:List (Nat×Nat)),zOI P T arr.toList fl r c bs k->EnvEq e0 (den c) ->
  ∃us bs',zGS P arr b r e0 us bs'/\(∀x∈bs',Sub fl x.1)/\(∀o∈r,zGH o=true->o.guard≠none)/\∃c',k c' (bs++bs')/\EnvEq (zAD e0 us) (den c')
 | [],c,e0,bs,h,q=>⟨[],[],⟨rfl,rfl⟩,by simp,by simp,c,by rw[List.append_nil];cases c;exact h,q⟩
 | o::r,c,e0,bs,h,q=>by
  have h':cgk arr.toList o c (fun c=>jM P T arr.toList o c fun c m=>zOI P T arr.toList fl r c (bs++[(zY arr.toList o ||| (m.1 ||| fl),m.2)]) k) (fun c=>zOI P T arr.toList fl r (capp c (putU o.dst .undef)) (bs++[(zY arr.toList o ||| fl,yI o.dst)]) k):=by cases c;exact h
  have hmk:zGH o=true->o.guard≠none:=fun hm hg=>by
   unfold cgk at h';rw[hg] at h';have:=zPF h';rw[hm] at this;cases this
  obtain⟨c1,t,q1,q2,q3,q4⟩:=jG h';have q01:=q.trans q1;cases t with
  | true =>
   have hmk0:=zPF (q3 rfl);obtain⟨u,m,h1,h2,h3⟩:=zCG (arr:=arr) hT (q3 rfl);obtain⟨us,bs',k1,kf,km,c',k2,k3⟩:=zM7 hT r _ (app e0 u) _ h3 (by rw[yC];exact q01.app u);rw[List.append_assoc] at k2;refine⟨u::us,(zY arr.toList o ||| (m.1 ||| fl),m.2)::bs',⟨u,us,_,bs',rfl,rfl,⟨h2,Sub.inl,.inl ⟨q2.agree (q01.agree _),.inl ⟨hmk0,(h1.sub (Sub.trans Sub.inl Sub.inr)).agree (q01.agree _)⟩⟩⟩,k1⟩,?_,?_,c',k2,k3⟩
   ·intro x hx;rcases List.mem_cons.1 hx with rfl|hx
    ·exact Sub.trans Sub.inr Sub.inr
    ·exact kf x hx
   ·intro o' ho';rcases List.mem_cons.1 ho' with rfl|ho'
    ·exact hmk
    ·exact km o' ho'
  | false =>
   obtain⟨us,bs',k1,kf,km,c',k2,k3⟩:=zM7 hT r _ (app e0 (putU o.dst .undef)) _ (q4 rfl) (by rw[yC];exact q01.app _);rw[List.append_assoc] at k2;refine⟨_::us,(zY arr.toList o ||| fl,yI o.dst)::bs',⟨_,us,_,bs',rfl,rfl,⟨by rw[zZ];exact Sub.refl _,Sub.inl,.inr ⟨q2.agree (q01.agree _),rfl⟩⟩,k1⟩,?_,?_,c',k2,k3⟩
   ·intro x hx;rcases List.mem_cons.1 hx with rfl|hx
    ·exact Sub.inr
    ·exact kf x hx
   ·intro o' ho';rcases List.mem_cons.1 ho' with rfl|ho'
    ·exact hmk
    ·exact km o' ho'
theorem zIE (hT:zN P T) {k:CE->List (Nat×Nat)->Prop}:∀(r:List Oper) (c:CE) (e0:Env) (bs0:List (Nat×Nat)),zKD P T arr.toList r c bs0 k->EnvEq e0 (den c) ->
  ∃(us:Nat->List (List U)) (bs:Nat->List (Nat×Nat)) (p:Nat),(∀b,zGS P arr b r e0 (us b) (bs b))/\(∀b b' j,j<p->(us b)[j]? = (us b')[j]?)/\(p<r.length->∀b mp,(bs b)[p]? = some mp->Sub 128 mp.2) /\
   (∀b j mj,p<j->(bs b)[j]? = some mj->Sub 128 mj.1)/\(∀(j:Nat) o,r[j]? = some o->zGH o=true->o.guard=none->j=p)/\∀b,∃c',k c' (bs0++bs b)/\EnvEq (zAD e0 (us b)) (den c')
 | [],c,e0,bs0,h,q=>⟨fun _=>[],fun _=>[],0,fun _=>⟨rfl,rfl⟩,fun _ _ _ h=>by omega,fun h=>by simp at h,fun _ _ _ _ h=>by simp at h,fun _ _ h=>by simp at h,fun b=>⟨c,by rw[List.append_nil];cases c;exact h,q⟩⟩
 | o::r,c,e0,bs0,h,q=>by
  obtain⟨vs,ow,al,hp⟩:=c;rw[zRN] at h;cases hm:zGH o with
  | true =>
   rw[hm] at h;simp only at h;split at h
   ·rename_i d hg hd;have hop:∃t,o.op = .makeMap t none:=by
     unfold zGH at hm;split at hm
     ·rename_i t d' ho hd';exact⟨t,ho⟩
     ·cases hm
    obtain⟨t,hop⟩:=hop;have hq:∀b,EnvEq (app e0 [.val d (.v (.lit (.map (some b)))),.clr d,.heap (e0.heap++[(b,HO.mp [])])]) (den (capp ⟨vs,ow,al,hp⟩ [.val d (.v (.lit (.map (some b)))),.clr d,.heap (hp++[(b,HO.mp [])])])):=fun b=>by
     have hh:e0.heap=hp:=q.heap;rw[yC,hh];exact q.app _
    have tr:=fun b=>zM7 (b:=b) hT r _ _ _ (h b) (hq b);refine⟨fun b=>[.val d (.v (.lit (.map (some b)))),.clr d,.heap (e0.heap++[(b,HO.mp [])])]::(tr b).choose,fun b=>(8,(bV d ||| bO d) ||| (8 ||| 128))::(tr b).choose_spec.choose,0,fun b=>?_,fun _ _ _ h=>by omega,fun _ b mp h0=>?_,fun b j mj hj hmj=>?_,fun j o' ho' hm' hg'=>?_,fun b=>?_⟩
    ·have ts:=(tr b).choose_spec.choose_spec;refine⟨_,_,_,_,rfl,rfl,⟨?_,?_,.inl ⟨?_,.inr ⟨t,d,hop,hd,hg,Sub.refl _,rfl⟩⟩⟩,ts.1⟩
     ·simp only[wrU];exact .or (Sub.trans Sub.inl Sub.inl) (.or (Sub.trans Sub.inr Sub.inl) (.or (Sub.trans Sub.inl Sub.inr) (Sub.zero _)))
     ·unfold zY;rw[hg];exact Sub.zero _
     ·intro cx g e' a w _ _;unfold Region.wanted;rw[hg]
    ·simp at h0;subst h0;exact (Sub.trans Sub.inr Sub.inr:Sub 128 ((bV d ||| bO d) ||| (8 ||| 128)))
    ·have ts:=(tr b).choose_spec.choose_spec
     match j,hj with
     | j+1,_=>exact ts.2.1 mj (List.mem_of_getElem? (by simpa using hmj))
    ·match j with
     | 0=>rfl
     | j+1 =>
      have ts:=(tr 0).choose_spec.choose_spec;exact absurd hg' (ts.2.2.1 o' (List.mem_of_getElem? (by simpa using ho')) hm')
    ·obtain⟨c',k2,k3⟩:=(tr b).choose_spec.choose_spec.2.2.2;rw[List.append_assoc] at k2;exact⟨c',k2,k3⟩
   ·exact h.elim
  | false =>
   rw[hm] at h;simp only at h;obtain⟨c1,t,q1,q2,q3,q4⟩:=jG h;have q01:=q.trans q1;cases t with
   | true =>
    obtain⟨u,m,h1,h2,h3⟩:=zCG (arr:=arr) hT (q3 rfl);obtain⟨us,bs,p,t1,t2,t3,t4,t5,t6⟩:=zIE hT r _ (app e0 u) _ h3 (by rw[yC];exact q01.app u);refine⟨fun b=>u::us b,fun b=>(zY arr.toList o ||| (m.1 ||| 0),m.2)::bs b,p+1,fun b=>⟨u,us b,_,bs b,rfl,rfl,⟨h2,Sub.inl,.inl ⟨q2.agree (q01.agree _),.inl ⟨hm,(h1.sub (Sub.trans Sub.inl Sub.inr)).agree (q01.agree _)⟩⟩⟩,t1 b⟩,fun b b' j hj=>?_,fun hp b mp h0=>t3 (by simpa using hp) b mp (by simpa using h0),fun b j mj hj hmj=>?_,fun j o' ho' hm' hg'=>?_,fun b=>?_⟩
    ·match j with
     | 0=>rfl
     | j+1=>simpa using t2 b b' j (by omega)
    ·match j,hj with
     | j+1,hj=>exact t4 b j mj (by omega) (by simpa using hmj)
    ·match j with
     | 0=>simp at ho';subst ho';rw[hm] at hm';cases hm'
     | j+1=>have:=t5 j o' (by simpa using ho') hm' hg';omega
    ·obtain⟨c',k2,k3⟩:=t6 b;rw[List.append_assoc] at k2;exact⟨c',k2,k3⟩
   | false =>
    obtain⟨us,bs,p,t1,t2,t3,t4,t5,t6⟩:=zIE hT r _ (app e0 (putU o.dst .undef)) _ (q4 rfl) (by rw[yC];exact q01.app _);refine⟨fun b=>putU o.dst .undef::us b,fun b=>(zY arr.toList o ||| 0,yI o.dst)::bs b,p+1,fun b=>⟨_,us b,_,bs b,rfl,rfl,⟨by rw[zZ];exact Sub.refl _,Sub.inl,.inr ⟨q2.agree (q01.agree _),rfl⟩⟩,t1 b⟩,fun b b' j hj=>?_,fun hp b mp h0=>t3 (by simpa using hp) b mp (by simpa using h0),fun b j mj hj hmj=>?_,fun j o' ho' hm' hg'=>?_,fun b=>?_⟩
    ·match j with
     | 0=>rfl
     | j+1=>simpa using t2 b b' j (by omega)
    ·match j,hj with
     | j+1,hj=>exact t4 b j mj (by omega) (by simpa using hmj)
    ·match j with
     | 0=>simp at ho';subst ho';rw[hm] at hm';cases hm'
     | j+1=>have:=t5 j o' (by simpa using ho') hm' hg';omega
    ·obtain⟨c',k2,k3⟩:=t6 b;rw[List.append_assoc] at k2;exact⟨c',k2,k3⟩
theorem zXQ (hT:zN P T) (hm:P.follows .mixedOrders=true) {k:CE->Prop} {Q:Exit->Act->World->Prop} {cx:Ctx} (hd:∀o∈arr.toList,∀d,o.dst=some d->d<cx.n)
  (hK:∀c g a w,k c->Rel cx g (den c) a w->Q .normal a w) {id:Nat} {g:G} {a:Act} {w:World} {e:Env} {c:CE} (hce:den c=Fp.refresh e) (h:zKD P T arr.toList arr.toList c [] fun c bs=>zMD arr.toList bs=true/\k c) (hR:Rel cx g e a w):(Code.region id arr true).wp P Q a w:=by
 obtain⟨g1,hR1⟩:=(hR.grow (Grow.drew w)).refresh;obtain⟨us,bs,p,t1,t2,t3,t4,t5,t6⟩:=zIE hT arr.toList c (Fp.refresh e) [] h (by rw[hce];exact EnvEq.refl _);refine wp_region_any hm (zKJ (B:=bs) (us:=us) (p:=p) (e0:=Fp.refresh e) (fun b=>?_) hd t1 t2 (fun hp b j mp mj hj h1 h2=>zGE (t3 (by simpa using hp) b mp h1) (t4 b j mj hj h2)) (fun j o ho=>t5 j o (by simpa using ho)) (fun b g a w hR=>?_) arr.size _ 0 g1 a _ (by simp) ?_ (fun k o _ hl=>?_) ?_)
 ·obtain⟨c',⟨hc,_⟩,_⟩:=t6 b;exact zE6 hc
 ·obtain⟨c',⟨_,h2⟩,h3⟩:=t6 b;exact hK c' g a w h2 (hR.eqv h3)
 ·unfold left;exact Nat.le_trans (List.length_filter_le _ _) (by simp)
 ·rcases Nat.lt_or_ge k arr.size with hk|hk<;>simp[hk] at hl
 ·rw[zBR (us 0) 0 _ _ (fun j=>by rcases Nat.lt_or_ge j arr.size with hk|hk<;>simp[hk])];exact hR1
theorem jF (hT:zN P T) (hm:P.follows .mixedOrders=true) {cx:Ctx} (hyk:True):∀(q:Code) (c:CE) (n:CE->Prop) (x:Nat->CE->Prop) (r:CE->Prop),zK cx.n q=true->WcX P T q c n x r ->
  ∀g a w,Rel cx g (den c) a w->q.wp P (zEE cx n x r) a w:=by
 intro q;induction q with
 | skip=>intro c n x r _ h g a w hR;exact Go.wp_skip ⟨c,g,h,hR⟩
 | region id ops draw =>
  intro c n x r hk h g a w hR;simp only[zK,List.all_eq_true] at hk;have hd:∀o∈ops.toList,∀d,o.dst=some d->d<cx.n:=fun o ho d hd=>by
   have:=hk o ho;rw[hd] at this;exact Nat.le_of_ble_eq_true this
  have hK:∀c g a w,n c->Rel cx g (den c) a w->zEE cx n x r .normal a w:=fun c g a w h1 h2=>⟨c,g,h1,h2⟩
  obtain⟨vs,ow,al,hp⟩:=c;rw[zJD] at h;simp only[zEP] at h;cases draw with
  | true=>exact zXQ hT hm hd hK (yZ ⟨vs,ow,al,hp⟩) h hR
  | false =>
   obtain⟨g',hR'⟩:=hR.refresh;exact wp_region_list (qF hT hyk hK _ _ g' a w hd h (by rw[yZ ⟨vs,ow,al,hp⟩];exact hR'))
 | seq p q ihp ihq =>
  intro c n x r hk h g a w hR;simp only[zK,Bool.and_eq_true] at hk;refine wp_seq (Go.wp_mono (ihp c _ x r hk.1 h g a w hR) fun ex a w hp=>?_);cases ex with
  | normal=>obtain⟨c',g',h1,h2⟩:=hp;exact ihq c' n x r hk.2 h1 g' a w h2
  | _=>exact hp
 | cond o p q ihp ihq =>
  intro c n x r hk h g a w hR;simp only[zK,Bool.and_eq_true] at hk;have hag:=Agree.refl (zJ o) (den c);rw[zP8] at h;split at h
  ·rename_i t ho;have hv:=(zF hag hR (Sub.refl _) ho).lit_eq.1;cases t with
   | true=>exact wp_cond_true hv (ihp c n x r hk.1 h g a w hR)
   | false=>exact wp_cond_false hv (ihq c n x r hk.2 h g a w hR)
  ·rename_i t ho;have hv:=(zF hag hR (Sub.refl _) ho).sb_eq;have hR':=zFO hR ho;cases t with
   | true=>exact wp_cond_true hv (ihp _ n x r hk.1 (h.1 rfl) g a w (by rw[xZ];exact hR'))
   | false=>exact wp_cond_false hv (ihq _ n x r hk.2 (h.2 rfl) g a w (by rw[xZ];exact hR'))
  ·exact h.elim
 | block i q ih =>
  intro c n x r hk h g a w hR;refine wp_block (Go.wp_mono (ih c n _ r hk h g a w hR) fun ex a w hp=>?_);cases ex with
  | normal=>exact hp
  | exit j =>
   obtain⟨c',g',h1,h2⟩:=hp;simp only[Exit.inBlock];by_cases hj:j=i
   ·rw[if_pos hj];subst hj;rw[Nat.beq_refl] at h1;exact⟨c',g',h1,h2⟩
   ·rw[if_neg hj];rw[Nat.beq_ne hj] at h1;exact⟨c',g',h1,h2⟩
  | _=>exact hp
 | loop q ih =>
  intro c n x r hk h g a w hR;obtain⟨α,I,μ,y,h1,h2⟩:=h;obtain⟨g0,hR0⟩:=hR.le h1;generalize hSS:(fun (a:Act) (w:World) (m:Nat) => ∃y g,μ y=m/\Rel cx g (mkE (I y)) a w)=S;have hS1:∀{a:Act} {w:World} {m:Nat},(∃y g,μ y=m/\Rel cx g (mkE (I y)) a w)->S a w m:=fun h=>by rw[<-hSS];exact h
  have hS2:∀{a:Act} {w:World} {m:Nat},S a w m->(∃y g,μ y=m/\Rel cx g (mkE (I y)) a w):=fun h=>by rw[<-hSS] at h;exact h
  refine wp_loop (fun a w => ∃m,S a w m) (fun a w=>least (S a w)) ⟨μ y,hS1 ⟨y,g0,rfl,hR0⟩⟩ fun a w hS=>?_;obtain⟨y1,g1,h3,h4⟩:=hS2 (yX hS).1;refine Go.wp_mono (ih (mkC (I y1)) _ x r hk (h2 y1) g1 a w (by rw[zBB];exact h4)) fun ex a' w' hp=>?_;cases ex with
  | normal =>
   obtain⟨c',g',⟨z,h5,h6⟩,h7⟩:=hp;obtain⟨g2,h8⟩:=h7.le h6;have hz:S a' w' (μ z):=hS1 ⟨z,g2,rfl,h8⟩;refine⟨⟨_,hz⟩,?_⟩;have:=(yX ⟨_,hz⟩).2 _ hz;omega
  | _=>exact hp
 | scope q ih =>
  intro c n x r hk h g a w hR;refine wp_scope_straight (Go.wp_mono (ih c n x r hk h g a w hR) fun ex a w hp=>?_);cases ex<;>exact hp
 | label l=>intro c n x r _ h g a w hR;exact wp_label ⟨c,g,h,hR⟩
 | exit i=>intro c n x r _ h g a w hR;exact wp_exit ⟨c,g,h,hR⟩
 | ret=>intro c n x r _ h g a w hR;exact wp_ret ⟨c,g,h,hR⟩
 | rangeFunc=>intro c n x r _ h;exact h.elim
 | goto=>intro c n x r _ h;exact h.elim
 | refuse=>intro c n x r _ h;exact h.elim
end
section
variable {P:Program} {T:TT}
theorem zDA (hT:zN P T) (hm:P.follows .mixedOrders=true) {f:Nat} {fn:Func} {c:Code} (hf:P.funcs[f]? = some fn) (hb:fn.body=some c) {vs:List Value} {args:List AV} {os:List Nat} {hin:List (Nat×HO)}
  (hlen:args.length<=fn.ntmps) (hk:zK fn.ntmps c=true) {post:AV->Nat->List (Nat×HO)->Prop} {F:Nat->Option Nat} {w:World}
  (hw:WcX P T c (xN args os hin) (fun c=>xA T fn.results.toList post (den c)) (fun _ _=>False) (fun c=>xA T fn.results.toList post (den c)))
  (hyk:zS vs os=[]) (hfr:Fresh F w) (hh:HeapIn F w hin) (ha:qQ F w vs args os) (hy:∀b∈zS vs os,b∉keys hin):Calls P f vs.toArray w (yJ F (keys hin) (zS vs os) w post):=by
 obtain⟨g,hR⟩:=wV hfr hh ha hy (n:=fn.ntmps) (by rw[ha.len];exact hlen);refine calls_of_wp hf hb (Go.wp_mono (jF hT hm trivial c _ _ _ _ hk hw g _ _ (hR.weaken (xH args os hin) (wF args os hin) (fun _=>rfl) rfl)) fun ex a w' hp=>?_);have fin:∀{e:Env} {g:G},xA T fn.results.toList post e->Rel {n:=fn.ntmps,W:=w,F:=F,hk:=keys hin,yk:=zS vs os} g e a w'->a.defers=[]/\∃v,(results fn a.tmps).run P w' = .ok v w'/\yJ F (keys hin) (zS vs os) w post (.returned v) w':=fun {e g} hr hR=>by
  unfold xA at hr;split at hr
  ·rename_i r hres;obtain⟨v,p1,p2,p3⟩:=wM hT hR hres;refine⟨hR.defers,v,p1,v,r,_,e.heap,g.F,rfl,hr,p2,fun sz ho=>?_,hR.kept,hR.fext,hR.fresh,hR.heap,fun b hb=>?_⟩
   ·obtain⟨q1,q2⟩:=p3 sz ho;refine⟨q1,fun b hb=>?_⟩;obtain⟨s,hs⟩:=q2 b hb;by_cases h1:b∈zS vs os
    ·exact .inl h1
    ·refine .inr ⟨?_,fun hk=>by have:=hR.heapO b hk;rw[hs] at this;cases this⟩;rcases Nat.lt_or_ge b w.heap.size with h2|h2
     ·rcases hR.old b h2 h1 with h3|⟨_,h3⟩<;>(rw[hs] at h3;cases h3)
     ·exact h2
   ·rcases Nat.lt_or_ge b w.heap.size with h2|h2
    ·exact .inl (hR.hkin b h2 (hR.heapO b hb))
    ·exact .inr h2
  ·exact hr.elim
 cases ex with
 | normal=>obtain⟨e,g',h1,h2⟩:=hp;exact fin h1 h2
 | ret=>obtain⟨e,g',h1,h2⟩:=hp;exact fin h1 h2
 | exit i=>obtain⟨e,g',h1,h2⟩:=hp;exact h1.elim
 | goto l=>exact hp.elim
 | panic ch=>exact hp.elim
 | outgrown=>exact hp.elim
theorem yS (hT : zN P T) (hm : P.follows .mixedOrders = true) {f : Nat} {fn : Func} {c : Code} (hf : P.funcs[f]? = some fn) (hb : fn.body = some c) (hname : (fn.name == "runtime.NumGoroutine") = false) {first cap : List Value} {args : List AV} {hin : List (Nat × HO)}
  (hone:(first++cap).all (·.oneCell')=true) (hlen:first.length+(args.length+cap.length)<=fn.ntmps) (hk:zK fn.ntmps c=true) {post:AV->Nat->List (Nat×HO)->Prop}
  (hw:WcX P T c (xN (first.map AV.lit++(args++cap.map AV.lit)) (List.replicate first.length 0++[]) hin) (fun c=>xA T fn.results.toList post (den c)) (fun _ _=>False) (fun c=>xA T fn.results.toList post (den c))) :
  CallsG P (.func (.func f) first.toArray cap.toArray) hin args [] post:=by
 refine⟨f,_,_,rfl,⟨fn,hf,by rw[hb];rfl,hname⟩,fun F w vs hfr hh ha hy=>?_⟩;have e1:first.toArray++vs.toArray++cap.toArray=(first++(vs++cap)).toArray:=by simp
 have e2:zS (first++(vs++cap)) (List.replicate first.length 0++[])=zS vs []:=by rw[zB3,zC7 _ _ _ (Nat.zero_le _)]
 have ho1:∀v∈first++cap,v.oneCell'=true:=List.all_eq_true.1 hone
 rw[e1,<-e2];refine zDA hT hm hf hb (by simp;omega) hk hw (by rw[e2];cases vs<;>rfl) hfr hh ⟨by simp[ha.len],fun i v a hv hax=>?_,fun i v sz hv ho=>?_,by rw[e2];exact ha.apart⟩ (by rw[e2];exact hy)
 ·rcases Nat.lt_or_ge i first.length with h|h
  ·rw[List.getElem?_append_left h] at hv;rw[List.getElem?_append_left (by simpa using h),List.getElem?_map,hv] at hax;simp at hax;subst hax;exact .lit v (ho1 v (List.mem_append.2 (.inl (List.mem_of_getElem? hv))))
  ·rw[List.getElem?_append_right h] at hv;rw[List.getElem?_append_right (by simpa using h)] at hax;simp only[List.length_map] at hax;rcases Nat.lt_or_ge (i-first.length) vs.length with h2|h2
   ·rw[List.getElem?_append_left h2] at hv;rw[List.getElem?_append_left (by rw[<-ha.len];exact h2)] at hax;exact ha.rep _ v a hv hax
   ·rw[List.getElem?_append_right h2] at hv;rw[List.getElem?_append_right (by rw[<-ha.len];exact h2),<-ha.len,List.getElem?_map,hv] at hax;simp at hax;subst hax;exact .lit v (ho1 v (List.mem_append.2 (.inr (List.mem_of_getElem? hv))))
 ·rcases Nat.lt_or_ge i first.length with h|h
  ·rw[List.getElem?_append_left (by simpa using h),List.getElem?_replicate] at ho;rw[if_pos h] at ho;cases ho
  ·rw[List.getElem?_append_right (by simpa using h)] at ho;simp only[List.length_replicate] at ho;rw[List.getElem?_append_right h] at hv;have:i-first.length<vs.length:=by
    have:=(List.getElem?_eq_some_iff.1 ho).1;simp at this
   rw[List.getElem?_append_left this] at hv;exact ha.tip _ v sz hv ho
theorem zA (hT : zN P T) (hm : P.follows .mixedOrders = true) {f : Nat} {fn : Func} {c : Code} (hf : P.funcs[f]? = some fn) (hb : fn.body = some c) (hname : (fn.name == "runtime.NumGoroutine") = false) {args : List AV}
  (hlen:args.length<=fn.ntmps) (hk:zK fn.ntmps c=true) {r:AV}
  (hw:WcX P T c (xN args [] []) (fun c=>zH1 T fn.results.toList r (den c)) (fun _ _=>False) (fun c=>zH1 T fn.results.toList r (den c))):zB P f args r:=by
 refine⟨f,_,_,rfl,⟨fn,hf,by rw[hb];rfl,hname⟩,fun F w vs hfr hh ha hy=>?_⟩;have e1 : #[]++vs.toArray ++ #[]=vs.toArray:=by simp
 rw[e1];refine (zDA hT hm hf hb hlen hk (post:=fun r' _ _=>r'=r) ?_ (by cases vs<;>rfl) hfr hh ha hy).mono fun en w' hp=>?_
 ·exact hw
 ·obtain⟨v,r',n,hout,F',rfl,p1,p2,p3,p4,p5,p6,p7,p8⟩:=hp;exact⟨v,r',0,[],F',rfl,⟨p1,rfl,rfl⟩,p2,fun sz h=>(by cases h),p4,p5,p6,⟨List.nodup_nil,fun b hb=>by simp[keys] at hb,fun x hx=>by simp at hx⟩,fun b hb=>by simp[keys] at hb⟩
def z0K (rs:List ResultVar) (post:AV->List (Nat×HO)->Prop) (e:Env):Prop:=match rs with
 | [.tmp t]=>match e.vals t with
  | .v a=>post a e.heap
  | _=>False
 | _=>False
theorem zLD (hT : zN P T) (hm : P.follows .mixedOrders = true) {f : Nat} {fn : Func} {c : Code} (hf : P.funcs[f]? = some fn) (hb : fn.body = some c) (hname : (fn.name == "runtime.NumGoroutine") = false) {args : List AV}
  (hlen:args.length<=fn.ntmps) (hk:zK fn.ntmps c=true) {r:AV}
  (hw:WcX P T c (xN args [] []) (fun c=>z0K fn.results.toList (fun r' h=>r'=r/\h=[]) (den c)) (fun _ _=>False) (fun c=>z0K fn.results.toList (fun r' h=>r'=r/\h=[]) (den c))):zB P f args r:=by
 refine⟨f,_,_,rfl,⟨fn,hf,by rw[hb];rfl,hname⟩,fun F w vs hfr hh ha hy=>?_⟩;have e1 : #[]++vs.toArray ++ #[]=vs.toArray:=by simp
 have hy0:zS vs []=[]:=by cases vs<;>rfl
 rw[e1];obtain⟨g,hR⟩:=wV hfr hh ha hy (n:=fn.ntmps) (by rw[ha.len];exact hlen);refine calls_of_wp hf hb (Go.wp_mono (jF hT hm trivial c _ _ _ _ hk hw g _ _ (hR.weaken (xH args [] []) (wF args [] []) (fun _=>rfl) rfl)) fun ex a w' hp=>?_);have fin:∀{e:Env} {g:G},z0K fn.results.toList (fun r' h=>r'=r/\h=[]) e->Rel {n:=fn.ntmps,W:=w,F:=F,hk:=keys [],yk:=zS vs []} g e a w'->a.defers=[]/\∃v,(results fn a.tmps).run P w' = .ok v w'/\yJ F (keys []) (zS vs []) w (fun r' o h=>r'=r/\o=0/\h=[]) (.returned v) w':=fun {e g} hr hR=>by
  unfold z0K at hr;split at hr
  ·rename_i t hrs;split at hr
   ·rename_i a0 hx;obtain⟨rfl,h2⟩:=hr;have hsl:=hR.slots t;rw[hx] at hsl;have hres:(results fn a.tmps).run P w' = .ok (a.tmps.getD t undef) w':=by
     rw[zER,hrs];simp only[List.mapM_cons,List.mapM_nil,zAQ,Sem.run_bind,Result.andThen_ok,Sem.run_pure]
     rfl
    exact⟨hR.defers,_,hres,_,a0,0,[],g.F,rfl,⟨rfl,rfl,rfl⟩,hsl,fun sz h=>by (cases h),hR.kept,hR.fext,hR.fresh,by rw[<-h2];exact hR.heap,fun b hb=>by simp[keys] at hb⟩
   ·exact hr.elim
  ·exact hr.elim
 cases ex with
 | normal=>obtain⟨e,g',h1,h2⟩:=hp;exact fin h1 h2
 | ret=>obtain⟨e,g',h1,h2⟩:=hp;exact fin h1 h2
 | exit i=>obtain⟨e,g',h1,h2⟩:=hp;exact h1.elim
 | goto l=>exact hp.elim
 | panic ch=>exact hp.elim
 | outgrown=>exact hp.elim
inductive Frz (h:List (Nat×HO)):AV->AV->Prop
 | refl (a:AV):Frz h a a
 | nil:Frz h .nil (.sl [])
 | bool (b:Bool):Frz h (.lit (.bool b)) (.sb b)
 | nilL:Frz h (.lit (.slice none 0 0)) (.sl [])
 | nilA (b off cap:Nat):Frz h (.lit (.slice (some ⟨b,off,none⟩) 0 cap)) (.sl [])
 | nilZ (a:Addr):Frz h (.lit (.slice (some a) 0 0)) (.sl [])
 | ptr (b off:Nat) (l l':List AV) (hm:(b,HO.cells l)∈h) (hl:off+l'.length<=l.length) (hc:∀c∈l',c.isCell=true) (he:∀(j:Nat) c c',l[off+j]? = some c->l'[j]? = some c'->Frz h c c'):Frz h (.lit (.pointer (some ⟨b,off,none⟩))) (.ptr l')
 | ptrs (l l':List AV) (hl:l'.length<=l.length) (hc:∀c∈l',c.isCell=true) (he:∀(j:Nat) c c',l[j]? = some c->l'[j]? = some c'->Frz h c c'):Frz h (.ptr l) (.ptr l')
 | mp (b:Nat) (l l':List (AV×AV)) (hm:(b,HO.mp l)∈h) (hl:l.length=l'.length) (hk:∀(j:Nat) c c',l[j]? = some c->l'[j]? = some c'->Frz h c.1 c'.1) (hv:∀(j:Nat) c c',l[j]? = some c->l'[j]? = some c'->Frz h c.2 c'.2):Frz h (.lit (.map (some b))) (.mpv l')
 | sl (b off n cap sz:Nat) (l L:List AV) (hm:(b,HO.cells l)∈h) (hL:L.length=n) (hcap:n<=cap) (hsz:∀x∈L,x.cells.length=sz) (hcl:∀x∈L,∀c∈x.cells,c.isCell=true) (hin:off+n*sz<=l.length)
   (he:∀(i:Nat) x (j:Nat) c c',L[i]? = some x->x.cells[j]? = some c'->l[off+(i*sz+j)]? = some c->Frz h c c'):Frz h (.lit (.slice (some ⟨b,off,none⟩) n cap)) (.sl L)
 | agg (l l':List AV) (hl:l.length=l'.length) (hc:∀c∈l',c.isCell=true) (he:∀(j:Nat) c c',l[j]? = some c->l'[j]? = some c'->Frz h c c'):Frz h (.agg l) (.agg l')
 | tup (l l':List AV) (hl:l.length=l'.length) (he:∀(j:Nat) c c',l[j]? = some c->l'[j]? = some c'->Frz h c c'):Frz h (.tup l) (.tup l')
 | sls (l L:List AV) (hl:l.length=L.length) (hsz:∀(i:Nat) x y,l[i]? = some x->L[i]? = some y->x.cells.length=y.cells.length) (hcl:∀x∈L,∀c∈x.cells,c.isCell=true)
   (he:∀(i:Nat) x y (j:Nat) c c',l[i]? = some x->L[i]? = some y->x.cells[j]? = some c->y.cells[j]? = some c'->Frz h c c'):Frz h (.sl l) (.sl L)
theorem Frz.rep {F:Nat->Option Nat} {w:World} {h:List (Nat×HO)} (hh:HeapIn F w h) {a a':AV} (hf:Frz h a a'):∀{v:Value},Rep F w v a->Rep (fun j=>if j∈keys h then none else F j) w v a':=by
 have cm:∀j k,com F j k->com (fun j=>if j∈keys h then none else F j) j k:=fun j k hm m hm'=>by
  by_cases hj:j∈keys h
  ·simp[hj] at hm'
  ·simp only[hj,if_false] at hm';exact hm m hm'
 have kp:Keeps F w (fun j=>if j∈keys h then none else F j) w:=⟨fun j k u hc hm=>⟨hc,cm j k hm⟩,fun j es c hc hm=>⟨hc,cm j 0 hm⟩⟩
 have cin:∀b k,b∈keys h->com (fun j=>if j∈keys h then none else F j) b k:=fun b k hb m hm=>by simp[hb] at hm
 have key:∀{b:Nat} {o:HO},(b,o)∈h->b∈keys h:=fun hm=>List.mem_map.2 ⟨_,hm,rfl⟩;induction hf with
 | refl a=>intro v hr;exact hr.mono kp
 | nil=>intro v hr;exact (hr.mono kp).nil_sl
 | bool b=>intro v hr;rw[hr.lit_eq.1];exact .sb b
 | nilL=>intro v hr;rw[hr.lit_eq.1];exact .slNil
 | nilZ a=>intro v hr;rw[hr.lit_eq.1];exact .slZ a
 | nilA b off cap=>intro v hr;rw[hr.lit_eq.1];exact .sl b off 0 cap 0 [] (fun _=>undef) rfl (Nat.zero_le _) (by simp) (by simp) (fun k hk=>by omega) (fun i x j c hx=>by simp at hx)
 | ptr b off l l' hm hl hc he ih =>
  intro v hr;rw[hr.lit_eq.1];obtain⟨cs,E,k1,k2⟩:=hh.ok _ hm;refine Rep.ptr_mk fun j c' hj=>?_;have hlt:off+j<l.length:=by have:=(List.getElem?_eq_some_iff.1 hj).1;omega
  obtain⟨u,q1,q2,q3⟩:=k2.cell (List.getElem?_eq_getElem hlt);exact⟨u,by rw[World.cell_of_cells k1,<-Array.getElem?_toList];exact q1,cin b _ (key hm),ih j _ c' (List.getElem?_eq_getElem hlt) hj q2,hc c' (List.mem_of_getElem? hj)⟩
 | ptrs l l' hl hc he ih =>
  intro v hr;obtain⟨b,off,rfl,h2⟩:=Rep.ptr_eq hr;refine Rep.ptr_mk fun j c' hj=>?_;have hlt:j<l.length:=by have:=(List.getElem?_eq_some_iff.1 hj).1;omega
  obtain⟨u,q1,q2,q3,q4⟩:=h2 j _ (List.getElem?_eq_getElem hlt);exact⟨u,q1,cm _ _ q2,ih j _ c' (List.getElem?_eq_getElem hlt) hj q3,hc c' (List.mem_of_getElem? hj)⟩
 | mp b l l' hm hl hk hv ihk ihv =>
  intro v hr;rw[hr.lit_eq.1];obtain⟨es,clock,k1,k0,k3⟩:=hh.ok _ hm;have hsz:es.size=l.length:=by rw[<-k3.1];simp
  refine .mpv b es clock l' k1 (cin b 0 (key hm)) k0 (by rw[hsz,hl]) (fun j e p he hp=>?_) (fun j e p he hp=>?_)
  ·have hlt:j<l.length:=by rw[hl];exact (List.getElem?_eq_some_iff.1 hp).1
   exact ihk j _ p (List.getElem?_eq_getElem hlt) hp (k3.2 j e _ (by simpa using he) (List.getElem?_eq_getElem hlt)).1
  ·have hlt:j<l.length:=by rw[hl];exact (List.getElem?_eq_some_iff.1 hp).1
   exact ihv j _ p (List.getElem?_eq_getElem hlt) hp (k3.2 j e _ (by simpa using he) (List.getElem?_eq_getElem hlt)).2
 | sl b off n cap sz l L hm hL hcap hsz hcl hin he ih =>
  intro v hr;rw[hr.lit_eq.1];obtain⟨cs,E,k1,k2⟩:=hh.ok _ hm;refine .sl b off n cap sz L (fun k=>(cs[off+k]?).getD undef) hL hcap hsz hcl (fun k hk=>?_) (fun i x j c' hx hj=>?_)
  ·have hlt:off+k<cs.size:=by have:=k2.1;simp at this;omega
   refine⟨?_,cin b _ (key hm)⟩;rw[World.cell_of_cells k1];simp[hlt]
  ·have hi:i<n:=by rw[<-hL];exact (List.getElem?_eq_some_iff.1 hx).1
   have hj':j<sz:=by rw[<-hsz x (List.mem_of_getElem? hx)];exact (List.getElem?_eq_some_iff.1 hj).1
   have hlt:i*sz+j<n*sz:=by
    have:(i+1)*sz<=n*sz:=Nat.mul_le_mul_right _ (by omega);rw[Nat.add_mul,Nat.one_mul] at this;omega
   have hlt2:off+(i*sz+j)<l.length:=by omega
   obtain⟨u,q1,q2,q3⟩:=k2.cell (List.getElem?_eq_getElem hlt2);rw[Array.getElem?_toList] at q1;rw[q1];exact ih i x j _ c' hx hj (List.getElem?_eq_getElem hlt2) q2
 | agg l l' hl hc he ih =>
  intro v hr;obtain⟨cs,rfl,h1,h2,h3⟩:=hr.agg_eq;refine .agg cs l' (by rw[h1,hl]) hc (fun j u c' hu hc'=>?_);have hlt:j<l.length:=by rw[hl];exact (List.getElem?_eq_some_iff.1 hc').1
  exact ih j _ c' (List.getElem?_eq_getElem hlt) hc' (h3 j u _ hu (List.getElem?_eq_getElem hlt))
 | tup l l' hl he ih =>
  intro v hr;obtain⟨cs,rfl,h1,h3⟩:=hr.tup_eq;refine .tup cs l' (by rw[h1,hl]) (fun j u c' hu hc'=>?_);have hlt:j<l.length:=by rw[hl];exact (List.getElem?_eq_some_iff.1 hc').1
  exact ih j _ c' (List.getElem?_eq_getElem hlt) hc' (h3 j u _ hu (List.getElem?_eq_getElem hlt))
 | sls l L hl hsz hcl he ih =>
  intro v hr;have hgl:∀{i:Nat} {y:AV},L[i]? = some y->∃x,l[i]? = some x:=fun {i y} hy=>⟨_,List.getElem?_eq_getElem (by rw[hl];exact (List.getElem?_eq_some_iff.1 hy).1)⟩
  cases hr with
  | slNil =>
   have:L=[]:=List.length_eq_zero_iff.1 (by simpa using hl.symm);subst this;exact .slNil
  | slZ a =>
   have:L=[]:=List.length_eq_zero_iff.1 (by simpa using hl.symm);subst this;exact .slZ a
  | sl b off n cap sz l us hn hc' hs hcl' hcell hrep =>
   refine .sl b off n cap sz L us (by rw[<-hl,hn]) hc' (fun y hy=>?_) hcl (fun k hk=>⟨(hcell k hk).1,cm _ _ (hcell k hk).2⟩) (fun i y j c' hy hj=>?_)
   ·obtain⟨i,hi⟩:=List.getElem?_of_mem hy;obtain⟨x,hx⟩:=hgl hi;rw[<-hsz i x y hx hi];exact hs x (List.mem_of_getElem? hx)
   ·obtain⟨x,hx⟩:=hgl hy;have hlt:j<x.cells.length:=by rw[hsz i x y hx hy];exact (List.getElem?_eq_some_iff.1 hj).1
    exact ih i x y j _ c' hx hy (List.getElem?_eq_getElem hlt) hj (hrep i x j _ hx (List.getElem?_eq_getElem hlt))
theorem CallsG.freeze {fv:Value} {hin:List (Nat×HO)} {args:List AV} {os:List Nat} {post post':AV->Nat->List (Nat×HO)->Prop} (hc:CallsG P fv hin args os post)
  (hp:∀r o h,post r o h->∃h1 h2 r',h=h1++h2/\(∀b∈keys h2,b∉keys hin)/\Frz h2 r r'/\o=0/\post' r' 0 h1):CallsG P fv hin args os post':=by
 obtain⟨f,first,cap,he,hen,hcalls⟩:=hc;refine⟨f,first,cap,he,hen,fun F w vs h1 h2 h3 h4=>(hcalls F w vs h1 h2 h3 h4).mono fun e w' hpo=>?_⟩;obtain⟨v,r,o,hout,F',rfl,hpost,p2,p3,p4,p5,p6,p7,p8⟩:=hpo;obtain⟨ha,hb,r',rfl,hnew,hfz,rfl,hpost'⟩:=hp r o hout hpost;have hk:keys (ha++hb)=keys ha++keys hb:=by simp[keys]
 have hbI:HeapIn F' w' hb:=by
  refine⟨?_,fun b hbm=>p7.shut b (by rw[hk];exact List.mem_append_right _ hbm),fun x hx=>p7.ok x (List.mem_append_right _ hx)⟩;have:=p7.nodup;rw[hk] at this;exact (List.nodup_append.1 this).2.1
 have hdis:∀b∈keys ha,b∉keys hb:=fun b hb1 hb2=>by
  have:=p7.nodup;rw[hk] at this;exact (List.nodup_append.1 this).2.2 b hb1 b hb2 rfl
 have hge:∀b∈keys hb,w.heap.size<=b:=fun b hbm=>(p8 b (by rw[hk];exact List.mem_append_right _ hbm)).resolve_left (hnew b hbm);have cm:∀j k,com F' j k->com (fun j=>if j∈keys hb then none else F' j) j k:=fun j k hm m hm'=>by
  by_cases hj:j∈keys hb
  ·simp[hj] at hm'
  ·simp only[hj,if_false] at hm';exact hm m hm'
 have kp:Keeps F' w' (fun j=>if j∈keys hb then none else F' j) w':=⟨fun j k u hc hm=>⟨hc,cm j k hm⟩,fun j es c hc hm=>⟨hc,cm j 0 hm⟩⟩
 refine⟨v,r',0,ha,_,rfl,hpost',hfz.rep hbI p2,fun sz h=>by omega,p4,fun b hbl=>?_,fun b hbl=>?_,⟨?_,fun b hbm=>?_,fun x hx=>?_⟩,fun b hbm=>p8 b (by rw[hk];exact List.mem_append_left _ hbm)⟩
 ·have:b∉keys hb:=fun h=>by have:=hge b h;omega
  simp only[this,if_false];exact p5 b hbl
 ·show (if b∈keys hb then none else F' b)=none;split
  ·rfl
  ·exact p6 b hbl
 ·have:=p7.nodup;rw[hk] at this;exact (List.nodup_append.1 this).1
 ·simp only[hdis b hbm,if_false];exact p7.shut b (by rw[hk];exact List.mem_append_left _ hbm)
 ·exact (p7.ok x (List.mem_append_left _ hx)).grow kp (fun _=>rfl)
theorem CallsG.pure {fv:Value} {args:List AV} {post:AV->Nat->List (Nat×HO)->Prop} {r':AV} (hc:CallsG P fv [] args [] post) (hp:∀r o h,post r o h->Frz h r r'/\o=0):zE4 P fv args r' :=
 hc.freeze fun r o h hpo=>let ⟨h1,h2⟩:=hp r o h hpo;⟨[],h,r',rfl,fun b _=>by simp[keys],h1,h2,rfl,rfl,rfl⟩
theorem qU (hT : zN P T) (hm : P.follows .mixedOrders = true) {f : Nat} {fn : Func} {c : Code} (hf : P.funcs[f]? = some fn) (hb : fn.body = some c) (hname : (fn.name == "runtime.NumGoroutine") = false) {args : List AV} {os : List Nat} {hin : List (Nat × HO)}
  (hnil:∀(i:Nat) sz,os[i]? = some (sz+1)->args[i]? = some .nil) (hlen:args.length<=fn.ntmps) (hk:zK fn.ntmps c=true) {post:AV->Nat->List (Nat×HO)->Prop}
  (hw:WcX P T c (xN args os hin) (fun c=>xA T fn.results.toList post (den c)) (fun _ _=>False) (fun c=>xA T fn.results.toList post (den c))) :
  CallsG P (fnv f) hin args [] post:=by
 refine⟨f,_,_,rfl,⟨fn,hf,by rw[hb];rfl,hname⟩,fun F w vs hfr hh ha hy=>?_⟩;have hyk:∀(vs:List Value) (os:List Nat) (args:List AV),(∀(i:Nat) sz,os[i]? = some (sz+1)->args[i]? = some .nil)->vs.length=args.length->(∀(i:Nat) v a,vs[i]? = some v->args[i]? = some a->Rep F w v a)->zS vs os=[]:=by
  intro vs;induction vs with
  | nil=>intro os args _ _ _;cases os<;>rfl
  | cons v vs ih =>
   intro os args h1 h2 h3;cases os with
   | nil=>rfl
   | cons o os =>
    cases args with
    | nil=>simp at h2
    | cons a args =>
     have:=ih os args (fun i sz h=>by simpa using h1 (i+1) sz (by simpa using h)) (by simpa using h2) (fun i v a hv ha=>h3 (i+1) v a (by simpa using hv) (by simpa using ha));cases o with
     | zero=>exact this
     | succ o =>
      have ha:=h1 0 o rfl;simp at ha;subst ha;have hv:=(h3 0 v .nil rfl rfl).nil_eq;subst hv;simp only[zS,zV,this];rfl
 have hy0:zS vs os=[]:=hyk vs os args hnil ha.len ha.rep;have hy1:zS vs []=[]:=by cases vs<;>rfl
 rw[show #[]++vs.toArray ++ #[]=vs.toArray by simp];have:=zDA hT hm hf hb hlen hk (post:=post) hw hy0 hfr hh ⟨ha.len,ha.rep,fun i v sz hv ho=>?_,by rw[hy0];exact List.nodup_nil⟩ (by rw[hy0];simp)
 ·rw[hy0] at this;rw[hy1];exact this
 ·have h1:=ha.rep i v .nil hv (hnil i sz ho);rw[h1.nil_eq];exact .inl rfl
theorem CallsG.opened {fv:Value} {args:List AV} {post:AV->Nat->List (Nat×HO)->Prop} {esz:Nat} (hc:CallsG P fv [] args [] post)
  (hp:∀r o h,post r o h->(r = .sl []/\o=esz+1/\h=[])∨(o=0/\∃b cap zs,r = .lit (.slice (some ⟨b,0,none⟩) 0 cap)/\h=[(b,HO.cells zs)]/\cap*esz<=zs.length)) :
  CallsG P fv [] args [] fun r o h=>r = .sl []/\o=esz+1/\h=[]:=by
 obtain⟨f,first,cap,he,hen,hcalls⟩:=hc;refine⟨f,first,cap,he,hen,fun F w vs h1 h2 h3 h4=>(hcalls F w vs h1 h2 h3 h4).mono fun e w' hpo=>?_⟩;obtain⟨v,r,o,hout,F',rfl,hpost,p2,p3,p4,p5,p6,p7,p8⟩:=hpo;rcases hp r o hout hpost with hcase|⟨rfl,b,cap,zs,rfl,rfl,hz⟩
 ·exact⟨v,r,o,hout,F',rfl,hcase,p2,p3,p4,p5,p6,p7,p8⟩
 ·have hv:=p2.lit_eq.1;subst hv;have hF0:=p7.shut b (by simp[keys]);obtain⟨cs,E,k1,k2⟩:=p7.ok _ (List.mem_singleton.2 rfl);simp only at k1;have hb:w.heap.size<=b:=(p8 b (by simp[keys])).resolve_left (by simp[keys]);have hsz:cs.size=zs.length:=by rw[<-k2.1];simp
  refine⟨_,.sl [],esz+1,[],F',rfl,⟨rfl,rfl,rfl⟩,?_,fun sz hsz'=>⟨?_,fun b' hb'=>?_⟩,p4,p5,p6,⟨List.nodup_nil,fun b hb=>by simp[keys] at hb,fun x hx=>by simp at hx⟩,fun b hb=>by simp[keys] at hb⟩
  ·exact .sl b 0 0 cap esz [] (fun _=>undef) rfl (Nat.zero_le _) (by simp) (by simp) (fun k hk=>by omega) (fun i x j c hx=>by simp at hx)
  ·have:sz=esz:=by omega
   subst this;exact .inr (.inr ⟨b,0,0,cap,cs,E,rfl,Nat.zero_le _,by rw[hF0];simp,k1,by rw[hsz];omega⟩)
  ·refine .inr ⟨?_,by simp[keys]⟩;simp only[zV] at hb';split at hb'
   ·cases hb'
   ·injection hb' with hb';subst hb';exact hb
end
section
variable {P:Program} {T:TT}
def Wsem (P:Program) (q:Code) (c:CE) (n:CE->Prop) (x:Nat->CE->Prop) (r:CE->Prop):Prop :=
 ∀cx:Ctx,True->zK cx.n q=true->∀g a w,Rel cx g (den c) a w->q.wp P (zEE cx n x r) a w
theorem Wsem.of (hT:zN P T) (hm:P.follows .mixedOrders=true) {q:Code} {c:CE} {n:CE->Prop} {x:Nat->CE->Prop} {r:CE->Prop} (h:WcX P T q c n x r):Wsem P q c n x r :=
 fun _ hyk hk g a w hR=>jF hT hm hyk q c n x r hk h g a w hR
theorem Wsem.seq (hT:zN P T) (hm:P.follows .mixedOrders=true) {p q:Code} {c:CE} {n:CE->Prop} {x:Nat->CE->Prop} {r:CE->Prop} (h:WcX P T p c (fun c=>Wsem P q c n x r) x r):Wsem P (.seq p q) c n x r:=by
 intro cx hyk hk g a w hR;simp only[zK,Bool.and_eq_true] at hk;refine wp_seq (Go.wp_mono (jF hT hm hyk p c _ x r hk.1 h g a w hR) fun ex a w hp=>?_);cases ex with
 | normal=>obtain⟨c',g',h1,h2⟩:=hp;exact h1 cx hyk hk.2 g' a w h2
 | _=>exact hp
def zBI:Code->Code
 | .seq _ q=>q
 | q=>q
def z6N:Code->Code
 | .seq p _=>p
 | q=>q
def bodyC (f:Func):Code:=match f.body with
 | some c=>c
 | none => .skip
theorem Wsem.cut (fr:Fr) {q:Code} {c:CE} {n:CE->Prop} {x:Nat->CE->Prop} {r:CE->Prop} (hle:le (den c) fr) (h:Wsem P q (mkC fr) n x r):Wsem P q c n x r:=by
 intro cx hyk hk g a w hR;obtain⟨g',hR'⟩:=hR.le hle;exact h cx hyk hk g' a w (by rw[zBB];exact hR')
theorem Wsem.seqS {p q:Code} {c:CE} {n:CE->Prop} {x:Nat->CE->Prop} {r:CE->Prop} (h:Wsem P p c (fun c=>Wsem P q c n x r) x r):Wsem P (.seq p q) c n x r:=by
 intro cx hyk hk g a w hR;simp only[zK,Bool.and_eq_true] at hk;refine wp_seq (Go.wp_mono (h cx hyk hk.1 g a w hR) fun ex a w hp=>?_);cases ex with
 | normal=>obtain⟨c',g',h1,h2⟩:=hp;exact h1 cx hyk hk.2 g' a w h2
 | _=>exact hp
theorem Wsem.block {i:Nat} {q:Code} {c:CE} {n:CE->Prop} {x:Nat->CE->Prop} {r:CE->Prop} (h:Wsem P q c n (fun j c=>match Nat.beq j i with|true=>n c|false=>x j c) r):Wsem P (.block i q) c n x r:=by
 intro cx hyk hk g a w hR;refine wp_block (Go.wp_mono (h cx hyk hk g a w hR) fun ex a w hp=>?_);cases ex with
 | normal=>exact hp
 | exit j =>
  obtain⟨c',g',h1,h2⟩:=hp;simp only[Exit.inBlock];by_cases hj:j=i
  ·rw[if_pos hj];subst hj;rw[Nat.beq_refl] at h1;exact⟨c',g',h1,h2⟩
  ·rw[if_neg hj];rw[Nat.beq_ne hj] at h1;exact⟨c',g',h1,h2⟩
 | _=>exact hp
theorem Wsem.loop {q:Code} {c:CE} {n:CE->Prop} {x:Nat->CE->Prop} {r:CE->Prop} {α:Type} (I:α->Fr) (μ:α->Nat) (y:α) (hle:le (den c) (I y)) (h:∀y,Wsem P q (mkC (I y)) (fun c => ∃z,μ z<μ y/\le (den c) (I z)) x r):Wsem P (.loop q) c n x r:=by
 intro cx hyk hk g a w hR;obtain⟨g0,hR0⟩:=hR.le hle;generalize hSS:(fun (a:Act) (w:World) (m:Nat) => ∃y g,μ y=m/\Rel cx g (mkE (I y)) a w)=S;have hS1:∀{a:Act} {w:World} {m:Nat},(∃y g,μ y=m/\Rel cx g (mkE (I y)) a w)->S a w m:=fun h=>by rw[<-hSS];exact h
 have hS2:∀{a:Act} {w:World} {m:Nat},S a w m->(∃y g,μ y=m/\Rel cx g (mkE (I y)) a w):=fun h=>by rw[<-hSS] at h;exact h
 refine wp_loop (fun a w => ∃m,S a w m) (fun a w=>least (S a w)) ⟨μ y,hS1 ⟨y,g0,rfl,hR0⟩⟩ fun a w hS=>?_;obtain⟨y1,g1,h3,h4⟩:=hS2 (yX hS).1;refine Go.wp_mono (h y1 cx hyk hk g1 a w (by rw[zBB];exact h4)) fun ex a' w' hp=>?_;cases ex with
 | normal =>
  obtain⟨c',g',⟨z,h5,h6⟩,h7⟩:=hp;obtain⟨g2,h8⟩:=h7.le h6;have hz:S a' w' (μ z):=hS1 ⟨z,g2,rfl,h8⟩;refine⟨⟨_,hz⟩,?_⟩;have:=(yX ⟨_,hz⟩).2 _ hz;omega
 | _=>exact hp
theorem Wsem.cond {o:Operand} {p q:Code} {c:CE} {n:CE->Prop} {x:Nat->CE->Prop} {r:CE->Prop} {t:Bool} (ho:opd (den c) o = .v (.sb t)) (h1:t=true->Wsem P p (crefine o true c) n x r) (h2:t=false->Wsem P q (crefine o false c) n x r):Wsem P (.cond o p q) c n x r:=by
 intro cx hyk hk g a w hR;simp only[zK,Bool.and_eq_true] at hk;have hag:=Agree.refl (zJ o) (den c);have hv:=(zF hag hR (Sub.refl _) ho).sb_eq;have hR':=zFO hR ho;cases t with
 | true=>exact wp_cond_true hv (h1 rfl cx hyk hk.1 g a w (by rw[xZ];exact hR'))
 | false=>exact wp_cond_false hv (h2 rfl cx hyk hk.2 g a w (by rw[xZ];exact hR'))
theorem zHR (hT:zN P T) (hm:P.follows .mixedOrders=true) {f:Nat} {fn:Func} {c:Code} (hf:P.funcs[f]? = some fn) (hb:fn.body=some c) {vs:List Value} {args:List AV} {os:List Nat} {hin:List (Nat×HO)}
  (hlen:args.length<=fn.ntmps) (hk:zK fn.ntmps c=true) {post:AV->Nat->List (Nat×HO)->Prop} {F:Nat->Option Nat} {w:World}
  (hw:Wsem P c (xN args os hin) (fun c=>xA T fn.results.toList post (den c)) (fun _ _=>False) (fun c=>xA T fn.results.toList post (den c)))
  (hfr:Fresh F w) (hh:HeapIn F w hin) (ha:qQ F w vs args os) (hy:∀b∈zS vs os,b∉keys hin):Calls P f vs.toArray w (yJ F (keys hin) (zS vs os) w post):=by
 obtain⟨g,hR⟩:=wV hfr hh ha hy (n:=fn.ntmps) (by rw[ha.len];exact hlen);refine calls_of_wp hf hb (Go.wp_mono (hw _ trivial hk g _ _ (hR.weaken (xH args os hin) (wF args os hin) (fun _=>rfl) rfl)) fun ex a w' hp=>?_);have fin:∀{e:Env} {g:G},xA T fn.results.toList post e->Rel {n:=fn.ntmps,W:=w,F:=F,hk:=keys hin,yk:=zS vs os} g e a w'->a.defers=[]/\∃v,(results fn a.tmps).run P w' = .ok v w'/\yJ F (keys hin) (zS vs os) w post (.returned v) w':=fun {e g} hr hR=>by
  unfold xA at hr;split at hr
  ·rename_i r hres;obtain⟨v,p1,p2,p3⟩:=wM hT hR hres;refine⟨hR.defers,v,p1,v,r,_,e.heap,g.F,rfl,hr,p2,fun sz ho=>?_,hR.kept,hR.fext,hR.fresh,hR.heap,fun b hb=>?_⟩
   ·obtain⟨q1,q2⟩:=p3 sz ho;refine⟨q1,fun b hb=>?_⟩;obtain⟨s,hs⟩:=q2 b hb;by_cases h1:b∈zS vs os
    ·exact .inl h1
    ·refine .inr ⟨?_,fun hk=>by have:=hR.heapO b hk;rw[hs] at this;cases this⟩;rcases Nat.lt_or_ge b w.heap.size with h2|h2
     ·rcases hR.old b h2 h1 with h3|⟨_,h3⟩<;>(rw[hs] at h3;cases h3)
     ·exact h2
   ·rcases Nat.lt_or_ge b w.heap.size with h2|h2
    ·exact .inl (hR.hkin b h2 (hR.heapO b hb))
    ·exact .inr h2
  ·exact hr.elim
 cases ex with
 | normal=>obtain⟨e,g',h1,h2⟩:=hp;exact fin h1 h2
 | ret=>obtain⟨e,g',h1,h2⟩:=hp;exact fin h1 h2
 | exit i=>obtain⟨e,g',h1,h2⟩:=hp;exact h1.elim
 | goto l=>exact hp.elim
 | panic ch=>exact hp.elim
 | outgrown=>exact hp.elim
theorem xC (hT : zN P T) (hm : P.follows .mixedOrders = true) {f : Nat} {fn : Func} {c : Code} (hf : P.funcs[f]? = some fn) (hb : fn.body = some c) (hname : (fn.name == "runtime.NumGoroutine") = false) {first cap : List Value} {args : List AV} {hin : List (Nat × HO)}
  (hone:(first++cap).all (·.oneCell')=true) (hlen:first.length+(args.length+cap.length)<=fn.ntmps) (hk:zK fn.ntmps c=true) {post:AV->Nat->List (Nat×HO)->Prop}
  (hw:Wsem P c (xN (first.map AV.lit++(args++cap.map AV.lit)) (List.replicate first.length 0++[]) hin) (fun c=>xA T fn.results.toList post (den c)) (fun _ _=>False) (fun c=>xA T fn.results.toList post (den c))) :
  CallsG P (.func (.func f) first.toArray cap.toArray) hin args [] post:=by
 refine⟨f,_,_,rfl,⟨fn,hf,by rw[hb];rfl,hname⟩,fun F w vs hfr hh ha hy=>?_⟩;have e1:first.toArray++vs.toArray++cap.toArray=(first++(vs++cap)).toArray:=by simp
 have e2:zS (first++(vs++cap)) (List.replicate first.length 0++[])=zS vs []:=by rw[zB3,zC7 _ _ _ (Nat.zero_le _)]
 have ho1:∀v∈first++cap,v.oneCell'=true:=List.all_eq_true.1 hone
 rw[e1,<-e2];refine zHR hT hm hf hb (by simp;omega) hk hw hfr hh ⟨by simp[ha.len],fun i v a hv hax=>?_,fun i v sz hv ho=>?_,by rw[e2];exact ha.apart⟩ (by rw[e2];exact hy)
 ·rcases Nat.lt_or_ge i first.length with h|h
  ·rw[List.getElem?_append_left h] at hv;rw[List.getElem?_append_left (by simpa using h),List.getElem?_map,hv] at hax;simp at hax;subst hax;exact .lit v (ho1 v (List.mem_append.2 (.inl (List.mem_of_getElem? hv))))
  ·rw[List.getElem?_append_right h] at hv;rw[List.getElem?_append_right (by simpa using h)] at hax;simp only[List.length_map] at hax;rcases Nat.lt_or_ge (i-first.length) vs.length with h2|h2
   ·rw[List.getElem?_append_left h2] at hv;rw[List.getElem?_append_left (by rw[<-ha.len];exact h2)] at hax;exact ha.rep _ v a hv hax
   ·rw[List.getElem?_append_right h2] at hv;rw[List.getElem?_append_right (by rw[<-ha.len];exact h2),<-ha.len,List.getElem?_map,hv] at hax;simp at hax;subst hax;exact .lit v (ho1 v (List.mem_append.2 (.inr (List.mem_of_getElem? hv))))
 ·rcases Nat.lt_or_ge i first.length with h|h
  ·rw[List.getElem?_append_left (by simpa using h),List.getElem?_replicate] at ho;rw[if_pos h] at ho;cases ho
  ·rw[List.getElem?_append_right (by simpa using h)] at ho;simp only[List.length_replicate] at ho;rw[List.getElem?_append_right h] at hv;have:i-first.length<vs.length:=by
    have:=(List.getElem?_eq_some_iff.1 ho).1;simp at this
   rw[List.getElem?_append_left this] at hv;exact ha.tip _ v sz hv ho
theorem zBG (hT : zN P T) (hm : P.follows .mixedOrders = true) {f : Nat} {fn : Func} {c : Code} (hf : P.funcs[f]? = some fn) (hb : fn.body = some c) (hname : (fn.name == "runtime.NumGoroutine") = false) {args : List AV}
  (hlen:args.length<=fn.ntmps) (hk:zK fn.ntmps c=true) {r:AV}
  (hw:Wsem P c (xN args [] []) (fun c=>zH1 T fn.results.toList r (den c)) (fun _ _=>False) (fun c=>zH1 T fn.results.toList r (den c))):zB P f args r:=by
 refine⟨f,_,_,rfl,⟨fn,hf,by rw[hb];rfl,hname⟩,fun F w vs hfr hh ha hy=>?_⟩;have e1 : #[]++vs.toArray ++ #[]=vs.toArray:=by simp
 rw[e1];refine (zHR hT hm hf hb hlen hk (post:=fun r' _ _=>r'=r) ?_ hfr hh ha hy).mono fun en w' hp=>?_
 ·exact hw
 ·obtain⟨v,r',n,hout,F',rfl,p1,p2,p3,p4,p5,p6,p7,p8⟩:=hp;exact⟨v,r',0,[],F',rfl,⟨p1,rfl,rfl⟩,p2,fun sz h=>(by cases h),p4,p5,p6,⟨List.nodup_nil,fun b hb=>by simp[keys] at hb,fun x hx=>by simp at hx⟩,fun b hb=>by simp[keys] at hb⟩
end
end Fp
