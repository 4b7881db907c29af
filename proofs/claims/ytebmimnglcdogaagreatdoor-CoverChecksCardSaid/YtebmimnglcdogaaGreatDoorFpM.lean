/- Elements of one size in a block: read and written, whole or in part. No condition. -/
import Derived.Test.YtebmimnglcdogaaGreatDoorFpL
set_option linter.unusedSimpArgs false
set_option linter.unusedVariables false
namespace Fp
open Go
def flR (L:List AV) (rest:List AV):List AV:=L.flatMap AV.cells++rest
theorem wP (a:AV) (L rest:List AV):flR (a::L) rest=a.cells++flR L rest:=by simp[flR]
theorem zDW {n:Nat} {L:List AV} (h:Uni n L) (rest:List AV):(flR L rest).length=L.length*n+rest.length:=by
 induction L with
 | nil=>simp[flR]
 | cons a L ih =>
  have ha:=h a (by simp);rw[wP,List.length_append,ih (fun x hx=>h x (by simp[hx])),ha,List.length_cons,Nat.add_mul];omega
theorem zQP {n:Nat} {L:List AV} (h:Uni n L) (rest:List AV) {k:Nat} (hk:k<L.length):∃tl,(flR L rest).drop (k*n)=L[k].cells++tl:=by
 induction L generalizing k with
 | nil=>simp at hk
 | cons a L ih =>
  have ha:=h a (by simp);cases k with
  | zero=>exact⟨flR L rest,by rw[wP];simp⟩
  | succ k =>
   obtain⟨tl,ht⟩:=ih (fun x hx=>h x (by simp[hx])) (k:=k) (by simpa using hk);refine⟨tl,?_⟩;rw[wP,List.drop_append,List.drop_eq_nil_of_le (by rw[ha,Nat.add_mul];omega),List.nil_append,ha,show (k+1)*n-n=k*n by rw[Nat.add_mul];omega,ht]
   rfl
theorem zFA {n:Nat} {L:List AV} (h:Uni n L) (rest:List AV) {k:Nat} (hk:k<L.length) (off m:Nat) (hm:off+m<=n):((flR L rest).drop (k*n+off)).take m=(L[k].cells.drop off).take m:=by
 obtain⟨tl,ht⟩:=zQP h rest hk;have hl:L[k].cells.length=n:=h _ (List.getElem_mem hk);rw[<-List.drop_drop,ht,List.drop_append_of_le_length (by omega),List.take_append_of_le_length (by rw[List.length_drop];omega)]
theorem zID {n:Nat} {L:List AV} (h:Uni n L) (rest:List AV) {k:Nat} (hk:k<L.length) (off:Nat) (hm:off<n):(flR L rest)[k*n+off]? = L[k].cells[off]?:=by
 obtain⟨tl,ht⟩:=zQP h rest hk;have hl:L[k].cells.length=n:=h _ (List.getElem_mem hk);have:(flR L rest)[k*n+off]? = ((flR L rest).drop (k*n))[off]?:=by rw[List.getElem?_drop]
 rw[this,ht,List.getElem?_append_left (by omega)]
theorem zDF {n:Nat} {L:List AV} (h:Uni n L) (rest:List AV) {k:Nat} (hk:k<L.length) (off m:Nat) (hm:off+m<=n):k*n+off+m<=(flR L rest).length:=by
 rw[zDW h];have:(k+1)*n<=L.length*n:=Nat.mul_le_mul_right n hk;rw[Nat.add_mul] at this;omega
theorem zGZ {a l:List AV} {off:Nat} {cs:List AV}:setAt (a++l) (a.length+off) cs=a++setAt l off cs:=by
 unfold setAt;rw[List.take_append,List.take_of_length_le (by omega),Nat.add_sub_cancel_left,List.drop_append,List.drop_eq_nil_of_le (by omega),List.nil_append,List.append_assoc]
 congr 4;omega
theorem zMH {a l:List AV} {off:Nat} {cs:List AV} (h:off+cs.length<=a.length):setAt (a++l) off cs=setAt a off cs++l:=by
 unfold setAt;rw[List.take_append_of_le_length (by omega),List.drop_append_of_le_length (by omega)];simp
theorem zGW {n:Nat} {L:List AV} (h:Uni n L) (rest:List AV) {k:Nat} (hk:k<L.length) (off:Nat) (cs:List AV) (hm:off+cs.length<=n):setAt (flR L rest) (k*n+off) cs=flR (L.set k (.agg (setAt L[k].cells off cs))) rest:=by
 induction L generalizing k with
 | nil=>simp at hk
 | cons a L ih =>
  have ha:=h a (by simp);cases k with
  | zero =>
   rw[wP,List.set_cons_zero,wP,Nat.zero_mul,Nat.zero_add];exact zMH (by omega)
  | succ k =>
   rw[wP,List.set_cons_succ,wP,show (k+1)*n+off=a.cells.length+(k*n+off) by rw[ha,Nat.add_mul];omega,zGZ]
   congr 1
   exact ih (fun x hx=>h x (by simp[hx])) (by simpa using hk)
theorem zVJ {n:Nat} {L:List AV} (h:Uni n L) (rest:List AV) {k:Nat} (hk:k<L.length) (x:AV) (hx:x.cells.length=n):setAt (flR L rest) (k*n) x.cells=flR (L.set k x) rest:=by
 induction L generalizing k with
 | nil=>simp at hk
 | cons a L ih =>
  have ha:=h a (by simp);cases k with
  | zero =>
   rw[wP,List.set_cons_zero,wP,Nat.zero_mul,zMH (by omega)]
   congr 1
   unfold setAt;rw[List.drop_eq_nil_of_le (by omega)];simp
  | succ k =>
   rw[wP,List.set_cons_succ,wP,show (k+1)*n=a.cells.length+k*n by rw[ha,Nat.add_mul];omega,zGZ]
   congr 1
   exact ih (fun x hx=>h x (by simp[hx])) (by simpa using hk)
theorem zIA {α:Type} {l1 l2:List α} {x y:α}:(l1++x::l2).set l1.length y=l1++y::l2:=by simp
open Go Go.MapKept
def z4Q (ρ:Nat->Nat) (e:Edge):Edge:={e with on:=ρ e.on}
def zK9 (ρ:Nat->Nat) (o:Oper):Oper:={o with after:=(o.after.toList.map (z4Q ρ)).toArray}
def xR (i:Nat):List Nat->Nat
 | []=>0
 | j::r=>bif Nat.beq j i then 0 else xR i r+1
def yU (π:List Nat) (l:List Oper):List Oper:=π.filterMap fun i=>(l[i]?).map (zK9 fun k=>xR k π)
def rowOk (π:List Nat) (l:List Oper):Bool:=Nat.beq π.length l.length && (((List.range l.length).all fun i=>match π[xR i π]? with|some j=>Nat.beq j i|none=>false) && (π.all (fun i=>Nat.blt i l.length) && ((l.all fun o=>match o.guard with|none=>true|some _=>false) && (List.range l.length).all fun k=>match π[k]? with|some i=>Nat.beq (xR i π) k|none=>false)))
theorem zIV {i:Nat}:∀{π:List Nat},i∈π->xR i π<π.length
 | j::r,h=>by
  simp only[xR,List.length_cons];cases hb:Nat.beq j i with
  | true=>simp
  | false =>
   have hne:i≠j:=fun e=>by rw[e,Nat.beq_refl] at hb;cases hb
   have:=zIV (List.mem_of_ne_of_mem hne h);simp;omega
theorem zQR {i:Nat}:∀{π:List Nat},i∉π->xR i π=π.length
 | [],_=>rfl
 | j::r,h=>by
  simp only[List.mem_cons,not_or] at h;simp only[xR,List.length_cons];rw[Nat.beq_ne (Ne.symm h.1),zQR h.2];rfl
theorem zDY {i:Nat}:∀{π:List Nat},i∈π->π[xR i π]? = some i
 | j::r,h=>by
  simp only[xR];cases hb:Nat.beq j i with
  | true=>rw[Nat.eq_of_beq_eq_true hb];rfl
  | false =>
   have hne:i≠j:=fun e=>by rw[e,Nat.beq_refl] at hb;cases hb
   simpa using zDY (List.mem_of_ne_of_mem hne h)
structure zTR (π:List Nat) (l:List Oper):Prop where
 len:π.length=l.length
 all:∀i,i<l.length->i∈π
 lt:∀i∈π,i<l.length
 ng:∀o∈l,o.guard=none
 inj:∀k i,π[k]? = some i->xR i π=k
theorem zQT {π:List Nat} {l:List Oper} (h:rowOk π l=true):zTR π l:=by
 unfold rowOk at h;simp only[Bool.and_eq_true,List.all_eq_true] at h;obtain⟨h1,h2,h3,h4,h5⟩:=h;have hl:=Nat.eq_of_beq_eq_true h1;refine⟨hl,fun i hi=>?_,fun i hi=>Nat.le_of_ble_eq_true (h3 i hi),fun o ho=>?_,fun k i hk=>?_⟩
 ·have:=h2 i (List.mem_range.2 hi);split at this
  ·rename_i j hj;rw[<-Nat.eq_of_beq_eq_true this];exact List.mem_of_getElem? hj
  ·cases this
 ·have:=h4 o ho;split at this
  ·assumption
  ·cases this
 ·have hk':=(List.getElem?_eq_some_iff.1 hk).1;have:=h5 k (List.mem_range.2 (by omega));rw[hk] at this;exact Nat.eq_of_beq_eq_true this
theorem zEL {π:List Nat} {l:List Oper} (h:zTR π l) (k:Nat):(yU π l)[k]? = (π[k]?).bind fun i=>(l[i]?).map (zK9 fun j=>xR j π):=by
 unfold yU;have hall:∀i∈π,∃o,l[i]? = some o:=fun i hi=>⟨_,List.getElem?_eq_getElem (h.lt i hi)⟩
 have:∀(q:List Nat) (k:Nat),(∀i∈q,∃o,l[i]? = some o)->(q.filterMap fun i=>(l[i]?).map (zK9 fun j=>xR j π))[k]? = (q[k]?).bind fun i=>(l[i]?).map (zK9 fun j=>xR j π):=by
  intro q;induction q with
  | nil=>intro k _;rfl
  | cons i q ih =>
   intro k hq;obtain⟨o,ho⟩:=hq i (by simp);rw[List.filterMap_cons,ho];simp only[Option.map_some];cases k with
   | zero=>simp[ho]
   | succ k=>simpa using ih k fun j hj=>hq j (by simp[hj])
 exact this π k hall
theorem zKA {π:List Nat} {l:List Oper} (h:zTR π l):(yU π l).length=l.length:=by
 have h1:(yU π l)[l.length]? = none:=by rw[zEL h,List.getElem?_eq_none (by rw[h.len];exact Nat.le_refl _)];rfl
 have h2:∀k,k<l.length->∃o,(yU π l)[k]? = some o:=fun k hk=>by
  rw[zEL h,List.getElem?_eq_getElem (by rw[h.len];exact hk)];exact⟨_,by simp only[Option.bind_some];rw[List.getElem?_eq_getElem (h.lt _ (List.getElem_mem _))];rfl⟩
 have h3:=List.getElem?_eq_none_iff.1 h1;rcases Nat.lt_or_ge (yU π l).length l.length with hlt|hge
 ·obtain⟨o,ho⟩:=h2 _ hlt;rw[List.getElem?_eq_none (Nat.le_refl _)] at ho;cases ho
 ·omega
section
variable {P:Program} {arr:Array Oper}
theorem z0S {ρ:Nat->Nat} {o:Oper} {a:Act} {w:World} {K:Act->World->Prop} {Q:Exit->Act->World->Prop} (h:(zK9 ρ o).wp P a w K Q):o.wp P a w K Q:=h
theorem zWB {ρ:Nat->Nat} {o:Oper} {a:Act} {w:World} (h:(zK9 ρ o).asks P a w):o.asks P a w:=h
theorem zWE {md:Region.Mode} {Q:Exit->Act->World->Prop} {π:List Nat} (h:zTR π arr.toList):∀(fuel:Nat) (L L':Array Bool) (a:Act) (w:World),L.size=arr.size->L'.size=arr.size->(∀i,i<arr.size->∀b,L'.getD (xR i π) b=L.getD i b) ->
  wpAny P md (yU π arr.toList).toArray Q fuel L' a w->wpAny P md arr Q fuel L a w:=by
 have hsz:((yU π arr.toList).toArray).size=arr.size:=by simp[zKA h]
 have hn:arr.toList.length=arr.size:=by simp
 have hget:∀i,i<arr.size->∀o,arr[i]? = some o->((yU π arr.toList).toArray)[xR i π]? = some (zK9 (fun j=>xR j π) o):=fun i hi o ho=>by
  have hm:=h.all i (by rw[hn];exact hi);rw[List.getElem?_toArray,zEL h,zDY hm];simp only[Option.bind_some,Array.getElem?_toList,ho,Option.map_some]
 have hplt:∀i,i<arr.size->xR i π<arr.size:=fun i hi=>by
  have:=zIV (h.all i (by rw[hn];exact hi));rw[h.len,hn] at this;exact this
 have hedge:∀(L L':Array Bool),L.size=arr.size->L'.size=arr.size->(∀i,i<arr.size->∀b,L'.getD (xR i π) b=L.getD i b)->∀i,L'.getD (xR i π) false=L.getD i false:=fun L L' h1 h2 hL i=>by
  rcases Nat.lt_or_ge i arr.size with hi|hi
  ·exact hL i hi false
  ·have hm:i∉π:=fun hm=>by have:=h.lt i hm;rw[hn] at this;omega
   rw[zQR hm,h.len,hn];simp[Array.getD,h1,h2,hi,Nat.not_lt.2 hi]
 have ready:∀(L L':Array Bool),L.size=arr.size->L'.size=arr.size->(∀i,i<arr.size->∀b,L'.getD (xR i π) b=L.getD i b)->∀i,i<arr.size->(i∈Region.ready md arr L↔xR i π∈Region.ready md (yU π arr.toList).toArray L'):=fun L L' h1 h2 hL i hi=>by
  have he:=hedge L L' h1 h2 hL;unfold Region.ready;simp only[List.mem_filter,List.mem_range,hsz,hplt i hi,hi,true_and];rw[hL i hi true,hget i hi arr[i] (by simp[hi])];have:arr[i]? = some arr[i]:=by simp[hi]
  rw[this];simp only[Option.map_some,Option.getD_some,Bool.and_eq_true,zK9];have:((arr[i].after.toList.map (z4Q fun j=>xR j π)).toArray.all fun e => !Region.binds md e || L'.getD e.on false)=(arr[i].after.all fun e => !Region.binds md e || L.getD e.on false):=by
   rw[<-Array.all_toList,<-Array.all_toList,List.all_map]
   congr 1
   funext e
   show (!Region.binds md (z4Q _ e) || L'.getD (xR e.on π) false)=_;rw[he];rfl
  rw[this]
 intro fuel;induction fuel with
 | zero =>
  intro L L' a w h1 h2 hL hw;refine⟨?_,hw.2⟩;cases hr:Region.ready md arr L with
  | nil=>rfl
  | cons i r =>
   have hi:i∈Region.ready md arr L:=by rw[hr];simp
   have hi2:i<arr.size:=by unfold Region.ready at hi;simp only[List.mem_filter,List.mem_range] at hi;exact hi.1
   have:=(ready L L' h1 h2 hL i hi2).1 hi;rw[hw.1] at this;cases this
 | succ fuel ih =>
  intro L L' a w h1 h2 hL hw;refine⟨fun hr=>hw.1 ?_,fun i hi=>?_⟩
  ·cases hr2:Region.ready md (yU π arr.toList).toArray L' with
   | nil=>rfl
   | cons k r =>
    exfalso;have hk:k∈Region.ready md (yU π arr.toList).toArray L':=by rw[hr2];simp
    have hk2:k<arr.size:=by unfold Region.ready at hk;simp only[List.mem_filter,List.mem_range,hsz] at hk;exact hk.1
    have hk3:k<π.length:=by rw[h.len,hn];exact hk2
    have hpi:=h.inj k π[k] (List.getElem?_eq_getElem hk3);have hlt:π[k]<arr.size:=by have:=h.lt _ (List.getElem_mem hk3);rw[hn] at this;exact this
    have:=(ready L L' h1 h2 hL π[k] hlt).2 (by rw[hpi];exact hk);rw[hr] at this;cases this
  ·have hi2:i<arr.size:=by unfold Region.ready at hi;simp only[List.mem_filter,List.mem_range] at hi;exact hi.1
   have h3:=hw.2 _ ((ready L L' h1 h2 hL i hi2).1 hi);have hoi:arr[i]? = some arr[i]:=by simp[hi2]
   unfold wpOp at h3⊢;rw[hget i hi2 _ hoi] at h3;rw[hoi];simp only at h3⊢;have hg:arr[i].guard=none:=h.ng _ (by simp);have w1:Region.wanted arr[i] (yielded arr a.tmps)=true:=by unfold Region.wanted;rw[hg]
   have w2:Region.wanted (zK9 (fun j=>xR j π) arr[i]) (yielded (yU π arr.toList).toArray a.tmps)=true:=by unfold Region.wanted zK9;simp only[hg]
   rw[if_pos w1];rw[if_pos w2] at h3;refine h3.imp (fun h3=>Oper.wp_mono (fun a' w' h4=>?_) (z0S h3)) (fun h3=>⟨zWB h3.1,h3.2⟩);refine ih _ _ a' w' (by simp[h1]) (by simp[h2]) (fun j hj b=>?_) h4;by_cases hij:i=j
   ·subst hij;simp[Array.getD,h1,h2,hi2,hplt i hi2]
   ·have hpne:xR i π≠xR j π:=fun e=>by
     have p1:=zDY (h.all i (by rw[hn];exact hi2));have p2:=zDY (h.all j (by rw[hn];exact hj));rw[e,p2] at p1;exact hij (Option.some.inj p1).symm
    rw[getD_set_ne b hpne,getD_set_ne b hij];exact hL j hj b
def SpU (P:Program) (arr:Array Oper):List Oper->Env->(List (List U)->List (Nat×Nat)->Prop)->Prop
 | [],_,S => ∀us bs,S us bs↔us=[]/\bs=[]
 | o::r,e,S=>(∃u m S',StepB P arr o e u m/\SpU P arr r (app e u) S'/\∀us bs,S us bs↔∃us' bs',us=u::us'/\bs=m::bs'/\S' us' bs') ∨
   ∃(V:List U->Prop) (m:Nat×Nat) (S':List U->List (List U)->List (Nat×Nat)->Prop),o.guard=none/\Sub (zY arr.toList o) m.1/\OpensB P o e V m.1/\Sub 128 m.2/\(∀v,V v->Sub (wrU v) m.2/\(∃us bs,S' v us bs)/\(∀us bs,S' v us bs->∀m'∈bs,Sub 128 m'.1)/\SpU P arr r (app e v) (S' v)) /\
    ∀us bs,S us bs↔∃v us' bs',V v/\us=v::us'/\bs=m::bs'/\S' v us' bs'
theorem zHH:∀(r:List Oper) (e:Env) (S:List (List U)->List (Nat×Nat)->Prop),SpU P arr r e S->∀us bs,S us bs->us.length=r.length/\bs.length=r.length/\∀(j:Nat) u,us[j]? = some u->∃m,bs[j]? = some m/\Sub (wrU u) m.2
 | [],e,S,h,us,bs,hs=>by
  obtain⟨rfl,rfl⟩:=(h us bs).1 hs;exact⟨rfl,rfl,fun j u h=>by simp at h⟩
 | o::r,e,S,h,us,bs,hs=>by
  have fin:∀(u:List U) (m:Nat×Nat) us' bs',Sub (wrU u) m.2->(us'.length=r.length/\bs'.length=r.length/\∀(j:Nat) u,us'[j]? = some u->∃m,bs'[j]? = some m/\Sub (wrU u) m.2)->((u::us').length=(o::r).length/\(m::bs').length=(o::r).length/\∀(j:Nat) v,(u::us')[j]? = some v->∃m',(m::bs')[j]? = some m'/\Sub (wrU v) m'.2):=fun u m us' bs' hw ⟨h1,h2,h3⟩=>by
   refine⟨by simp[h1],by simp[h2],fun j v hj=>?_⟩
   match j with
   | 0=>simp at hj;subst hj;exact⟨m,rfl,hw⟩
   | j+1=>obtain⟨m',q1,q2⟩:=h3 j v (by simpa using hj);exact⟨m',by simpa using q1,q2⟩
  rcases h with⟨u,m,S',h1,h2,h3⟩|⟨V,m,S',h1,h2,h3,h4,h5,h6⟩
  ·obtain⟨us',bs',rfl,rfl,hs'⟩:=(h3 us bs).1 hs;exact fin _ _ _ _ h1.1 (zHH r _ S' h2 us' bs' hs')
  ·obtain⟨v,us',bs',hv,rfl,rfl,hs'⟩:=(h6 us bs).1 hs;exact fin _ _ _ _ (h5 v hv).1 (zHH r _ _ (h5 v hv).2.2.2 us' bs' hs')
theorem z0E {o:Oper} {L:Array Bool} {m:Nat×Nat}:∀(r:List Oper) (us:List (List U)) (bs:List (Nat×Nat)) (S:List (List U)->List (Nat×Nat)->Prop) (i k:Nat) (e e':Env),SpU P arr r e S->S us bs->r[k]? = some o->bs[k]? = some m->Agree m.1 e e' ->
  (∀(j:Nat) v,us[j]? = some v->j<k->L.getD (i+j) false=false->Disj (wrU v) m.1)->(∀(j:Nat) v,us[j]? = some v->k<=j->L.getD (i+j) false=true->Disj (wrU v) m.1) ->
  (∃u,us[k]? = some u/\StepB P arr o (yV us i L e') u m)∨∃V:List U->Prop,o.guard=none/\OpensB P o (yV us i L e') V m.1/\Sub 128 m.2/\(∀(t:Nat) m',k<t->bs[t]? = some m'->Sub 128 m'.1) /\
   ∀v,V v->Sub (wrU v) m.2/\∃us' bs',S us' bs'/\(∀t,t<k->us'[t]? = us[t]?)/\us'[k]? = some v/\us'.length=us.length/\bs'[k]? = some m
 | [],us,bs,S,i,k,e,e',_,_,h,_,_,_,_=>by simp at h
 | o'::r,us,bs,S,i,0,e,e',ht,hs,h,hm,q,h1,h2=>by
  simp only[List.getElem?_cons_zero,Option.some.injEq] at h;subst h;have hag:Agree m.1 (yV us i L e') e:=(zC3 us i L e' fun j v hj hl=>h2 j v hj (Nat.zero_le _) hl).trans q.symm;rcases ht with⟨u,m0,S',k1,k2,k3⟩|⟨V,m0,S',k1,k2,k3,k4,k5,k6⟩
  ·obtain⟨us',bs',rfl,rfl,hs'⟩:=(k3 us bs).1 hs;simp only[List.getElem?_cons_zero,Option.some.injEq] at hm;subst hm;exact .inl ⟨u,rfl,k1.agree hag⟩
  ·obtain⟨v,us',bs',hv,rfl,rfl,hs'⟩:=(k6 us bs).1 hs;simp only[List.getElem?_cons_zero,Option.some.injEq] at hm;subst hm;refine .inr ⟨V,k1,k3.agree hag,k4,fun t m' ht hm'=>?_,fun v' hv'=>?_⟩
   ·match t,ht with
    | t+1,_=>exact (k5 v hv).2.2.1 us' bs' hs' m' (List.mem_of_getElem? (by simpa using hm'))
   ·obtain⟨q1,⟨us2,bs2,q2⟩,q3,q4⟩:=k5 v' hv';refine⟨q1,v'::us2,m0::bs2,(k6 _ _).2 ⟨v',us2,bs2,hv',rfl,rfl,q2⟩,fun t ht=>absurd ht (Nat.not_lt_zero t),rfl,?_,rfl⟩;simp only[List.length_cons];rw[(zHH r _ _ q4 us2 bs2 q2).1,(zHH r _ _ (k5 v hv).2.2.2 us' bs' hs').1]
 | o'::r,us,bs,S,i,k+1,e,e',ht,hs,h,hm,q,h1,h2=>by
  have go:∀(u:List U) (m0:Nat×Nat) (us':List (List U)) (bs':List (Nat×Nat)) (S':List (List U)->List (Nat×Nat)->Prop),us=u::us'->bs=m0::bs'->SpU P arr r (app e u) S'->S' us' bs'->(∀us2 bs2,S' us2 bs2->S (u::us2) (m0::bs2)) ->
    ((∃u,us[k+1]? = some u/\StepB P arr o (yV us i L e') u m)∨∃V:List U->Prop,o.guard=none/\OpensB P o (yV us i L e') V m.1/\Sub 128 m.2/\(∀(t:Nat) m',k+1<t->bs[t]? = some m'->Sub 128 m'.1) /\
   ∀v,V v->Sub (wrU v) m.2/\∃us' bs',S us' bs'/\(∀t,t<k+1->us'[t]? = us[t]?)/\us'[k+1]? = some v/\us'.length=us.length/\bs'[k+1]? = some m):=fun u m0 us' bs' S' e1 e2 k2 hs' hup=>by
   subst e1;subst e2;have g1:∀(j:Nat) v,us'[j]? = some v->j<k->L.getD (i+1+j) false=false->Disj (wrU v) m.1:=fun j v hj hk hl=>h1 (j+1) v hj (by omega) (by rw[show i+(j+1)=i+1+j by omega];exact hl);have g2:∀(j:Nat) v,us'[j]? = some v->k<=j->L.getD (i+1+j) false=true->Disj (wrU v) m.1:=fun j v hj hk hl=>h2 (j+1) v hj (by omega) (by rw[show i+(j+1)=i+1+j by omega];exact hl);have step:Agree m.1 (app e u) (if L.getD i false=true then app e' u else e'):=by
    split
    ·exact zAP q
    ·rename_i hl;exact (zF5 (h1 0 u rfl (by omega) (by simpa using hl))).trans q
   rcases z0E r us' bs' S' (i+1) k _ _ k2 hs' (by simpa using h) (by simpa using hm) step g1 g2 with⟨u',p1,p2⟩|⟨V,p1,p2,p3,p4,p5⟩
   ·exact .inl ⟨u',by simpa using p1,p2⟩
   ·refine .inr ⟨V,p1,p2,p3,fun t m' ht hm'=>?_,fun v hv=>?_⟩
    ·match t,ht with
     | t+1,ht=>exact p4 t m' (by omega) (by simpa using hm')
    ·obtain⟨r1,us2,bs2,r2,r3,r4,r5,r6⟩:=p5 v hv;refine⟨r1,u::us2,m0::bs2,hup _ _ r2,fun t ht=>?_,by simpa using r4,by simp[r5],by simpa using r6⟩
     match t with
     | 0=>rfl
     | t+1=>simpa using r3 t (by omega)
  rcases ht with⟨u,m0,S',k1,k2,k3⟩|⟨V,m0,S',k1,k2,k3,k4,k5,k6⟩
  ·obtain⟨us',bs',e1,e2,hs'⟩:=(k3 us bs).1 hs;exact go u m0 us' bs' S' e1 e2 k2 hs' fun us2 bs2 h2=>(k3 _ _).2 ⟨us2,bs2,rfl,rfl,h2⟩
  ·obtain⟨v,us',bs',hv,e1,e2,hs'⟩:=(k6 us bs).1 hs;exact go v m0 us' bs' (S' v) e1 e2 (k5 v hv).2.2.2 hs' fun us2 bs2 h2=>(k6 _ _).2 ⟨v,us2,bs2,hv,rfl,rfl,h2⟩
theorem zSJ {S0:List (List U)->List (Nat×Nat)->Prop} (hc:∀us bs,S0 us bs->zIS arr.toList bs) {Q:Exit->Act->World->Prop} {cx:Ctx} (hd:∀o∈arr.toList,∀d,o.dst=some d->d<cx.n) {e0:Env} (ht:SpU P arr arr.toList e0 S0)
  (hQ:∀us bs,S0 us bs->∀g a w,Rel cx g (zAD e0 us) a w->Q .normal a w):∀(fuel:Nat) (L:Array Bool) (us:List (List U)) (bs:List (Nat×Nat)),S0 us bs->∀(g:G) (a:Act) (w:World),L.size=arr.size->left arr L<=fuel ->
   (∀(k:Nat) o,arr.toList[k]? = some o->L.getD k false=true->∀e∈o.after.toList,Region.binds .any e=true->L.getD e.on false=true) ->
   Rel cx g (yV us 0 L e0) a w->wpAny P .any arr Q fuel L a w:=by
 have full:∀us bs,S0 us bs->∀L:Array Bool,L.size=arr.size->Region.ready .any arr L=[]->∀j,j<arr.size->L.getD j false=true:=by
  intro us bs hs L hL hr j;induction j using Nat.strongRecOn with
  | _ j ih =>
   intro hj;cases hl:L.getD j false with
   | true=>rfl
   | false =>
    exfalso;have:j∈Region.ready .any arr L:=by
     rw[mem_ready];have hjL:j<L.size:=by rw[hL];exact hj
     have he:L.getD j true=L.getD j false:=by simp[Array.getD_eq_getD_getElem?,hjL]
     refine⟨by rw[he];exact hl,arr[j],by simp[hj],fun e he hb=>?_⟩;have hoj:arr.toList[j]? = some arr[j]:=by simp[hj]
     have:=(hc us bs hs).back j _ hoj e (by simpa using he) hb;exact ih e.on this (by omega)
    rw[hr] at this;cases this
 have done:∀(L:Array Bool) us bs,S0 us bs->∀(g:G) (a:Act) (w:World),L.size=arr.size->Region.ready .any arr L=[]->Rel cx g (yV us 0 L e0) a w->Q .normal a w:=fun L us bs hs g a w hL hr hR=>by
  have hlen:us.length=arr.size:=by rw[(zHH _ _ _ ht us bs hs).1];simp
  have:=zFD us 0 L e0 fun j hj=>by rw[Nat.zero_add];exact full us bs hs L hL hr j (by rw[<-hlen];exact hj)
  rw[this] at hR;exact hQ us bs hs g a w hR
 intro fuel;induction fuel with
 | zero =>
  intro L us bs hs g a w hL hf hcl hR;have hr:Region.ready .any arr L=[]:=by
   cases hr:Region.ready .any arr L with
   | nil=>rfl
   | cons j r =>
    have hj:j∈Region.ready .any arr L:=by rw[hr];exact List.mem_cons_self
    obtain⟨h1,o,ho,_⟩:=mem_ready.1 hj;have:j∈(List.range arr.size).filter fun i => !L.getD i true:=List.mem_filter.2 ⟨List.mem_range.2 (Array.getElem?_eq_some_iff.1 ho).1,by rw[h1];rfl⟩;have:=List.length_pos_of_mem this;unfold left at hf;omega
  exact⟨hr,done L us bs hs g a w hL hr hR⟩
 | succ fuel ih =>
  intro L us bs hs g a w hL hf hcl hR;refine⟨fun hr=>done L us bs hs g a w hL hr hR,fun j hj=>?_⟩;obtain⟨h1,o,ho,h2⟩:=mem_ready.1 hj;have hjs:=(Array.getElem?_eq_some_iff.1 ho).1;have hjL:j<L.size:=by rw[hL];exact hjs
  have hoj:arr.toList[j]? = some o:=by rw[Array.getElem?_toList];exact ho
  have hlj:L.getD j false=false:=by
   have he:L.getD j true=L.getD j false:=by simp[Array.getD_eq_getD_getElem?,hjL]
   rw[<-he];exact h1
  have hedge:∀e∈o.after.toList,Region.binds .any e=true->L.getD e.on false=true:=fun e he hb=>h2 e (by simpa using he) hb;obtain⟨hlen,hblen,hwr⟩:=zHH _ _ _ ht us bs hs;have hcs:=hc us bs hs;obtain⟨mj,hmj⟩:∃m,bs[j]? = some m:=⟨_,List.getElem?_eq_getElem (by rw[hblen];simpa using hjs)⟩
  have opAt:∀(i:Nat) m,bs[i]? = some m->∃oi,arr.toList[i]? = some oi:=fun i m hi=>by
   have:=(List.getElem?_eq_some_iff.1 hi).1;exact⟨_,List.getElem?_eq_getElem (by rw[<-hblen];exact this)⟩
  have before:∀(i:Nat) v,us[i]? = some v->i<j->L.getD i false=false->Disj (wrU v) mj.1:=fun i v hi hij hl=>by
   obtain⟨mi,hmi,hs⟩:=hwr i v hi;cases hcc:clash mi.1 mi.2 mj.1 mj.2 with
   | true=>have:=hcs.clash i j o mi mj hij hoj hmi hmj hcc L hcl hedge;rw[hl] at this;cases this
   | false=>exact (xI hcc).1.sub hs (Sub.refl _)
  have behind:∀(i:Nat) mi,bs[i]? = some mi->j<i->L.getD i false=true->clash mj.1 mj.2 mi.1 mi.2=false:=fun i mi hmi hij hl=>by
   cases hcc:clash mj.1 mj.2 mi.1 mi.2 with
   | false=>rfl
   | true =>
    obtain⟨oi,hoi⟩:=opAt i mi hmi;have:=hcs.clash j i oi mj mi hij hoi hmj hmi hcc L hcl (fun e he hb=>hcl i oi hoi hl e he hb);rw[hlj] at this;cases this
  have hdo:=hd o (List.mem_of_getElem? hoj);have hnext:∀us2 bs2,S0 us2 bs2->∀g' a' w',Rel cx g' (yV us2 0 (L.setIfInBounds j true) e0) a' w'->wpAny P .any arr Q fuel (L.setIfInBounds j true) a' w':=fun us2 bs2 hs2 g' a' w' hR'=>by
   refine ih _ us2 bs2 hs2 g' a' w' (by simp[hL]) ?_ (fun k ok hk hl e he hb=>?_) hR'
   ·have:left arr (L.setIfInBounds j true)<left arr L:=by
     refine filter_lt (j:=j) (fun i hi=>?_) (List.mem_range.2 hjs) (by rw[h1];rfl) (by simp[hjL]);by_cases hij:j=i
     ·subst hij;simp[hjL] at hi
     ·rw[getD_set_ne true hij] at hi;exact hi
    omega
   ·by_cases hjk:j=k
    ·subst hjk;rw[hoj] at hk;injection hk with hk;subst hk
     exact getD_set_true (hedge e he hb)
    ·rw[getD_set_ne false hjk] at hl;exact getD_set_true (hcl k ok hk hl e he hb)
  unfold wpOp;rw[ho];simp only[];rcases z0E (L:=L) arr.toList us bs S0 0 j e0 e0 ht hs hoj hmj (Agree.refl _ _) (fun i v hi hij hl=>before i v hi hij (by simpa using hl)) (fun i v hi hij hl=>by
   rw[Nat.zero_add] at hl;rcases Nat.eq_or_lt_of_le hij with rfl|hlt
   ·rw[hlj] at hl;cases hl
   ·obtain⟨mi,hmi,hs⟩:=hwr i v hi;exact (xI (behind i mi hmi hlt hl)).2.2.symm.sub hs (Sub.refl _)) with⟨u,hu,hst⟩|⟨V,hg,hop,h128,hbar,hV⟩
  ·have hins:yV us 0 (L.setIfInBounds j true) e0=app (yV us 0 L e0) u:=by
    have:=jR us 0 j L e0 u (by omega) hu (by simpa using hlj) (fun i v hi hij hl=>by
     rw[Nat.zero_add] at hl;obtain⟨mi,hmi,hs⟩:=hwr i v hi;exact (xI (behind i mi hmi hij hl)).2.1.sub hst.1 hs)
    rw[Nat.zero_add] at this;exact this
   rcases hst.2.2 with⟨hw,hr⟩|⟨hw,hu2⟩
   ·rw[if_pos (hw cx g _ a w (Agree.refl _ _) hR)];exact .inl (hr cx _ g a w hdo (Agree.refl _ _) hR _ _ fun g' a' w' hR'=>hnext us bs hs g' a' w' (by rw[hins];exact hR'))
   ·rw[if_neg (by rw[hw cx g _ a w (Agree.refl _ _) hR];simp)];subst hu2;exact hnext us bs hs g _ w (by rw[hins];exact hR.putU hdo (fun d=>(rfl:SlotOk g w d .undef undef)))
  ·rw[if_pos (zQU (arr:=arr) (e:=yV us 0 L e0) hg cx g _ a w (Agree.refl _ _) hR)];refine .inl ?_;have none:∀i,j<i->L.getD i false=true->False:=fun i hij hi=>by
    have hi2:i<arr.size:=by
     rcases Nat.lt_or_ge i arr.size with h|h
     ·exact h
     ·simp[hL,h] at hi
    obtain⟨mi,hmi⟩:∃mi,bs[i]? = some mi:=⟨_,List.getElem?_eq_getElem (by rw[hblen];simpa using hi2)⟩
    have:=behind i mi hmi hij hi;rw[zGE h128 (hbar i mi hij hmi)] at this;cases this
   refine hop cx _ g a w hdo (Agree.refl _ _) hR _ _ fun v hv g' a' w' hR'=>?_;obtain⟨hvw,us2,bs2,hs2,q1,q2,q3,q4⟩:=hV v hv;have same:yV us2 0 L e0=yV us 0 L e0:=zE7 L _ _ 0 e0 q3 fun i hi=>by
    rw[Nat.zero_add] at hi;rcases Nat.lt_trichotomy i j with h|h|h
    ·exact q1 i h
    ·subst h;rw[hlj] at hi;cases hi
    ·exact (none i h hi).elim
   refine hnext us2 bs2 hs2 g' a' w' ?_;have:=jR us2 0 j L e0 v (by omega) q2 (by simpa using hlj) (fun i v hi hij hl=>(none i hij (by simpa using hl)).elim);rw[Nat.zero_add] at this;rw[this,same];exact hR'
def zUD (o:Oper):Nat:=match o.op with
 | .call cl=>zCC cl.args.toList
 | _=>0
def zFR (o:Oper):Nat:=zAX o ||| zUD o
def zDP (o:Oper):Nat:=zE8 o ||| zUD o
theorem zSU {o:Oper}:Sub 128 (zDP o):=Sub.trans zWT Sub.inl
def zNF (P:Program) (OA:Oper->CE->(CE->Prop)->Prop):Prop := ∀(o:Oper) (c:CE) (k:CE->Prop),OA o c k->∃V:List U->Prop,o.guard=none/\(∃v,V v)/\OpensB P o (den c) V (zFR o)/\∀v,V v->Sub (wrU v) (zDP o)/\k (capp c v)
theorem OASpec.two {P:Program} {OA:Oper->CE->(CE->Prop)->Prop} (h:OASpec P OA):zNF P OA:=fun o c k hk=>by
 obtain⟨V,h1,h2,h3,h4⟩:=h o c k hk;exact⟨V,h1,h2,fun cx e' g a w hd hag hR=>h3 cx e' g a w hd (hag.sub Sub.inl) hR,fun v hv=>⟨Sub.trans (h4 v hv).1 Sub.inl,(h4 v hv).2⟩⟩
section
variable (OA:Oper->CE->(CE->Prop)->Prop) (P:Program) (T:TT) (ops:List Oper)
def zJQ (l:List Oper):List Bool->Nat->CE->List (Nat×Nat)->(CE->List (Nat×Nat)->Prop)->Prop:=List.rec (motive:=fun _=>List Bool->Nat->CE->List (Nat×Nat)->(CE->List (Nat×Nat)->Prop)->Prop)
 (fun _ _ c bs k=>match c with|⟨vs,ow,al,h⟩=>k ⟨vs,ow,al,h⟩ bs)
 (fun o _ ih fs fl c bs k=>match c with
  | ⟨vs,ow,al,h⟩=>match fs with
   | true::fs=>OA o ⟨vs,ow,al,h⟩ fun c2=>ih fs 128 c2 (bs++[(zFR o ||| fl,zDP o)]) k
   | false::fs=>cgk ops o ⟨vs,ow,al,h⟩ (fun c=>jM P T ops o c fun c m=>ih fs fl c (bs++[(zY ops o ||| (m.1 ||| fl),m.2)]) k) (fun c=>ih fs fl (capp c (putU o.dst .undef)) (bs++[(zY ops o ||| fl,yI o.dst)]) k)
   | []=>cgk ops o ⟨vs,ow,al,h⟩ (fun c=>jM P T ops o c fun c m=>ih [] fl c (bs++[(zY ops o ||| (m.1 ||| fl),m.2)]) k) (fun c=>ih [] fl (capp c (putU o.dst .undef)) (bs++[(zY ops o ||| fl,yI o.dst)]) k)) l
end
variable {T:TT}
theorem zM1 {OA:Oper->CE->(CE->Prop)->Prop} (hOA:zNF P OA) (hT:zN P T) {k:CE->List (Nat×Nat)->Prop}:∀(r:List Oper) (fs:List Bool) (fl:Nat) (c:CE) (e0:Env) (bs0:List (Nat×Nat)),zJQ OA P T arr.toList r fs fl c bs0 k->EnvEq e0 (den c)->(fl=0∨fl=128) ->
  ∃S,SpU P arr r e0 S/\(∃us bs,S us bs)/\∀us bs,S us bs->(∀m∈bs,Sub fl m.1)/\∃c',k c' (bs0++bs)/\EnvEq (zAD e0 us) (den c')
 | [],fs,fl,c,e0,bs0,h,q,_=>by
  refine⟨fun us bs=>us=[]/\bs=[],fun _ _=>Iff.rfl,⟨[],[],rfl,rfl⟩,?_⟩;rintro us bs ⟨rfl,rfl⟩;refine⟨fun m hm=>by simp at hm,c,?_,q⟩;rw[List.append_nil];cases c;exact h
 | o::r,fs,fl,c,e0,bs0,h,q,hfl0=>by
  classical
  have fin:∀(fs:List Bool) (u:List U) (m:Nat×Nat) (c1:CE),Sub fl m.1->StepB P arr o e0 u m->EnvEq (app e0 u) (den c1)->zJQ OA P T arr.toList r fs fl c1 (bs0++[m]) k ->
    ∃S,SpU P arr (o::r) e0 S/\(∃us bs,S us bs)/\∀us bs,S us bs->(∀m∈bs,Sub fl m.1)/\∃c',k c' (bs0++bs)/\EnvEq (zAD e0 us) (den c'):=fun fs u m c1 hfl hs hq hc=>by
   obtain⟨S,s1,⟨us1,bs1,s2⟩,s3⟩:=zM1 hOA hT r fs fl c1 _ _ hc hq hfl0;refine⟨fun us bs => ∃us' bs',us=u::us'/\bs=m::bs'/\S us' bs',.inl ⟨u,m,S,hs,s1,fun _ _=>Iff.rfl⟩,⟨_,_,us1,bs1,rfl,rfl,s2⟩,?_⟩;rintro us bs ⟨us',bs',rfl,rfl,hs'⟩;obtain⟨p1,c',p2,p3⟩:=s3 us' bs' hs';refine⟨fun m' hm=>?_,c',by rw[List.append_assoc] at p2;exact p2,p3⟩;rcases List.mem_cons.1 hm with rfl|hm
   ·exact hfl
   ·exact p1 m' hm
  have det:∀(fs:List Bool),cgk arr.toList o c (fun c=>jM P T arr.toList o c fun c m=>zJQ OA P T arr.toList r fs fl c (bs0++[(zY arr.toList o ||| (m.1 ||| fl),m.2)]) k) (fun c=>zJQ OA P T arr.toList r fs fl (capp c (putU o.dst .undef)) (bs0++[(zY arr.toList o ||| fl,yI o.dst)]) k) ->
    ∃S,SpU P arr (o::r) e0 S/\(∃us bs,S us bs)/\∀us bs,S us bs->(∀m∈bs,Sub fl m.1)/\∃c',k c' (bs0++bs)/\EnvEq (zAD e0 us) (den c'):=fun fs h'=>by
   obtain⟨c1,t,q1,q2,q3,q4⟩:=jG h';have q01:=q.trans q1;cases t with
   | true =>
    obtain⟨u,m,h1,h2,h3⟩:=zCG (arr:=arr) hT (q3 rfl);exact fin fs u (zY arr.toList o ||| (m.1 ||| fl),m.2) _ (Sub.trans Sub.inr Sub.inr) ⟨h2,Sub.inl,.inl ⟨q2.agree (q01.agree _),(h1.sub (Sub.trans Sub.inl Sub.inr)).agree (q01.agree _)⟩⟩ (by rw[yC];exact q01.app u) h3
   | false =>
    exact fin fs (putU o.dst .undef) (zY arr.toList o ||| fl,yI o.dst) _ Sub.inr ⟨by rw[zZ];exact Sub.refl _,Sub.inl,.inr ⟨q2.agree (q01.agree _),rfl⟩⟩ (by rw[yC];exact q01.app _) (q4 rfl)
  match fs with
  | []=>exact det [] (by cases c;exact h)
  | false::fs=>exact det fs (by cases c;exact h)
  | true::fs =>
   have h':OA o c fun c2=>zJQ OA P T arr.toList r fs 128 c2 (bs0++[(zFR o ||| fl,zDP o)]) k:=by cases c;exact h
   obtain⟨V,hg,hV,hO,hk⟩:=hOA o c _ h';have tr:=fun v (hv:V v)=>zM1 hOA hT r fs 128 _ (app e0 v) _ (hk v hv).2 (by rw[yC];exact q.app v) (.inr rfl);refine⟨fun us bs => ∃v us' bs',V v/\us=v::us'/\bs=(zFR o ||| fl,zDP o)::bs'/\(∃hv:V v,(tr v hv).choose us' bs'),.inr ⟨V,(zFR o ||| fl,zDP o),fun v us bs => ∃hv:V v,(tr v hv).choose us bs,hg,by unfold zY;rw[hg];exact Sub.zero _,fun cx e' g a w hd hag hR=>hO cx e' g a w hd (((q.agree _).symm.trans hag).sub Sub.inl) hR,zSU,fun v hv=>?_,fun _ _=>Iff.rfl⟩,?_,?_⟩
   ·have ts:=(tr v hv).choose_spec;refine⟨(hk v hv).1,let ⟨us,bs,h⟩:=ts.2.1;⟨us,bs,hv,h⟩,fun us bs ⟨_,h⟩=>(ts.2.2 us bs h).1,?_⟩;have:(fun us bs => ∃hv:V v,(tr v hv).choose us bs)=(tr v hv).choose:=by
     funext us bs;exact propext ⟨fun⟨_,h⟩=>h,fun h=>⟨hv,h⟩⟩
    show SpU P arr r (app e0 v) (fun us bs => ∃hv:V v,(tr v hv).choose us bs);rw[this];exact ts.1
   ·obtain⟨v,hv⟩:=hV;obtain⟨us,bs,h⟩:=(tr v hv).choose_spec.2.1;exact⟨_,_,v,us,bs,hv,rfl,rfl,hv,h⟩
   ·rintro us bs ⟨v,us',bs',hv,rfl,rfl,_,h⟩;obtain⟨p1,c',p2,p3⟩:=(tr v hv).choose_spec.2.2 us' bs' h;refine⟨fun m' hm=>?_,c',by rw[List.append_assoc] at p2;exact p2,p3⟩;rcases List.mem_cons.1 hm with rfl|hm2
    ·exact Sub.inr
    ·rcases hfl0 with rfl|rfl
     ·exact Sub.zero _
     ·exact p1 m' hm2
theorem Wsem.regionTA {OA:Oper->CE->(CE->Prop)->Prop} (hOA:zNF P OA) (hT:zN P T) (hm:P.follows .mixedOrders=true) (π:List Nat) (fs:List Bool) {id:Nat} {vs:List (Nat×SV)} {ow:List (Nat×Nat×Nat)} {al:List Nat} {hp:List (Nat×HO)} {n:CE->Prop} {x:Nat->CE->Prop} {r:CE->Prop}
  (hπ:rowOk π arr.toList=true) (h:crf vs fun vs=>zJQ OA P T (yU π arr.toList) (yU π arr.toList) fs 0 ⟨vs,ow,[],hp⟩ [] fun c bs=>zMD (yU π arr.toList) bs=true/\n c):Wsem P (.region id arr true) ⟨vs,ow,al,hp⟩ n x r:=by
 intro cx hyk hk g a w hR;have hrow:=zQT hπ;simp only[zK,List.all_eq_true] at hk;have hd:∀o∈yU π arr.toList,∀d,o.dst=some d->d<cx.n:=fun o ho d hd=>by
  unfold yU at ho;obtain⟨i,hi,hoi⟩:=List.mem_filterMap.1 ho;cases hl:arr.toList[i]? with
  | none=>rw[hl] at hoi;cases hoi
  | some o2 =>
   rw[hl] at hoi;simp only[Option.map_some,Option.some.injEq] at hoi;subst hoi;have:=hk o2 (List.mem_of_getElem? hl);rw[show o2.dst=some d from hd] at this;exact Nat.le_of_ble_eq_true this
 simp only[zEP] at h;obtain⟨g1,hR1⟩:=(hR.grow (Grow.drew w)).refresh;have hce:=yZ ⟨vs,ow,al,hp⟩;have hlist:(yU π arr.toList).toArray.toList=yU π arr.toList:=by simp
 obtain⟨S,s1,⟨us0,bs0,s2⟩,s3⟩:=zM1 (arr:=(yU π arr.toList).toArray) hOA hT (yU π arr.toList) fs 0 _ (Fp.refresh (den ⟨vs,ow,al,hp⟩)) [] (by rw[hlist];exact h) (by rw[hce];exact EnvEq.refl _) (.inl rfl);have hsz:(yU π arr.toList).toArray.size=arr.size:=by simp[zKA hrow]
 have hempty:∀(n k:Nat) (b:Bool),(Array.replicate n false).getD k b=if k<n then false else b:=fun n k b=>by
  by_cases h:k<n<;>simp[Array.getD,h]
 have hn:arr.toList.length=arr.size:=by simp
 refine wp_region_any hm (zWE hrow arr.size _ (Array.replicate arr.size false) a _ (by simp) (by simp) (fun i hi b=>?_) ?_)
 ·have:=zIV (hrow.all i (by rw[hn];exact hi));rw[hrow.len,hn] at this;rw[hempty,if_pos this,hempty,if_pos hi]
 ·refine zSJ (S0:=S) (fun us bs hs=>?_) (by rw[hlist];exact hd) (e0:=Fp.refresh (den ⟨vs,ow,al,hp⟩)) (by rw[hlist];exact s1) (fun us bs hs g a w hR=>?_) arr.size _ us0 bs0 s2 g1 a _ (by rw[hsz];simp) ?_ (fun k o _ hl=>?_) ?_
  ·obtain⟨_,c',⟨hc,_⟩,_⟩:=s3 us bs hs;rw[hlist];exact zE6 hc
  ·obtain⟨_,c',⟨_,h2⟩,h3⟩:=s3 us bs hs;exact⟨c',g,h2,hR.eqv h3⟩
  ·unfold left;exact Nat.le_trans (List.length_filter_le _ _) (by rw[hsz];simp)
  ·rw[hempty] at hl;split at hl<;>cases hl
  ·rw[zBR us0 0 _ _ (fun j=>by rw[hempty];split<;>rfl)];exact hR1
theorem Wsem.regionT (hT:zN P T) (hm:P.follows .mixedOrders=true) (π:List Nat) (fs:List Bool) {id:Nat} {vs:List (Nat×SV)} {ow:List (Nat×Nat×Nat)} {al:List Nat} {hp:List (Nat×HO)} {n:CE->Prop} {x:Nat->CE->Prop} {r:CE->Prop}
  (hπ:rowOk π arr.toList=true) (h:crf vs fun vs=>zJQ (zSV P) P T (yU π arr.toList) (yU π arr.toList) fs 0 ⟨vs,ow,[],hp⟩ [] fun c bs=>zMD (yU π arr.toList) bs=true/\n c):Wsem P (.region id arr true) ⟨vs,ow,al,hp⟩ n x r :=
 Wsem.regionTA (OASpec.two fun _ _ _ h=>zQA h) hT hm π fs hπ h
end
def Sl0 (A:Option Addr) (cap:Nat):Prop:=(A=none/\cap=0)∨(∃a,A=some a/\cap=0)∨∃b off,A=some ⟨b,off,none⟩
theorem Sl0.frz {A:Option Addr} {cap:Nat} {h:List (Nat×HO)} (hs:Sl0 A cap):Frz h (.lit (.slice A 0 cap)) (.sl []):=by
 rcases hs with⟨rfl,rfl⟩|⟨a,rfl,rfl⟩|⟨b,off,rfl⟩
 ·exact .nilL
 ·exact .nilZ a
 ·exact .nilA b off cap
theorem Rep.sl0 {F:Nat->Option Nat} {w:World} {v:Value} (h:Rep F w v (.sl [])):∃A cap,v = .slice A 0 cap/\Sl0 A cap:=by
 cases h with
 | slNil=>exact⟨none,0,rfl,.inl ⟨rfl,rfl⟩⟩
 | slZ a=>exact⟨some a,0,rfl,.inr (.inl ⟨a,rfl,rfl⟩)⟩
 | sl b off n cap sz _ us hn hc=>simp at hn;subst hn;exact⟨_,cap,rfl,.inr (.inr ⟨b,off,rfl⟩)⟩
section
variable {P:Program} {T:TT}
theorem CallsG.lit0 {fv:Value} {args:List AV} {hin:List (Nat×HO)} {post:AV->Nat->List (Nat×HO)->Prop} (hc:CallsG P fv hin args [] fun r o h=>r = .sl []/\o=0/\h=hin) (hp:∀A cap,Sl0 A cap->post (.lit (.slice A 0 cap)) 0 hin):CallsG P fv hin args [] post:=by
 obtain⟨f,first,cap,he,hen,hcalls⟩:=hc;refine⟨f,first,cap,he,hen,fun F w vs h1 h2 h3 h4=>(hcalls F w vs h1 h2 h3 h4).mono fun e w' hpo=>?_⟩;obtain⟨v,r,o,hout,F',rfl,⟨rfl,rfl,rfl⟩,p2,p3,p4,p5,p6,p7,p8⟩:=hpo;obtain⟨A,cp,rfl,hs⟩:=p2.sl0;exact⟨_,_,0,hout,F',rfl,hp A cp hs,.lit _ rfl,fun sz h=>(by cases h),p4,p5,p6,p7,p8⟩
theorem zPM {o:Oper} {e:Env} (hT:zN P T) {t E esz:Nat} (ho:o.op = .buildSlice t 0 #[]) (hf:find T t = .sl E esz) {d:Nat} (hd:o.dst=some d) {k:List U->Prop} (h:∀b,k [.val d (.v (.lit (.slice (some ⟨b,0,none⟩) 0 0))),.clr d,.heap (e.heap++[(b,HO.cells [])])]) :
  ∀cx g a w,(∀d,o.dst=some d->d<cx.n)->Rel cx g e a w->∀(K:Act->World->Prop) (Q:Exit->Act->World->Prop),(∀u g' a' w',k u->Rel cx g' (app e u) a' w'->K a' w')->o.wp P a w K Q:=by
 intro cx g ac w hdn hR K Q hK;have hkk:=find_ok hT t;rw[hf] at hkk;obtain⟨it,i,z,h1,h2,h3,h4,h5,h6,h7,h8,h9,h10,_⟩:=hkk;have hrun:(execOp ac.eval o).run P w = .ok (.value (.slice (some ⟨w.heap.size,0,none⟩) 0 0)) (w.alloc (.cells #[] E)):=by
  unfold execOp;simp only[ho,Instr.buildSlice,Sem.run_bind,run_underlying h1,xO h5,h6,Result.andThen_ok,Sem.run_pure];simp only[Nat.zero_mul,Nat.not_lt_zero,if_false,if_pos];have hr:∀f:Nat->Value,(Array.range 0).map f = #[]:=fun f=>Array.eq_empty_of_size_eq_zero (by simp);simp[Instr.fill,newRow,run_newObj,World.alloc_eq,hr]
 refine zU hrun ?_;rw[hd];have hgr:=Grow.alloc w (.cells #[] E);have hnew:(w.alloc (.cells #[] E)).heap[w.heap.size]? = some (.cells #[] E):=World.heap_alloc_new w _;have h1:=hR.extend hgr (b0:=w.heap.size) (Nat.le_refl _) (zL hnew) (some 0) .obj (fun s q h=>by cases h);have hlt:∀b,b<w.heap.size->b≠w.heap.size:=fun b hb he=>by omega
 have kp:Keeps g.F w (fun b=>if b=w.heap.size then some 0 else g.F b) (w.alloc (.cells #[] E)):=hgr.keeps (fun b hb=>by simp[hlt b hb]);have hold:∀b∈keys e.heap,b<w.heap.size:=fun b hb=>by
  obtain⟨x,hx,rfl⟩:=List.mem_map.1 hb;exact (hR.heap.ok x hx).lt
 have hk:keys (e.heap++[(w.heap.size,HO.cells [])])=keys e.heap++[w.heap.size]:=by simp[keys]
 refine hK _ _ _ _ (h w.heap.size) ((h1.put (hdn d hd) (x := .v (.lit (.slice (some ⟨w.heap.size,0,none⟩) 0 0))) (Rep.lit _ rfl)).heapTo ⟨?_,fun b hb=>?_,fun x hx=>?_⟩ fun b hb=>?_)
 ·rw[hk];refine List.nodup_append.2 ⟨hR.heap.nodup,by simp,?_⟩;rintro a ha b hb rfl;simp at hb;exact hlt a (hold a ha) hb
 ·rw[hk] at hb;rcases List.mem_append.1 hb with hb|hb
  ·simp only[hlt b (hold b hb),if_false];exact hR.heap.shut b hb
  ·simp at hb;simp[hb]
 ·rcases List.mem_append.1 hx with hx|hx
  ·exact (hR.heap.ok x hx).grow kp (fun hb=>hgr.block _ hb)
  ·simp at hx;subst hx;exact⟨#[],E,hnew,rfl,fun j u p hu=>by simp at hu⟩
 ·rw[hk] at hb;rcases List.mem_append.1 hb with hb|hb
  ·simp only[hlt b (hold b hb),if_false];exact hR.heapO b hb
  ·simp at hb;simp[hb]
theorem Wsem.regionB (hT:zN P T) {id:Nat} {arr:Array Oper} {o:Oper} {rest:List Oper} (harr:arr.toList=o::rest) {t E esz:Nat} (hg:o.guard=none) (ho:o.op = .buildSlice t 0 #[]) (hf:find T t = .sl E esz) {d:Nat} (hdd:o.dst=some d)
  {vs:List (Nat×SV)} {ow:List (Nat×Nat×Nat)} {al:List Nat} {hp:List (Nat×HO)}
  {n:CE->Prop} {x:Nat->CE->Prop} {r:CE->Prop} (h:∀b,zFM P T arr.toList rest (capp ⟨vs.map fun p=>(p.1,rfv p.2),ow,[],hp⟩ [.val d (.v (.lit (.slice (some ⟨b,0,none⟩) 0 0))),.clr d,.heap (hp++[(b,HO.cells [])])]) n):Wsem P (.region id arr false) ⟨vs,ow,al,hp⟩ n x r:=by
 intro cx hyk hk g a w hR;simp only[zK,List.all_eq_true] at hk;have hd:∀o∈arr.toList,∀d,o.dst=some d->d<cx.n:=fun o ho d hd=>by
  have:=hk o ho;rw[hd] at this;exact Nat.le_of_ble_eq_true this
 obtain⟨g',hR'⟩:=hR.refresh;have hR2:Rel cx g' (den ⟨vs.map fun p=>(p.1,rfv p.2),ow,[],hp⟩) a w:=by rw[yZ ⟨vs,ow,al,hp⟩];exact hR'
 refine wp_region_list ?_;rw[harr] at hd⊢;unfold wpList;rw[if_pos (by simp[Region.wanted,hg])];refine .inl (zPM hT ho hf hdd (k:=fun u => ∃b,u=[.val d (.v (.lit (.slice (some ⟨b,0,none⟩) 0 0))),.clr d,.heap (hp++[(b,HO.cells [])])]) (fun b=>⟨b,rfl⟩) cx g' a w (hd o List.mem_cons_self) hR2 _ _ fun u g2 a2 w2 ⟨b,hu⟩ hR3=>?_);subst hu;rw[<-yC] at hR3;exact qF hT hyk (fun c g a w h1 h2=>⟨c,g,h1,h2⟩) rest _ g2 a2 w2 (fun o' ho'=>hd o' (List.mem_cons_of_mem _ ho')) (h b) hR3
end
theorem z1B {cx:Ctx} {g:G} {e:Env} {a:Act} {w:World} (h:Rel cx g e a w) {s q off:Nat} {l:List AV} (hx:e.vals s = .box q (.agg l)) (hl:l[off]? = some .nil) :
  Rel cx g (app e [.val s (.box q (.agg (l.set off (.lit (.slice none 0 0)))))]) a w:=by
 have hd:∀t,t≠s->(app e [.val s (.box q (.agg (l.set off (.lit (.slice none 0 0)))))]).vals t=e.vals t:=fun t ht=>yQ _ _ ht;have hs:(app e [.val s (.box q (.agg (l.set off (.lit (.slice none 0 0)))))]).vals s = .box q (.agg (l.set off (.lit (.slice none 0 0)))):=zW _ _ _;refine {h with slots:=fun t=>?_,own:=fun t c sz v ho hp=>?_}
 ·by_cases ht:t=s
  ·subst ht;have h1:=h.slots t;rw[hx] at h1;rw[hs];obtain⟨b,cs,E,k1,k2,k3,k4,k5,k6⟩:=h1;refine⟨b,cs,E,k1,k2,k3,k4,k5,?_,fun j u c hu hc=>?_⟩
   ·rw[k6.1];simp[AV.cells]
   ·simp only[AV.cells] at hc;by_cases hj:off=j
    ·subst hj;rw[List.getElem?_set_self (List.getElem?_eq_some_iff.1 hl).1] at hc;injection hc with hc;subst hc
     have:=(k6.2 off u .nil hu hl).1.nil_eq;subst this;exact⟨.lit _ rfl,rfl⟩
    ·rw[List.getElem?_set_ne hj] at hc;exact k6.2 j u c hu hc
  ·rw[hd t ht];exact h.slots t
 ·refine h.own t c sz v ho ?_;by_cases ht:t=s
  ·subst ht;rw[hs] at hp;rw[hx];exact hp
  ·rw[hd t ht] at hp;exact hp
theorem Wsem.nilBox {P:Program} {p:Code} {c:CE} {n:CE->Prop} {x:Nat->CE->Prop} {r:CE->Prop} (s off:Nat) {q:Nat} {l:List AV} (hx:yA c.vs s = .box q (.agg l)) (hl:l[off]? = some .nil)
  (h:Wsem P p (capp c [.val s (.box q (.agg (l.set off (.lit (.slice none 0 0)))))]) n x r):Wsem P p c n x r:=by
 intro cx hyk hk g a w hR;refine h cx hyk hk g a w ?_;rw[yC];exact z1B hR hx hl
section
variable {P:Program}
end
section
variable {P:Program} {arr:Array Oper}
section
variable (OA:Oper->CE->(CE->Prop)->Prop) (P:Program) (T:TT) (ops:List Oper)
end
variable {T:TT}
end
open Go Go.ChangeShapes Go.WideShapes Go.RowKit
section
variable {H:Type} {enc:TypeId×Value->H} {P:Program}
end
section
variable {P:Program} {T:TT}
end
end Fp
