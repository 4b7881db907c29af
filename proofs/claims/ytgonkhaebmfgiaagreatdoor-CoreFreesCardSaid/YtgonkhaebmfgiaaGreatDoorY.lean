/- Core without names, as a text: what it says. Plain. No condition. -/
import Derived.Test.YtgonkhaebmfgiaaGreatDoorX
set_option linter.unusedSimpArgs false
set_option linter.unusedVariables false
namespace Go.Proofs.YtgonkhaebmfgiaaGreatDoor
open Go Fp
set_option maxRecDepth 10000
set_option maxHeartbeats 4000000
set_option linter.unusedVariables false
def dci (n:Int):ByteArray:=if 0<=n then dcm n.toNat else ⟨#[45]⟩++dcm (-n).toNat
def tw (c:UInt8):Bool:=tk c || c == 45 || c == 64
theorem z0F {c:UInt8} (h:tk c=true):tw c=true:=by simp[tw,h]
theorem zQH (n:Int):∀c∈by' (dci n),tw c=true:=by
 intro c hc;unfold dci at hc;split at hc
 ·exact z0F (zA8 _ c hc)
 ·rw[xJ] at hc;rcases List.mem_append.1 hc with hc|hc
  ·rw[List.mem_singleton.1 (show c∈[45] from hc)];decide
  ·exact z0F (zA8 _ c hc)
theorem zbA (n:Nat):∃c l,by' (dcm n)=c::l/\tk c=true:=by
 have h:=zA8 n;cases hb:by' (dcm n) with
 | nil =>
  exfalso;by_cases h10:n<10
  ·rw[wQ h10] at hb;cases hb
  ·rw[zDX h10,xJ] at hb;have:=congrArg List.length hb;simp at this
 | cons c l=>exact⟨c,l,rfl,h c (by rw[hb];simp)⟩
theorem zXX {a b:Int} (h:by' (dci a)=by' (dci b)):a=b:=by
 have mix:∀{x y:Nat},by' (dcm x)≠by' (⟨#[45]⟩++dcm y):=fun {x y} h=>by
  obtain⟨c,l,h1,h2⟩:=zbA x;rw[h1,xJ] at h;have:c=45:=by
   have h:c::l=45::by' (dcm y):=h
   injection h
  rw[this] at h2;exact absurd h2 (by decide)
 unfold dci at h;split at h<;>split at h
 ·have:=zFE h;omega
 ·exact absurd h mix
 ·exact absurd h.symm mix
 ·rw[xJ,xJ] at h;have:=zFE (List.append_cancel_left h);omega
def Endw (r:List UInt8):Prop := ∀c,r[0]? = some c->tw c=false
theorem wS {c:UInt8} {r:List UInt8} (h:tw c=false):Endw (c::r):=fun d hd=>by simp at hd;subst hd;exact h
theorem Endw.ends {r:List UInt8} (h:Endw r):Ends r:=fun c hc=>by
 have:=h c hc;cases ht:tk c with
 | false=>rfl
 | true=>rw[z0F ht] at this;cases this
theorem wordw:∀{l m r q:List UInt8},(∀c∈l,tw c=true)->(∀c∈m,tw c=true)->Endw r->Endw q->l++r=m++q->l=m/\r=q
 | [],[],r,q,_,_,_,_,h=>⟨rfl,h⟩
 | [],c::m,r,q,_,hm,hr,_,h=>by
  have h:r=c::(m++q):=h;subst h;have:=hr c (by simp);rw[hm c (by simp)] at this;cases this
 | c::l,[],r,q,hl,_,_,hq,h=>by
  have h:c::(l++r)=q:=h;subst h;have:=hq c (by simp);rw[hl c (by simp)] at this;cases this
 | c::l,d::m,r,q,hl,hm,hr,hq,h=>by
  simp only[List.cons_append,List.cons.injEq] at h;obtain⟨rfl,h⟩:=h;obtain⟨rfl,h2⟩:=wordw (fun x hx=>hl x (by simp[hx])) (fun x hx=>hm x (by simp[hx])) hr hq h;exact⟨rfl,h2⟩
def zCV:Db->List UInt8
 | .no=>[]
 | t=>58::ser t
def zW:DC->List UInt8
 | .nil=>[]
 | .bv i=>40::(by' (dci 1)++32::(by' (dci 0)++32::35::(by' (dcm i)++[41])))
 | .fr s=>40::(by' (dci 1)++32::(by' (dci 0)++32::39::(by' s++[41])))
 | .node f n s t g=>40::(by' (dci f)++32::(by' (dci n)++32::(by' s++(zCV t++(zW g++[41])))))
 | .kid p r=>zW p++zW r
 | .bind t p r=>61::(ser t++(zW p++zW r))
 | .alt f n s k p r=>124::(by' (dci f)++32::(by' (dci n)++32::(by' s++32::(by' (dcm k)++(zW p++zW r)))))
def isD:DC->Bool
 | .bv _=>true
 | .fr _=>true
 | .node _ _ _ _ _=>true
 | _=>false
def Wd (s:ByteArray):Prop := ∀c∈by' s,tw c=true
def Vc:DC->Prop
 | .nil=>True
 | .bv _=>True
 | .fr s=>Wd s
 | .node f _ s t g=>f≠1/\Wd s/\(t = .no∨Vd t)/\isD g=false/\Vc g
 | .kid p r=>isD p=true/\isD r=false/\Vc p/\Vc r
 | .bind t p r=>Vd t/\isD p=true/\isD r=false/\Vc p/\Vc r
 | .alt _ _ s _ p r=>Wd s/\isD p=true/\isD r=false/\Vc p/\Vc r
theorem qM (d:DC) (h:isD d=true):∃l,zW d=40::l:=by
 cases d with
 | bv i=>exact⟨_,rfl⟩
 | fr s=>exact⟨_,rfl⟩
 | node f n s t g=>exact⟨_,rfl⟩
 | _=>cases h
def At (r:List UInt8):Prop := ∃c l,r=c::l/\(c=40∨c=41∨c=61∨c=124)
theorem At.endw {r:List UInt8} (h:At r):Endw r:=by
 obtain⟨c,l,rfl,h⟩:=h;exact wS (by rcases h with rfl|rfl|rfl|rfl<;>decide)
theorem zXQ (d:DC) (h:isD d=false) (hv:Vc d) (r:List UInt8):At (zW d++41::r):=by
 cases d with
 | nil=>exact⟨_,_,rfl,.inr (.inl rfl)⟩
 | kid p q =>
  obtain⟨l,hl⟩:=qM p hv.1;simp only[zW,hl,List.cons_append];exact⟨_,_,rfl,.inl rfl⟩
 | bind t p q=>exact⟨_,_,rfl,.inr (.inr (.inl rfl))⟩
 | alt f n s k p q=>exact⟨_,_,rfl,.inr (.inr (.inr rfl))⟩
 | _=>cases h
theorem z2X {t u:Db} {r q:List UInt8} (ht:t = .no∨Vd t) (hu:u = .no∨Vd u) (hr:At r) (hq:At q) (h:zCV t++r=zCV u++q):t=u/\r=q:=by
 have no:∀{u:Db} {r q:List UInt8},At r->u≠.no->r≠zCV u++q:=fun {u r q} hr hu h=>by
  obtain⟨c,l,rfl,hc⟩:=hr;have e:zCV u=58::ser u:=by cases u<;>first|rfl|exact absurd rfl hu
  rw[e] at h;simp only[List.cons_append,List.cons.injEq] at h;rw[h.1] at hc;exact absurd hc (by decide)
 by_cases h1:t = .no
 ·by_cases h2:u = .no
  ·subst h1;subst h2;exact⟨rfl,h⟩
  ·subst h1;exact absurd h (no hr h2)
 ·by_cases h2:u = .no
  ·subst h2;exact absurd h.symm (no hq h1)
  ·have e:∀{u:Db},u≠.no->zCV u=58::ser u:=fun {u} hu=>by cases u<;>first|rfl|exact absurd rfl hu
   rw[e h1,e h2] at h;simp only[List.cons_append,List.cons.injEq,true_and] at h;exact zXY t u r q (ht.resolve_left h1) (hu.resolve_left h2) hr.endw.ends hq.endw.ends h
theorem zK4 {f:Int} {r q:List UInt8} (h:by' (dci 1)++32::r=by' (dci f)++32::q):f=1/\r=q:=by
 obtain⟨h1,h2⟩:=wordw (zQH _) (zQH _) (wS (by decide)) (wS (by decide)) h;exact⟨(zXX h1).symm,by simpa using h2⟩
theorem zA9 {a b:Int} {r q:List UInt8} (h:by' (dci a)++32::r=by' (dci b)++32::q):a=b/\r=q:=by
 obtain⟨h1,h2⟩:=wordw (zQH _) (zQH _) (wS (by decide)) (wS (by decide)) h;exact⟨zXX h1,by simpa using h2⟩
theorem z4I (d:DC):(isD d=true->∀e,isD e=true->Vc d->Vc e->∀r q,zW d++r=zW e++q->d=e/\r=q) /\
  (isD d=false->∀e,isD e=false->Vc d->Vc e->∀r q,zW d++41::r=zW e++41::q->d=e/\r=q):=by
 have nilE:∀{e:DC} {r q:List UInt8},isD e=false->Vc e->(41:UInt8)::r=zW e++41::q->e = .nil/\r=q:=fun {e r q} he hv h=>by
  cases e with
  | nil=>exact⟨rfl,by simpa[zW] using h⟩
  | kid p x =>
   obtain⟨l,hl⟩:=qM p hv.1;simp[zW,hl] at h
  | bind t p x=>simp[zW] at h
  | alt f n s k p x=>simp[zW] at h
  | _=>cases he
 induction d with
 | nil =>
  refine⟨fun h=>(by cases h),fun _ e he _ hv r q h=>?_⟩;obtain⟨h1,h2⟩:=nilE he hv h;exact⟨h1.symm,h2⟩
 | bv i =>
  refine⟨fun _ e he hd hv r q h=>?_,fun h=>by cases h⟩;cases e with
  | bv j =>
   simp only[zW,List.cons_append,List.append_assoc,List.nil_append,List.cons.injEq,true_and] at h;obtain⟨_,k1⟩:=zA9 h;obtain⟨_,k2⟩:=zA9 k1;simp only[List.cons.injEq,true_and] at k2;obtain⟨h1,h2⟩:=word (zA8 _) (zA8 _) (wR (by decide)) (wR (by decide)) k2;exact⟨by rw[zFE h1],by simpa using h2⟩
  | fr s =>
   simp only[zW,List.cons_append,List.append_assoc,List.nil_append,List.cons.injEq,true_and] at h;obtain⟨_,k1⟩:=zA9 h;obtain⟨_,k2⟩:=zA9 k1;simp at k2
  | node f n s t g =>
   simp only[zW,List.cons_append,List.append_assoc,List.nil_append,List.cons.injEq,true_and] at h;exact absurd (zK4 h).1 hv.1
  | _=>cases he
 | fr s =>
  refine⟨fun _ e he hd hv r q h=>?_,fun h=>by cases h⟩;cases e with
  | bv j =>
   simp only[zW,List.cons_append,List.append_assoc,List.nil_append,List.cons.injEq,true_and] at h;obtain⟨_,k1⟩:=zA9 h;obtain⟨_,k2⟩:=zA9 k1;simp at k2
  | fr u =>
   simp only[zW,List.cons_append,List.append_assoc,List.nil_append,List.cons.injEq,true_and] at h;obtain⟨_,k1⟩:=zA9 h;obtain⟨_,k2⟩:=zA9 k1;simp only[List.cons.injEq,true_and] at k2;obtain⟨h1,h2⟩:=wordw hd hv (wS (by decide)) (wS (by decide)) k2;exact⟨by rw[jO h1],by simpa using h2⟩
  | node f n s t g =>
   simp only[zW,List.cons_append,List.append_assoc,List.nil_append,List.cons.injEq,true_and] at h;exact absurd (zK4 h).1 hv.1
  | _=>cases he
 | node f n s t g ih =>
  refine⟨fun _ e he hd hv r q h=>?_,fun h=>by cases h⟩;cases e with
  | bv j =>
   simp only[zW,List.cons_append,List.append_assoc,List.nil_append,List.cons.injEq,true_and] at h;exact absurd (zK4 h.symm).1 hd.1
  | fr u =>
   simp only[zW,List.cons_append,List.append_assoc,List.nil_append,List.cons.injEq,true_and] at h;exact absurd (zK4 h.symm).1 hd.1
  | node f' n' s' t' g' =>
   simp only[zW,List.cons_append,List.append_assoc,List.nil_append,List.cons.injEq,true_and] at h;obtain⟨ef,k1⟩:=zA9 h;obtain⟨en,k2⟩:=zA9 k1;subst ef;subst en;obtain⟨_,w1,t1,g1,v1⟩:=hd;obtain⟨_,w2,t2,g2,v2⟩:=hv;have a1:=zXQ g g1 v1 r;have a2:=zXQ g' g2 v2 q;have tw:∀{t:Db} {x:List UInt8},At x->Endw (zCV t++x):=fun {t x} hx=>by
    by_cases ht:t = .no
    ·subst ht;exact hx.endw
    ·have e:zCV t=58::ser t:=by cases t<;>first|rfl|exact absurd rfl ht
     rw[e];exact wS (by decide)
   obtain⟨h1,k3⟩:=wordw w1 w2 (tw a1) (tw a2) k2;obtain⟨rfl,k4⟩:=z2X t1 t2 a1 a2 k3;obtain⟨rfl,k5⟩:=ih.2 g1 g' g2 v1 v2 r q k4;exact⟨by rw[jO h1],k5⟩
  | _=>cases he
 | kid p x ihp ihx =>
  refine⟨fun h=>(by cases h),fun _ e he hd hv r q h=>?_⟩;obtain⟨d1,d2,d3,d4⟩:=hd;cases e with
  | nil=>obtain⟨l,hl⟩:=qM p d1;simp[zW,hl] at h
  | kid p' x' =>
   obtain⟨e1,e2,e3,e4⟩:=hv;simp only[zW,List.append_assoc] at h;obtain⟨rfl,k1⟩:=ihp.1 d1 p' e1 d3 e3 _ _ h;obtain⟨rfl,k2⟩:=ihx.2 d2 x' e2 d4 e4 _ _ k1;exact⟨rfl,k2⟩
  | bind t p' x'=>obtain⟨l,hl⟩:=qM p d1;simp[zW,hl] at h
  | alt f n s k p' x'=>obtain⟨l,hl⟩:=qM p d1;simp[zW,hl] at h
  | _=>cases he
 | bind t p x ihp ihx =>
  refine⟨fun h=>(by cases h),fun _ e he hd hv r q h=>?_⟩;obtain⟨d0,d1,d2,d3,d4⟩:=hd;cases e with
  | nil=>simp[zW] at h
  | kid p' x'=>obtain⟨l,hl⟩:=qM p' hv.1;simp[zW,hl] at h
  | bind t' p' x' =>
   obtain⟨e0,e1,e2,e3,e4⟩:=hv;simp only[zW,List.cons_append,List.append_assoc,List.nil_append,List.cons.injEq,true_and] at h;have en:∀{p:DC} {l:List UInt8},isD p=true->Ends (zW p++l):=fun {p l} hp=>by
    obtain⟨m,hm⟩:=qM p hp;rw[hm];exact wR (by decide)
   obtain⟨rfl,k1⟩:=zXY t t' _ _ d0 e0 (en d1) (en e1) h;obtain⟨rfl,k2⟩:=ihp.1 d1 p' e1 d3 e3 _ _ k1;obtain⟨rfl,k3⟩:=ihx.2 d2 x' e2 d4 e4 _ _ k2;exact⟨rfl,k3⟩
  | alt f n s k p' x'=>simp[zW] at h
  | _=>cases he
 | alt f n s k p x ihp ihx =>
  refine⟨fun h=>(by cases h),fun _ e he hd hv r q h=>?_⟩;obtain⟨d0,d1,d2,d3,d4⟩:=hd;cases e with
  | nil=>simp[zW] at h
  | kid p' x'=>obtain⟨l,hl⟩:=qM p' hv.1;simp[zW,hl] at h
  | bind t' p' x'=>simp[zW] at h
  | alt f' n' s' k' p' x' =>
   obtain⟨e0,e1,e2,e3,e4⟩:=hv;simp only[zW,List.cons_append,List.append_assoc,List.nil_append,List.cons.injEq,true_and] at h;obtain⟨ef,k1⟩:=zA9 h;obtain⟨en,k2⟩:=zA9 k1;subst ef;subst en;obtain⟨h1,k3⟩:=wordw d0 e0 (wS (by decide)) (wS (by decide)) k2;simp only[List.cons.injEq,true_and] at k3;have en:∀{p:DC} {l:List UInt8},isD p=true->Ends (zW p++l):=fun {p l} hp=>by
    obtain⟨m,hm⟩:=qM p hp;rw[hm];exact wR (by decide)
   obtain⟨h2,k4⟩:=word (zA8 _) (zA8 _) (en d1) (en e1) k3;obtain⟨rfl,k5⟩:=ihp.1 d1 p' e1 d3 e3 _ _ k4;obtain⟨rfl,k6⟩:=ihx.2 d2 x' e2 d4 e4 _ _ k5;exact⟨by rw[jO h1,zFE h2],k6⟩
  | _=>cases he
theorem zAT (c:Cr) (e d:List ByteArray):isD (dbc c e d)=c.isN:=by
 cases c with
 | node f n s t g =>
  simp only[dbc];split
  ·split<;>rfl
  ·rfl
 | _=>rfl
theorem zLF {s:ByteArray} (h:s∈W18):Wd s/\s.size<=5:=by
 have:W18.all (fun s=>s.data.toList.all tw && decide (s.size<=5))=true:=by decide
 have:=List.all_eq_true.1 this s h;simp only[Bool.and_eq_true,decide_eq_true_eq] at this;exact⟨fun c hc=>List.all_eq_true.1 this.1 c hc,this.2⟩
theorem z4K:Wd .empty:=fun c hc=>by cases hc
theorem zaM (c:Cr):∀(e d:List ByteArray),c.Ok->c.Pk->c.LowC 2000->Vc (dbc c e d):=by
 induction c with
 | nil=>exact fun _ _ _ _ _=>trivial
 | node f n s t g ih =>
  intro e d ho hp hl;obtain⟨h1,h2⟩:=zO ho;simp only[dbc];split
  ·split
   ·trivial
   ·exact (zLF hp.2.2.1).1
  ·rename_i hf;refine⟨hf,?_,?_,by rw[zAT];exact h1,ih _ _ h2 hp.2.2.2.2 hl.2⟩
   ·split
    ·exact z4K
    ·exact (zLF hp.2.2.1).1
   ·rcases hp.2.2.2.1 with hg|⟨rfl,_⟩
    ·exact .inr (z0K t _ hl.1 (zDV hg))
    ·exact .inl rfl
 | kid p r ihp ihr =>
  intro e d ho hp hl;exact⟨by rw[zAT];exact ho.1,by rw[zAT];exact ho.2.1,ihp _ _ ho.2.2.1 hp.1 hl.1,ihr _ _ ho.2.2.2 hp.2 hl.2⟩
 | bind x t p r ihp ihr =>
  intro e d ho hp hl;exact⟨z0K t _ hl.1 (zDV hp.2.1),by rw[zAT];exact ho.1,by rw[zAT];exact ho.2.1,ihp _ _ ho.2.2.2.1 hp.2.2.1 hl.2.1,ihr _ _ ho.2.2.2.2 hp.2.2.2 hl.2.2⟩
 | alt f n s vs p r ihp ihr =>
  intro e d ho hp hl;exact⟨(zLF hp.2.2.1).1,by rw[zAT];exact ho.1,by rw[zAT];exact ho.2.1,ihp _ _ ho.2.2.2.2.2.1 hp.2.2.2.2.1 hl.1,ihr _ _ ho.2.2.2.2.2.2 hp.2.2.2.2.2 hl.2⟩
theorem z90 {τ:ByteArray->Db} (hτ:∀y,(∀c∈by' y,tk c=true)->Vd (τ y)) (t:Db):Vd t->Vd (sb τ t):=by
 induction t with
 | fr s=>exact fun h=>hτ s h
 | all a ih=>exact fun h=>ih h
 | app a b iha ihb=>exact fun h=>⟨iha h.1,ihb h.2⟩
 | _=>exact fun h=>h
theorem zD6 {σ:ByteArray->DC} {τ:ByteArray->Db} (hσ:∀y,isD (σ y)=true) (d:DC):isD (sbD σ τ d)=isD d:=by
 cases d with
 | fr s=>exact hσ s
 | _=>rfl
theorem z2H {σ:ByteArray->DC} {τ:ByteArray->Db} (hi:∀y,isD (σ y)=true) (hσ:∀y,Wd y->Vc (σ y)) (hτ:∀y,(∀c∈by' y,tk c=true)->Vd (τ y)) (d:DC):Vc d->Vc (sbD σ τ d):=by
 induction d with
 | fr s=>exact fun h=>hσ s h
 | node f n s t g ih =>
  refine fun h=>⟨h.1,h.2.1,?_,by rw[zD6 hi];exact h.2.2.2.1,ih h.2.2.2.2⟩
  rcases h.2.2.1 with rfl|h
  ·exact .inl rfl
  ·exact .inr (z90 hτ t h)
 | kid p r ihp ihr=>exact fun h=>⟨by rw[zD6 hi];exact h.1,by rw[zD6 hi];exact h.2.1,ihp h.2.2.1,ihr h.2.2.2⟩
 | bind t p r ihp ihr=>exact fun h=>⟨z90 hτ t h.1,by rw[zD6 hi];exact h.2.1,by rw[zD6 hi];exact h.2.2.1,ihp h.2.2.2.1,ihr h.2.2.2.2⟩
 | alt f n s k p r ihp ihr=>exact fun h=>⟨h.1,by rw[zD6 hi];exact h.2.1,by rw[zD6 hi];exact h.2.2.1,ihp h.2.2.2.1,ihr h.2.2.2.2⟩
 | _=>exact fun h=>h
theorem z4F {τ:ByteArray->Db} {M:Nat} (hM:1<=M) (hτ:∀y,(ser (τ y)).length<=(ser (.fr y)).length*M) (t:Db):(ser (sb τ t)).length<=(ser t).length*M:=by
 have up:∀n:Nat,n<=n*M:=fun n=>Nat.le_mul_of_pos_right n hM;induction t with
 | fr s =>
  exact hτ s
 | all a ih =>
  show (91::(ser (sb τ a)++[93])).length<=(91::(ser a++[93])).length*M;simp only[List.length_cons,List.length_append,List.length_nil,Nat.add_mul];omega
 | app a b iha ihb =>
  show (40::(ser (sb τ a)++32::(ser (sb τ b)++[41]))).length<=(40::(ser a++32::(ser b++[41]))).length*M;simp only[List.length_cons,List.length_append,List.length_nil,Nat.add_mul];omega
 | _=>exact up _
theorem zXR (t:Db):(zCV t).length<=1+(ser t).length:=by
 cases t<;>simp[zCV]<;>omega
theorem z6G {t:Db} (h:t≠.no):(zCV t).length=1+(ser t).length:=by
 cases t<;>first|exact absurd rfl h|(simp[zCV];omega)
theorem zXZ {σ:ByteArray->DC} {τ:ByteArray->Db} {M:Nat} (hM:1<=M) (hσ:∀y,(zW (σ y)).length<=(zW (.fr y)).length*M) (hτ:∀y,(ser (τ y)).length<=(ser (.fr y)).length*M) (d:DC):(zW (sbD σ τ d)).length<=(zW d).length*M:=by
 have up:∀n:Nat,n<=n*M:=fun n=>Nat.le_mul_of_pos_right n hM;induction d with
 | nil=>exact Nat.zero_le _
 | bv i=>exact up _
 | fr s =>
  exact hσ s
 | node f n s t g ih =>
  have ht:(zCV (sb τ t)).length<=(zCV t).length*M:=by
   by_cases h:t = .no
   ·subst h;exact Nat.zero_le _
   ·rw[z6G h];have h1:=zXR (sb τ t);have h2:=z4F hM hτ t;rw[Nat.add_mul];omega
  have u1:=up (by' (dci f)).length;have u2:=up (by' (dci n)).length;have u3:=up (by' s).length;simp only[sbD,zW,List.length_cons,List.length_append,List.length_nil,Nat.add_mul] at ht⊢;omega
 | kid p r ihp ihr=>simp only[sbD,zW,List.length_append,Nat.add_mul];omega
 | bind t p r ihp ihr =>
  have h2:=z4F hM hτ t;simp only[sbD,zW,List.length_cons,List.length_append,Nat.add_mul];omega
 | alt f n s k p r ihp ihr =>
  have u1:=up (by' (dci f)).length;have u2:=up (by' (dci n)).length;have u3:=up (by' s).length;have u4:=up (by' (dcm k)).length;simp only[sbD,zW,List.length_cons,List.length_append,Nat.add_mul];omega
theorem zPO (s:ByteArray):(by' s).length=s.size:=rfl
theorem zCB {n:Int} (h1 : -1000000<n) (h2:n<1000000):(by' (dci n)).length<=7:=by
 unfold dci;split
 ·have:=wE 6 n.toNat (by omega) (by decide);rw[zPO];omega
 ·have:=wE 6 (-n).toNat (by omega) (by decide);rw[xJ,List.length_append,zPO (dcm _)];simp only[by',List.length_cons,List.length_nil];omega
theorem zQ7 {t:Tp} (hl:LowT 2000 t) (hn:Nm t) (d:List ByteArray) (h:d.length+t.sz<=1000000):(ser (db t d)).length<=20*t.sz:=by
 have h1:=z5S t d.reverse;rw[List.reverse_reverse] at h1;have h2:=z7M (K:=2000) (by decide) t d.reverse hl hn (by rw[List.length_reverse];exact h);have h3:=congrArg List.length h1;rw[zPO] at h3;omega
theorem z3U (c:Cr):∀(e d:List ByteArray),c.Ok->c.Pk->c.LowC 2000->c.wt<=400000->e.length+d.length+dpC c<=500000->(zW (dbc c e d)).length<=60*c.wt:=by
 induction c with
 | nil=>exact fun _ _ _ _ _ _ _=>Nat.zero_le _
 | node f n s t g ih =>
  intro e d ho hp hl hw hle;obtain⟨h1,h2⟩:=zO ho;have hs:=zLF hp.2.2.1;have hss:(by' s).length<=5:=hs.2;have hf:=zCB (n:=f) (by have:=hp.1;omega) (by have:=hp.1;omega);have hn:=zCB (n:=n) (by have:=hp.2.1;omega) (by have:=hp.2.1;omega);have d1:=zCB (n:=1) (by decide) (by decide);have d0:=zCB (n:=0) (by decide) (by decide);simp only[Cr.wt,dpC] at hw hle⊢;simp only[dbc];split
  ·split
   ·rename_i hm;have hi:=zJS (memb_iff.1 hm);have:=wE 7 (ixN e s) (by omega) (by decide);have:(by' (dcm (ixN e s))).length<=7:=this;simp only[zW,List.length_cons,List.length_append,List.length_nil];omega
   ·simp only[zW,List.length_cons,List.length_append,List.length_nil];omega
  ·have hnm:(Cr.node f n s t g).names0.length+(if f=7 then s::d else d).length<=d.length+(if f=5∨f=7 then 1 else 0)+g.binds.length:=by
    show ((if f=5 then [s] else [])++g.binds.map (·.1)).length+_<=_;rw[List.length_append,List.length_map];by_cases h5:f=5
    ·subst h5;simp;omega
    ·by_cases h7:f=7
     ·subst h7;simp;omega
     ·rw[if_neg h5,if_neg h7,if_neg (fun h=>h.elim h5 h7)];simp;omega
   have key:=ih ((Cr.node f n s t g).names0.reverse++e) (if f=7 then s::d else d) h2 hp.2.2.2.2 hl.2 (by omega) (by rw[List.length_append,List.length_reverse];omega);have hst:(by' (if f=5∨f=7 then .empty else s)).length<=5:=by
    split
    ·exact Nat.zero_le _
    ·exact hss
   have hT:=zXR (db t (if f=7 then s::d else d));have hT2:(ser (db t (if f=7 then s::d else d))).length<=20*t.sz:=by
    rcases hp.2.2.2.1 with hg|⟨rfl,_⟩
    ·exact zQ7 hl.1 (zDV hg) _ (by omega)
    ·exact Nat.zero_le _
   simp only[zW,List.length_cons,List.length_append,List.length_nil];omega
 | kid p r ihp ihr =>
  intro e d ho hp hl hw hle;simp only[Cr.wt,dpC] at hw hle⊢;have i1:=ihp e d ho.2.2.1 hp.1 hl.1 (by omega) (by omega);have i2:=ihr e d ho.2.2.2 hp.2 hl.2 (by omega) (by omega);simp only[dbc,zW,List.length_append];omega
 | bind x t p r ihp ihr =>
  intro e d ho hp hl hw hle;simp only[Cr.wt,dpC] at hw hle⊢;have i1:=ihp e d ho.2.2.2.1 hp.2.2.1 hl.2.1 (by omega) (by omega);have i2:=ihr e d ho.2.2.2.2 hp.2.2.2 hl.2.2 (by omega) (by omega);have i3:=zQ7 hl.1 (zDV hp.2.1) d (by omega);simp only[dbc,zW,List.length_cons,List.length_append];omega
 | alt f n s vs p r ihp ihr =>
  intro e d ho hp hl hw hle;simp only[Cr.wt,dpC] at hw hle⊢;have i1:=ihp (vs.reverse++e) d ho.2.2.2.2.2.1 hp.2.2.2.2.1 hl.1 (by omega) (by rw[List.length_append,List.length_reverse];omega);have i2:=ihr e d ho.2.2.2.2.2.2 hp.2.2.2.2.2 hl.2 (by omega) (by omega);have hs:=zLF hp.2.2.1;have hss:(by' s).length<=5:=hs.2;have hf:=zCB (n:=f) (by have:=hp.1;omega) (by have:=hp.1;omega);have hn:=zCB (n:=n) (by have:=hp.2.1;omega) (by have:=hp.2.1;omega);have:=wE 7 vs.length (by omega) (by decide);have:(by' (dcm vs.length)).length<=7:=this;simp only[dbc,zW,List.length_cons,List.length_append];omega
set_option maxRecDepth 100000
set_option maxHeartbeats 8000000
theorem zP6 {n:Int} (h1 : -3<=n) (h2:n<100000000):zC Tryz.prog 75 [.lit (.int .i64 n)] (.lit (.string (dci n))):=by
 by_cases h0:0<=n
 ·obtain⟨k,rfl⟩:=Int.eq_ofNat_of_zero_le h0;have e:dci (k:Int)=dcm k:=by unfold dci;rw[if_pos h0];rfl
  rw[e];exact zAN 100000000 k (by omega) (by decide)
 ·have hd:∀m:Nat,m<10->dcm m=⟨#[UInt8.ofNat (48+m)]⟩:=fun m h=>wQ h;have:n = -3∨n = -2∨n = -1:=by omega
  rcases this with rfl|rfl|rfl
  all_goals
   unfold dci;rw[if_neg (by decide),hd _ (by decide)];refine zB ttok mixed Tryz.func75 rfl (by rfl) (Nat.le_of_ble_eq_true rfl) (by kernel_rfl) ?_;refine⟨by decide,?_⟩;refine⟨fun _=>?_,fun h=>absurd h (by decide)⟩;refine⟨fun _=>?_,fun h=>absurd h (by decide)⟩;refine⟨fun _=>?_,fun h=>absurd h (by decide)⟩;refine⟨fun _=>?_,fun h=>absurd h (by decide)⟩;refine⟨by decide,?_⟩;exact rfl
theorem zHZ (t:Tp):∀x:List ByteArray,Nm t->x.length+t.sz<=9000000->(nl t x).size<=1000000000000000000->zC Tryz.prog zAB [eTy t,.sl (eSs x)] (.lit (.string (nl t x))):=by
 induction t with
 | no=>intro x h;exact h.elim
 | mt n =>
  intro x h _ hz;obtain⟨k,rfl,hk⟩:=h;have:=wE 1 k (by omega) (by decide);refine zB ttok mixed Tryz.func134 rfl (by rfl) (Nat.le_of_ble_eq_true rfl) (by kernel_rfl) ?_;refine⟨fun _=>?_,fun h=>(by cases h)⟩;refine .inl ⟨_,zAN k k (Nat.le_refl _) (by omega),?_⟩;refine⟨by rw[sz1];omega,?_⟩;exact rfl
 | con s =>
  intro x h _ hz;refine zB ttok mixed Tryz.func134 rfl (by rfl) (Nat.le_of_ble_eq_true rfl) (by kernel_rfl) ?_;refine⟨fun h=>(by cases h),fun _=>?_⟩;refine⟨fun h=>(by cases h),fun _=>?_⟩;refine⟨fun _=>?_,fun h=>(by cases h)⟩;exact rfl
 | var s =>
  intro x _ hl hz;simp only[Tp.sz] at hl;have hxl:(eSs x).length=x.length:=by simp[eSs]
  have hrl:x.reverse.length=x.length:=by simp
  have e0:IntKind.i64.wrap (((eSs x).length:Nat)-1)=(x.length:Int)-1:=by rw[hxl];exact zHD (by omega) (by omega)
  refine zB ttok mixed Tryz.func134 rfl (by rfl) (Nat.le_of_ble_eq_true rfl) (by kernel_rfl) ?_;refine⟨fun h=>(by cases h),fun _=>?_⟩;refine⟨fun _=>?_,fun h=>(by cases h)⟩;refine⟨{k:Nat // k<=x.length/\∀j,j<k->x.reverse[j]?≠some s},fun k=>{vs:=[(1,.v (.sl (eSs x))),(2,.box 0 (eTy (.var s))),(5,.v (.lit (.int .i64 ((x.length:Int)-1-(k.1:Nat)))))],ow:=[]},
   fun k=>x.length-k.1,⟨0,Nat.zero_le _,fun j hj=>absurd hj (by omega)⟩,⟨⟨rfl,rfl,?_,trivial⟩,trivial,rfl⟩,?_⟩
  ·exact congrArg (fun n=>SV.v (AV.lit (Value.int .i64 n))) (e0.trans (by simp))
  rintro⟨k,hk,hn⟩;refine⟨fun h=>?_,fun h=>?_⟩
  ·have h:k<x.length:=by
    have:=of_decide_eq_true h;simp only at this;omega
   have ei:((x.length:Int)-1-(k:Nat)).toNat=x.length-1-k:=by omega
   have hi:x.length-1-k<x.length:=by omega
   have hrev:x.reverse[k]'(by omega)=x[x.length-1-k]:=by simp[List.getElem_reverse]
   refine⟨.lit (.string x[x.length-1-k]),by show (0:Int)<=(x.length:Int)-1-(k:Nat);omega,by show (eSs x)[((x.length:Int)-1-(k:Nat)).toNat]? = _;rw[ei];exact zEK hi,rfl,?_⟩;refine⟨fun h2=>?_,fun h2=>?_⟩
   ·have h2:x[x.length-1-k]=s:=of_decide_eq_true h2;have hm:s∈x:=h2 ▸ List.getElem_mem hi;have hix:ixN x.reverse s=k:=by
     have h1:=zIM (l:=x.reverse) (k:=k) (by omega) (by rw[hrev,h2]) hn;rw[zUH (List.mem_reverse.2 hm)] at h1;omega
    have en:nl (.var s) x=⟨#[35]⟩++dcm k:=by rw[nl,yA hm,if_pos rfl,hix]
    rw[en];have ek:IntKind.i64.wrap (IntKind.i64.wrap (((eSs x).length:Nat)-1)-((x.length:Int)-1-(k:Nat)))=((k:Nat):Int):=by
     rw[e0,show (x.length:Int)-1-((x.length:Int)-1-(k:Nat))=((k:Nat):Int) by omega];exact yF (by omega)
    have hd:=zAN k k (Nat.le_refl _) (by omega);rw[<-ek] at hd;refine .inl ⟨_,hd,?_⟩;have:=wE 7 k (by omega) (by decide);refine⟨by rw[sz1];omega,?_⟩;exact rfl
   ·have h2:x[x.length-1-k]≠s:=of_decide_eq_false h2;refine⟨⟨k+1,h,zDF (l:=x.reverse) (by omega) (by rw[hrev];exact h2) hn⟩,(show x.length-(k+1)<x.length-k by omega),⟨rfl,rfl,?_,trivial⟩,trivial,rfl⟩;refine congrArg (fun n=>SV.v (AV.lit (Value.int .i64 n))) ?_;show IntKind.i64.wrap ((x.length:Int)-1-(k:Nat)-1)=(x.length:Int)-1-((k+1:Nat):Int);rw[zHD (by omega) (by omega)];omega
  ·have h:k=x.length:=by
    have:=of_decide_eq_false h;simp only at this;omega
   subst h;have hno:s∉x:=fun hm=>qV (l:=x.reverse) (by rw[hrl];exact hn) (List.mem_reverse.2 hm);have en:nl (.var s) x=⟨#[39]⟩++s:=by rw[nl,y8 hno];rfl
   rw[en,ByteArray.size_append,sz1] at hz;rw[en];refine⟨by rw[sz1];show 1+s.size<=_;omega,?_⟩;exact rfl
 | app a b iha ihb =>
  intro x h2 hl hz;simp only[Tp.sz] at hl;simp only[nl,ByteArray.size_append,sz1] at hz;refine zB ttok mixed Tryz.func134 rfl (by rfl) (Nat.le_of_ble_eq_true rfl) (by kernel_rfl) ?_;refine⟨fun h=>(by cases h),fun _=>?_⟩;refine⟨fun h=>(by cases h),fun _=>?_⟩;refine⟨fun h=>(by cases h),fun _=>?_⟩;refine⟨fun h=>(by cases h),fun _=>?_⟩;refine⟨fun _=>?_,fun h=>(by cases h)⟩;refine⟨fun h=>(by cases h),fun _=>?_⟩;refine⟨_,by decide,rfl,rfl,?_⟩;refine .inl ⟨_,iha x h2.1 (by omega) (by omega),?_⟩;refine⟨by simp only[ByteArray.size_append,sz1];omega,?_⟩;refine⟨by simp only[ByteArray.size_append,sz1];omega,?_⟩;refine⟨_,by decide,rfl,rfl,?_⟩;refine .inl ⟨_,ihb x h2.2 (by omega) (by omega),?_⟩;refine⟨by simp only[ByteArray.size_append,sz1];omega,?_⟩;refine⟨by simp only[ByteArray.size_append,sz1];omega,?_⟩;exact rfl
 | all s a ih =>
  intro x h2 hl hz;simp only[Tp.sz] at hl;simp only[nl,ByteArray.size_append,sz1] at hz;have hxl:(eSs x).length=x.length:=by simp[eSs]
  have hi:=ih (x++[s]) h2 (by simp;omega) (by omega);rw[<-zJ4,<-List.nil_append (eSs x)] at hi;refine zB ttok mixed Tryz.func134 rfl (by rfl) (Nat.le_of_ble_eq_true rfl) (by kernel_rfl) ?_;refine⟨fun h=>(by cases h),fun _=>?_⟩;refine⟨fun h=>(by cases h),fun _=>?_⟩;refine⟨fun h=>(by cases h),fun _=>?_⟩;refine⟨fun _=>?_,fun h=>(by cases h)⟩;refine⟨fun h=>(by cases h),fun _=>?_⟩;refine⟨by simp[hxl];omega,zH5 _,yI _,?_⟩;refine⟨_,by decide,rfl,rfl,?_⟩;refine⟨by simp[hxl];omega,by simpa using yI x,yI [_],?_⟩;refine .inl ⟨_,hi,?_⟩;refine⟨by simp only[ByteArray.size_append,sz1];omega,?_⟩;refine⟨by simp only[ByteArray.size_append,sz1];omega,?_⟩;exact rfl
def plc (s:ByteArray) (x:List ByteArray):ByteArray:=if memb s x then ⟨#[35]⟩++dcm (ixN x.reverse s) else ⟨#[39]⟩++s
theorem zZD (s:ByteArray) (x:List ByteArray) (hl:x.length<=9000000) (hz:(plc s x).size<=1000000000000000000):zC Tryz.prog 133 [str s,.sl (eSs x)] (str (plc s x)):=by
 have hxl:(eSs x).length=x.length:=by simp[eSs]
 have hrl:x.reverse.length=x.length:=by simp
 have e0:IntKind.i64.wrap (((eSs x).length:Nat)-1)=(x.length:Int)-1:=by rw[hxl];exact zHD (by omega) (by omega)
 refine zB ttok mixed Tryz.func133 rfl (by rfl) (Nat.le_of_ble_eq_true rfl) (by kernel_rfl) ?_;refine⟨{k:Nat // k<=x.length/\∀j,j<k->x.reverse[j]?≠some s},fun k=>{vs:=[(1,.v (.sl (eSs x))),(0,.v (str s)),(5,.v (.lit (.int .i64 ((x.length:Int)-1-(k.1:Nat)))))],ow:=[]},
  fun k=>x.length-k.1,⟨0,Nat.zero_le _,fun j hj=>absurd hj (by omega)⟩,⟨⟨rfl,rfl,?_,trivial⟩,trivial,rfl⟩,?_⟩
 ·exact congrArg (fun n=>SV.v (AV.lit (Value.int .i64 n))) (e0.trans (by simp))
 rintro⟨k,hk,hn⟩;refine⟨fun h=>?_,fun h=>?_⟩
 ·have h:k<x.length:=by
   have:=of_decide_eq_true h;simp only at this;omega
  have ei:((x.length:Int)-1-(k:Nat)).toNat=x.length-1-k:=by omega
  have hi:x.length-1-k<x.length:=by omega
  have hrev:x.reverse[k]'(by omega)=x[x.length-1-k]:=by simp[List.getElem_reverse]
  refine⟨.lit (.string x[x.length-1-k]),by show (0:Int)<=(x.length:Int)-1-(k:Nat);omega,by show (eSs x)[((x.length:Int)-1-(k:Nat)).toNat]? = _;rw[ei];exact zEK hi,rfl,?_⟩;refine⟨fun h2=>?_,fun h2=>?_⟩
  ·have h2:x[x.length-1-k]=s:=of_decide_eq_true h2;have hm:s∈x:=h2 ▸ List.getElem_mem hi;have hix:ixN x.reverse s=k:=by
    have h1:=zIM (l:=x.reverse) (k:=k) (by omega) (by rw[hrev,h2]) hn;rw[zUH (List.mem_reverse.2 hm)] at h1;omega
   have en:plc s x=⟨#[35]⟩++dcm k:=by rw[plc,yA hm,if_pos rfl,hix]
   rw[en];have ek:IntKind.i64.wrap (IntKind.i64.wrap (((eSs x).length:Nat)-1)-((x.length:Int)-1-(k:Nat)))=((k:Nat):Int):=by
    rw[e0,show (x.length:Int)-1-((x.length:Int)-1-(k:Nat))=((k:Nat):Int) by omega];exact yF (by omega)
   have hd:=zAN k k (Nat.le_refl _) (by omega);rw[<-ek] at hd;refine .inl ⟨_,hd,?_⟩;have:=wE 7 k (by omega) (by decide);refine⟨by rw[sz1];omega,?_⟩;exact rfl
  ·have h2:x[x.length-1-k]≠s:=of_decide_eq_false h2;refine⟨⟨k+1,h,zDF (l:=x.reverse) (by omega) (by rw[hrev];exact h2) hn⟩,(show x.length-(k+1)<x.length-k by omega),⟨rfl,rfl,?_,trivial⟩,trivial,rfl⟩;refine congrArg (fun n=>SV.v (AV.lit (Value.int .i64 n))) ?_;show IntKind.i64.wrap ((x.length:Int)-1-(k:Nat)-1)=(x.length:Int)-1-((k+1:Nat):Int);rw[zHD (by omega) (by omega)];omega
 ·have h:k=x.length:=by
   have:=of_decide_eq_false h;simp only at this;omega
  subst h;have hno:s∉x:=fun hm=>qV (l:=x.reverse) (by rw[hrl];exact hn) (List.mem_reverse.2 hm);have en:plc s x=⟨#[39]⟩++s:=by rw[plc,y8 hno];rfl
  rw[en,ByteArray.size_append,sz1] at hz;rw[en];refine⟨by rw[sz1];show 1+s.size<=_;omega,?_⟩;exact rfl
def Cr.Nc:Cr->Prop
 | .nil=>True
 | .node f n _ t g=>(1<=f/\f<=11)/\(-3<=n/\n<100/\(f=1->n=0))/\(t = .no∨Nm t)/\g.Nc
 | .kid p r=>p.Nc/\r.Nc
 | .bind _ t p r=>Nm t/\p.Nc/\r.Nc
 | .alt f n _ _ p r=>(1<=f/\f<=3)/\(0<=n/\n<100)/\p.Nc/\r.Nc
theorem zdK (c:Cr):c.Pk->c.Nc:=by
 induction c with
 | nil=>exact fun h=>h
 | node f n s t g ih=>exact fun h=>⟨h.1,h.2.1,h.2.2.2.1.elim (fun h => .inr (zDV h)) (fun h => .inl h.1),ih h.2.2.2.2⟩
 | kid p r ihp ih=>exact fun h=>⟨ihp h.1,ih h.2⟩
 | bind x t p r ihp ih=>exact fun h=>⟨zDV h.2.1,ihp h.2.2.1,ih h.2.2.2⟩
 | alt f n s vs p r ihp ih=>exact fun h=>⟨h.1,h.2.1,ihp h.2.2.2.2.1,ih h.2.2.2.2.2⟩
theorem zbU {g p:Cr} (hp:p∈g.kids):g.Nc->p.Nc:=(parts_all (P:=Cr.Nc) (Q:=Cr.Nc) (fun _ _ h=>h) (fun _ _ _ _ h=>h.2) (fun _ _ _ _ _ _ h=>h.2.2) (fun _ _ _ _ _ h=>h.2.2.2) g · |>.1 p hp)
theorem zX3 {g:Cr} {b:Bdg} (hb:b∈g.binds) (h:g.Nc):Nm b.2.1/\b.2.2.Nc:=by
 induction g with
 | nil=>cases hb
 | node f n s t g ih=>exact ih hb h.2.2.2
 | kid p r _ ih=>exact ih hb h.2
 | bind x t p r _ ih =>
  rcases List.mem_cons.1 hb with rfl|hb
  ·exact⟨h.1,h.2.1⟩
  ·exact ih hb h.2.2
 | alt f n s vs p r _ ih=>exact ih hb h.2.2.2
theorem zVW {g:Cr} {a:Alg} (ha:a∈g.alts) (h:g.Nc):(1<=a.1.1/\a.1.1<=3)/\(0<=a.1.2.1/\a.1.2.1<100)/\a.2.2.Nc:=by
 induction g with
 | nil=>cases ha
 | node f n s t g ih=>exact ih ha h.2.2.2
 | kid p r _ ih=>exact ih ha h.2
 | bind x t p r _ ih=>exact ih ha h.2.2
 | alt f n s vs p r _ ih =>
  rcases List.mem_cons.1 ha with rfl|ha
  ·exact⟨h.1,h.2.1,h.2.2.1⟩
  ·exact ih ha h.2.2.2
theorem zWO {g:Cr} {b:Bdg} (hb:b∈g.binds) (h:g.TZ):b.2.1.sz<900000/\b.2.2.TZ:=by
 induction g with
 | nil=>cases hb
 | node f n s t g ih=>exact ih hb h.2
 | kid p r _ ih=>exact ih hb h.2
 | bind x t p r _ ih =>
  rcases List.mem_cons.1 hb with rfl|hb
  ·exact⟨h.1,h.2.1⟩
  ·exact ih hb h.2.2
 | alt f n s vs p r _ ih=>exact ih hb h.2
theorem zcC {g p:Cr} (hn:g.isN=false) (ho:g.Ok) (hp:p∈g.kids):dpC p<=dpC g:=by
 induction g with
 | nil=>cases hp
 | node=>cases hn
 | kid q r _ ih =>
  simp only[dpC];rcases List.mem_cons.1 hp with rfl|hp
  ·omega
  ·have:=ih ho.2.1 ho.2.2.2 hp;omega
 | bind x t q r _ ih=>have:=ih ho.2.1 ho.2.2.2.2 hp;simp only[dpC];omega
 | alt f n s vs q r _ ih=>have:=ih ho.2.1 ho.2.2.2.2.2.2 hp;simp only[dpC];omega
theorem z6F {g:Cr} {b:Bdg} (hn:g.isN=false) (ho:g.Ok) (hb:b∈g.binds):dpC b.2.2<=dpC g:=by
 induction g with
 | nil=>cases hb
 | node=>cases hn
 | kid q r _ ih=>have:=ih ho.2.1 ho.2.2.2 hb;simp only[dpC];omega
 | bind x t q r _ ih =>
  simp only[dpC];rcases List.mem_cons.1 hb with rfl|hb
  ·simp only;omega
  ·have:=ih ho.2.1 ho.2.2.2.2 hb;omega
 | alt f n s vs q r _ ih=>have:=ih ho.2.1 ho.2.2.2.2.2.2 hb;simp only[dpC];omega
theorem zaH {g:Cr} {a:Alg} (hn:g.isN=false) (ho:g.Ok) (ha:a∈g.alts):a.2.1.length+dpC a.2.2<=dpC g:=by
 induction g with
 | nil=>cases ha
 | node=>cases hn
 | kid q r _ ih=>have:=ih ho.2.1 ho.2.2.2 ha;simp only[dpC];omega
 | bind x t q r _ ih=>have:=ih ho.2.1 ho.2.2.2.2 ha;simp only[dpC];omega
 | alt f n s vs q r _ ih =>
  simp only[dpC];rcases List.mem_cons.1 ha with rfl|ha
  ·simp only;omega
  ·have:=ih ho.2.1 ho.2.2.2.2.2.2 ha;omega
def bs (l:List UInt8):ByteArray:=⟨l.toArray⟩
theorem zEL (l:List UInt8):by' (bs l)=l:=by simp[by',bs]
theorem z3T (a b:List UInt8):bs a++bs b=bs (a++b):=jO (by rw[xJ,zEL,zEL,zEL])
theorem x8 (l:List UInt8):(bs l).size=l.length:=by simp[bs,ByteArray.size]
def tK (E D:List ByteArray) (p:Cr):List UInt8:=zW (dbc p E D)
def zGT (E D:List ByteArray) (b:Bdg):List UInt8:=61::(ser (db b.2.1 D)++zW (dbc b.2.2 E D))
def zKI (E D:List ByteArray) (a:Alg):List UInt8:=124::(by' (dci a.1.1)++32::(by' (dci a.1.2.1)++32::(by' a.1.2.2++32::(by' (dcm a.2.1.length)++zW (dbc a.2.2 (a.2.1.reverse++E) D)))))
theorem zYB (E D:List ByteArray) (g:Cr) (hn:g.isN=false) (ho:g.Ok):zW (dbc g E D)=g.kids.flatMap (tK E D)++(g.binds.flatMap (zGT E D)++g.alts.flatMap (zKI E D)):=by
 induction g with
 | nil=>rfl
 | node=>cases hn
 | kid p r _ ih =>
  simp only[dbc,zW,Cr.kids,Cr.binds,Cr.alts,List.flatMap_cons,List.append_assoc];rw[ih ho.2.1 ho.2.2.2];rfl
 | bind x t p r _ ih =>
  simp only[dbc,zW,Cr.kids,Cr.binds,Cr.alts,List.flatMap_cons,List.append_assoc];rw[ih ho.2.1 ho.2.2.2.2,ho.2.2.1];simp[zGT]
 | alt f n s vs p r _ ih =>
  simp only[dbc,zW,Cr.kids,Cr.binds,Cr.alts,List.flatMap_cons,List.append_assoc];rw[ih ho.2.1 ho.2.2.2.2.2.2,ho.2.2.1,ho.2.2.2.1];simp[zKI]
theorem zJN {α β:Type} (F:α->List β) {l:List α} {k:Nat} (h:k<l.length):(l.take (k+1)).flatMap F=(l.take k).flatMap F++F l[k]:=by
 rw[List.take_succ_eq_append_getElem h,List.flatMap_append];simp
theorem zEF {α β:Type} (F:α->List β) {l:List α} {k:Nat} (h:k<l.length):((l.take k).flatMap F).length+(F l[k]).length<=(l.flatMap F).length:=by
 have:=zL4 F l h (F l[k]).length;rw[List.take_length] at this;exact this
theorem z9Y (t:Tp) (y:List ByteArray):nl t y=bs (ser (db t y.reverse)):=jO (by rw[z5S,zEL])
theorem zaS (s:ByteArray) (x:List ByteArray) (d:List ByteArray) (n:Int) (t:Tp) (g:Cr):zW (dbc (.node 1 n s t g) x.reverse d)=40::(by' (dci 1)++32::(by' (dci 0)++32::(by' (plc s x)++[41]))):=by
 simp only[dbc,if_true,plc,zLN];split
 ·rw[xJ];rfl
 ·rw[xJ];rfl
end Go.Proofs.YtgonkhaebmfgiaaGreatDoor
