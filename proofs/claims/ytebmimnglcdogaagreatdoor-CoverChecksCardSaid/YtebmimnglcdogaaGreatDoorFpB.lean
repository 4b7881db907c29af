/- The operations, one by one (second part): those that only compute. No condition. -/
import Derived.Test.YtebmimnglcdogaaGreatDoorFpA
import Derived.Laws.Slices
import Derived.Laws.Small
set_option linter.unusedSimpArgs false
set_option linter.unusedVariables false
namespace Fp
open Go
section
variable {P:Program}
theorem find_ok {T:TT} (h:zN P T) (t:Nat):KOk P t (find T t):=by
 induction T with
 | nil=>trivial
 | cons x r ih =>
  obtain⟨i,k⟩:=x;simp only[find];cases hb:Nat.beq i t with
  | true =>
   have:=Nat.eq_of_beq_eq_true hb;subst this;exact h.1
  | false=>exact ih h.2
theorem zYL {t:TypeId} {i:TypeInfo} (h:P.info? t=some i) (w:World):(typeInfo t).run P w = .ok i w:=by simp[typeInfo,h]
theorem xO {t:TypeId} {i:TypeInfo} (h:P.info? t=some i) (w:World):(Go.sizeOf t).run P w = .ok i.size w:=by simp[Go.sizeOf,zYL h]
theorem zSZ {t:TypeId} {i:TypeInfo} {z:Value} (h:P.info? t=some i) (hz:i.zero=some z) (w:World):(zeroValue t).run P w = .ok z w:=by simp[zeroValue,zYL h,hz]
theorem zCX {op:BinOp} {t:TypeId} {x y:Operand} {a b:Value} (h1:a≠.nilIface) (h2:∀cs,a≠.agg cs) (w:World):(eqGuard op t x y a b).run P w = .ok () w:=by
 have key:∀(c:Bool) (s:Sem Unit),s.run P w = .ok () w->(if c=true then (pure ():Sem Unit) else s).run P w = .ok () w:=by
  intro c s hs;cases c<;>simp[hs]
 cases a<;>first|exact absurd rfl h1|exact absurd rfl (h2 _)|(unfold eqGuard;exact key _ _ rfl)
theorem zUF {t:TypeId} (hd:P.underlying t=some .bool) (n:Nat) (a b:Bool) (w:World):(Op.equalIn (n+1) t (.bool a) (.bool b)).run P w = .ok (a == b) w:=by
 unfold Op.equalIn;simp only[Sem.run_bind,run_underlying hd,Result.andThen_ok,Sem.run_pure]
theorem zXN {t e:TypeId} (hd:P.underlying t=some (.pointer e)) (n:Nat) (a:Option Addr) (w:World):(Op.equalIn (n+1) t (.pointer a) (.pointer none)).run P w = .ok a.isNone w:=by
 unfold Op.equalIn;cases a<;>simp[run_underlying hd]
theorem zRY {t e:TypeId} (hd:P.underlying t=some (.slice e)) (n:Nat) (a:Option Addr) (k c:Nat) (w:World):(Op.equalIn (n+1) t (.slice a k c) (.slice none 0 0)).run P w = .ok a.isNone w:=by
 unfold Op.equalIn;cases a<;>simp[run_underlying hd]
theorem binOp_eql {t:TypeId} {a b:Value} {r:Bool} {w:World} (hn:∀k x,a≠.int k x) (hf:∀k x,a≠.float k x) (hc:∀k x y,a≠.complex k x y) (hs:∀s,a≠.string s)
  (h:(Op.equal t a b).run P w = .ok r w) :
  (binOp .eql t a b).run P w = .ok (.bool r) w/\(binOp .neq t a b).run P w = .ok (.bool (!r)) w:=by
 have h1:binOp .eql t a b=(do pure (.bool (<-Op.equal t a b))):=by
  cases a<;>first|rfl|exact absurd rfl (hn _ _)|exact absurd rfl (hf _ _)|exact absurd rfl (hc _ _ _)|exact absurd rfl (hs _)
 have h2:binOp .neq t a b=(do pure (.bool (!(<-Op.equal t a b)))):=by
  cases a<;>first|rfl|exact absurd rfl (hn _ _)|exact absurd rfl (hf _ _)|exact absurd rfl (hc _ _ _)|exact absurd rfl (hs _)
 rw[h1,h2];constructor<;>simp only[Sem.run_bind,h,Result.andThen_ok,Sem.run_pure]
theorem zOC {t:TypeId} {d:TypeDesc} {z:Bool} (hd:P.underlying t=some d) (hs:zKR d (.lit (.bool z))=true) (a b:Bool) (w:World) :
  (binOp .eql t (.bool a) (.bool b)).run P w = .ok (.bool (a == b)) w/\(binOp .neq t (.bool a) (.bool b)).run P w = .ok (.bool (!(a == b))) w:=by
 have:d = .bool:=by
  cases z<;>cases d<;>simp[zKR] at hs
  rfl
 subst this;exact binOp_eql (by simp) (by simp) (by simp) (by simp) (zUF hd 9999 a b w)
theorem zD2 {t:TypeId} {d:TypeDesc} (hd:P.underlying t=some d) (hs:zKR d (.lit (.pointer none))=true) (a:Option Addr) (w:World) :
  (binOp .eql t (.pointer a) (.pointer none)).run P w = .ok (.bool a.isNone) w/\(binOp .neq t (.pointer a) (.pointer none)).run P w = .ok (.bool (!a.isNone)) w:=by
 obtain⟨e,rfl⟩:∃e,d = .pointer e:=by
  cases d<;>simp[zKR] at hs
  exact⟨_,rfl⟩
 exact binOp_eql (by simp) (by simp) (by simp) (by simp) (zXN hd 9999 a w)
theorem zAM {t e:TypeId} (hd:P.underlying t=some (.slice e)) (a:Option Addr) (n c:Nat) (w:World) :
  (binOp .eql t (.slice a n c) (.slice none 0 0)).run P w = .ok (.bool a.isNone) w/\(binOp .neq t (.slice a n c) (.slice none 0 0)).run P w = .ok (.bool (!a.isNone)) w :=
 binOp_eql (by simp) (by simp) (by simp) (by simp) (zRY hd 9999 a n c w)
theorem z0W {t:TypeId} {tk:TK} (hk:KOk P t tk) {op:BinOp} {a b:AV} {k:AV->Prop} (h:bin tk op a b k) :
  ∃r,k r/\∀(F:Nat->Option Nat) (w:World) (va vb:Value),Rep F w va a->Rep F w vb b->∃v,(binOp op t va vb).run P w = .ok v w/\(∀w',Rep F w' v r)/\va≠.nilIface/\∀cs,va≠.agg cs:=by
 unfold bin at h;split at h
 ·rename_i ka x kb y;cases hkk:zDN ka kb with
  | false=>rw[hkk] at h;exact h.elim
  | true =>
   rw[hkk] at h;obtain rfl:=zG4 hkk;obtain⟨r,v,h1,h2,h3⟩:=zV2 (P:=P) (t:=t) h;exact⟨r,h1,fun F w va vb ha hb=>by rw[ha.lit_eq.1,hb.lit_eq.1];exact⟨v,h2 w,fun w'=>h3 F w',by simp,by simp⟩⟩
 ·obtain⟨r,v,h1,h2,h3⟩:=zV3 (P:=P) (t:=t) h;exact⟨r,h1,fun F w va vb ha hb=>by rw[ha.lit_eq.1,hb.lit_eq.1];exact⟨v,h2 w,fun w'=>h3 F w',by simp,by simp⟩⟩
 ·split at h
  ·obtain⟨d,i,h1,h2,_⟩:=hk;exact⟨_,h,fun F w va vb ha hb=>by rw[ha.lit_eq.1,hb.lit_eq.1];exact⟨_,(zD2 h1 h2 _ w).1,fun w' => .lit _ rfl,by simp,by simp⟩⟩
  ·obtain⟨d,i,h1,h2,_⟩:=hk;exact⟨_,h,fun F w va vb ha hb=>by rw[ha.lit_eq.1,hb.lit_eq.1];exact⟨_,(zD2 h1 h2 _ w).2,fun w' => .lit _ rfl,by simp,by simp⟩⟩
  ·exact h.elim
 ·split at h
  ·obtain⟨d,i,h1,h2,_⟩:=hk;exact⟨_,h,fun F w va vb ha hb=>by rw[ha.lit_eq.1,hb.lit_eq.1];exact⟨_,(zD2 h1 h2 _ w).1,fun w' => .lit _ rfl,by simp,by simp⟩⟩
  ·obtain⟨d,i,h1,h2,_⟩:=hk;exact⟨_,h,fun F w va vb ha hb=>by rw[ha.lit_eq.1,hb.lit_eq.1];exact⟨_,(zD2 h1 h2 _ w).2,fun w' => .lit _ rfl,by simp,by simp⟩⟩
  ·exact h.elim
 ·split at h
  ·obtain⟨d,i,h1,h2,_⟩:=hk;exact⟨_,h,fun F w va vb ha hb=>by cases ha;rw[hb.lit_eq.1];exact⟨_,(zD2 h1 h2 _ w).1,fun w' => .lit _ rfl,by simp,by simp⟩⟩
  ·obtain⟨d,i,h1,h2,_⟩:=hk;exact⟨_,h,fun F w va vb ha hb=>by cases ha;rw[hb.lit_eq.1];exact⟨_,(zD2 h1 h2 _ w).2,fun w' => .lit _ rfl,by simp,by simp⟩⟩
  ·exact h.elim
 ·split at h
  ·obtain⟨it,i,z,h1,_⟩:=hk;exact⟨_,h,fun F w va vb ha hb=>by rw[ha.nil_eq,hb.nil_eq];exact⟨_,(zAM h1 _ _ _ w).1,fun w' => .lit _ rfl,by simp,by simp⟩⟩
  ·obtain⟨it,i,z,h1,_⟩:=hk;exact⟨_,h,fun F w va vb ha hb=>by rw[ha.nil_eq,hb.nil_eq];exact⟨_,(zAM h1 _ _ _ w).2,fun w' => .lit _ rfl,by simp,by simp⟩⟩
  ·exact h.elim
 ·rename_i x xs;have hne:∀(F:Nat->Option Nat) (w:World) (va:Value),Rep F w va (.sl (x::xs))->∃ad n c,va = .slice (some ad) n c:=by
   intro F w va ha;obtain⟨b,off,cap,_,hh,_⟩:=ha.sl_elem (i:=0) (x:=x) rfl;exact⟨_,_,_,hh⟩
  split at h
  ·obtain⟨it,i,z,h1,_⟩:=hk;refine⟨_,h,fun F w va vb ha hb=>?_⟩;obtain⟨ad,n,c,rfl⟩:=hne F w va ha;rw[hb.nil_eq];exact⟨_,(zAM h1 _ _ _ w).1,fun w' => .lit _ rfl,by simp,by simp⟩
  ·obtain⟨it,i,z,h1,_⟩:=hk;refine⟨_,h,fun F w va vb ha hb=>?_⟩;obtain⟨ad,n,c,rfl⟩:=hne F w va ha;rw[hb.nil_eq];exact⟨_,(zAM h1 _ _ _ w).2,fun w' => .lit _ rfl,by simp,by simp⟩
  ·exact h.elim
 ·split at h
  ·rename_i x y hx hy;split at h
   ·obtain⟨d,i,h1,h2,_⟩:=hk;refine⟨_,h,fun F w va vb ha hb=>?_⟩;rw[wO hx ha,wO hy hb];exact⟨_,(zOC h1 h2 _ _ w).1,fun w' => .sb _,by simp,by simp⟩
   ·obtain⟨d,i,h1,h2,_⟩:=hk;refine⟨_,h,fun F w va vb ha hb=>?_⟩;rw[wO hx ha,wO hy hb];exact⟨_,(zOC h1 h2 _ _ w).2,fun w' => .sb _,by simp,by simp⟩
   ·exact h.elim
  ·exact h.elim
variable {hp:Bool} {arr:Array Oper} {o:Oper} {e:Env} {k:List U->Prop}
theorem yY (h:(match o.op with | .move _ | .assign _ | .box _ _ | .alloc _ | .load _ _ | .store _ _ _ | .call _=>false|_=>true)=true):Sub (zG o.op.operands.toList) (rd arr.toList hp o):=by
 unfold rd;cases ho:o.op<;>rw[ho] at h<;>first|exact Sub.inr|cases h
theorem zSI {T:TT} (hT:zN P T) {op:BinOp} {t t2:TypeId} {x y:Operand} (ho:o.op = .binOp op t x y t2)
  (h:match opd e x,opd e y with | .v a,.v b=>bin (find T t) op a b fun r=>k (putU o.dst (.v r))|_,_=>False):Does P hp arr o e k:=by
 split at h
 ·rename_i a b hx hy;obtain⟨r,h1,h2⟩:=z0W (find_ok hT t) h;refine zH h1 fun cx e' g ac w hag hR=>?_;have hs:=yY (hp:=hp) (arr:=arr) (o:=o) (by rw[ho]);rw[ho] at hs;simp only[Op.operands,zG] at hs;obtain⟨v,p1,p2,p3,p4⟩:=h2 g.F w _ _ (zF hag hR hs.or_left hx) (zF hag hR hs.or_right.or_left hy);refine⟨v,w,?_,Grow.refl w,fun _=>p2 w⟩;unfold execOp;simp only[ho,Sem.run_bind,zCX p3 p4,Result.andThen_ok,p1,Sem.run_pure]
 ·exact h.elim
theorem zYP {t:TypeId} {x:Operand} (ho:o.op = .unOp .not t x)
  (h:match opd e x with
   | .v a=>match zBN a with
    | some b=>match a with
     | .lit _=>k (putU o.dst (.v (.lit (.bool (!b)))))
     | _=>k (putU o.dst (.v (.sb (!b))))
    | none=>False
   | _=>False):Does P hp arr o e k:=by
 split at h
 ·rename_i a hx;split at h
  ·rename_i b hb;have hs:=yY (hp:=hp) (arr:=arr) (o:=o) (by rw[ho]);rw[ho] at hs;simp only[Op.operands,zG] at hs;have run:∀(ac:Act) w,ac.eval x = .bool b->(execOp ac.eval o).run P w = .ok (.value (.bool (!b))) w:=fun ac w hv=>by
    unfold execOp;simp[ho,hv,Op.unary]
   split at h
   ·exact zH h fun cx e' g ac w hag hR=>⟨_,w,run ac w (wO hb (zF hag hR hs.or_left hx)),Grow.refl w,fun _=>Rep.lit _ rfl⟩
   ·exact zH h fun cx e' g ac w hag hR=>⟨_,w,run ac w (wO hb (zF hag hR hs.or_left hx)),Grow.refl w,fun _=>Rep.sb _⟩
  ·exact h.elim
 ·exact h.elim
theorem zYO {t:TypeId} {x:Operand} (ho:o.op = .unOp .neg t x)
  (h:match opd e x with
   | .v (.lit (.int q n))=>k (putU o.dst (.v (.lit (.int q (q.wrap (0-n))))))
   | _=>False):Does P hp arr o e k:=by
 split at h
 ·rename_i q n hx;have hs:=yY (hp:=hp) (arr:=arr) (o:=o) (by rw[ho]);rw[ho] at hs;simp only[Op.operands,zG] at hs;refine zH h fun cx e' g ac w hag hR=>⟨_,w,?_,Grow.refl w,fun _=>Rep.lit _ rfl⟩
  have hv:=(zF hag hR hs.or_left hx).lit_eq.1;unfold execOp;simp only[ho,hv,Op.unary,Op.intArith,Sem.run_bind,Sem.run_pure,Result.andThen_ok]
 ·exact h.elim
theorem zN4 {x:Operand} {i:Nat} (ho:o.op = .extract x i)
  (h:match opd e x with
   | .v (.tup l)=>match l[i]? with
    | some a=>k (putU o.dst (.v a))
    | none=>False
   | _=>False):Does P hp arr o e k:=by
 split at h
 ·rename_i l hx;split at h
  ·rename_i a ha;have hs:=yY (hp:=hp) (arr:=arr) (o:=o) (by rw[ho]);rw[ho] at hs;simp only[Op.operands,zG] at hs;refine zH h fun cx e' g ac w hag hR=>?_;obtain⟨cs,hv,hl,hr⟩:=(zF hag hR hs.or_left hx).tup_eq;have hlt:i<cs.size:=by rw[hl];exact (List.getElem?_eq_some_iff.1 ha).1
   refine⟨cs[i],w,?_,Grow.refl w,fun _=>hr i _ a (Array.getElem?_eq_getElem hlt) ha⟩;unfold execOp;simp[ho,hv,Instr.extract,hlt]
  ·exact h.elim
 ·exact h.elim
theorem zVM {c a b:Operand} (ho:o.op = .pick c a b)
  (h:match opd e c with
   | .v c=>match zBN c with
    | some c=>match c with
     | true=>match opd e a with
      | .v a=>k (putU o.dst (.v a))
      | _=>False
     | false=>match opd e b with
      | .v b=>k (putU o.dst (.v b))
      | _=>False
    | none=>False
   | _=>False):Does P hp arr o e k:=by
 split at h
 ·rename_i cv hc;split at h
  ·rename_i cb hcb;have hs:=yY (hp:=hp) (arr:=arr) (o:=o) (by rw[ho]);rw[ho] at hs;simp only[Op.operands,zG] at hs;split at h
   ·split at h
    ·rename_i a' ha;refine zH h fun cx e' g ac w hag hR=>⟨ac.eval a,w,?_,Grow.refl w,fun _=>zF hag hR hs.or_right.or_left ha⟩
     have:=wO hcb (zF hag hR hs.or_left hc);unfold execOp;simp[ho,this,asBool]
    ·exact h.elim
   ·split at h
    ·rename_i b' hb;refine zH h fun cx e' g ac w hag hR=>⟨ac.eval b,w,?_,Grow.refl w,fun _=>zF hag hR hs.or_right.or_right.or_left hb⟩
     have:=wO hcb (zF hag hR hs.or_left hc);unfold execOp;simp[ho,this,asBool]
    ·exact h.elim
  ·exact h.elim
 ·exact h.elim
theorem zLB {x:Operand} (ho:o.op = .nilCheck x)
  (h:match opd e x with
   | .v (.lit (.pointer (some a)))=>k (putU o.dst (.v (.lit (.pointer (some a)))))
   | _=>False):Does P hp arr o e k:=by
 split at h
 ·rename_i a hx;have hs:=yY (hp:=hp) (arr:=arr) (o:=o) (by rw[ho]);rw[ho] at hs;simp only[Op.operands,zG] at hs;refine zH h fun cx e' g ac w hag hR=>⟨_,w,?_,Grow.refl w,fun _=>Rep.lit _ rfl⟩
  have hv:=(zF hag hR hs.or_left hx).lit_eq.1;unfold execOp;simp only[ho,hv,Sem.run_pure]
 ·exact h.elim
theorem zEQ {m:Nat} {e':Env} {cx:Ctx} {g:G} {a:Act} {w:World} (hag:Agree m e e') (hR:Rel cx g e' a w):∀{xs:List Operand} {vs:List Value},Sub (zG xs) m->zAJ e xs=some vs->xs.map a.eval=vs
 | [],vs,_,h=>by simp only[zAJ,Option.some.injEq] at h;subst h;rfl
 | o::r,vs,hs,h=>by
  simp only[zAJ] at h;split at h
  ·rename_i v hv;cases hr:zAJ e r with
   | none=>rw[hr] at h;simp at h
   | some l =>
    rw[hr] at h;simp only[Option.some.injEq] at h;subst h;simp only[List.map_cons];rw[zEQ hag hR hs.or_right hr,(zF hag hR hs.or_left hv).lit_eq.1]
  ·simp at h
theorem zBM (a b:List Operand):zG (a++b)=zG a ||| zG b:=by
 induction a with
 | nil=>simp[zG]
 | cons o r ih=>simp only[List.cons_append,zG,ih,Nat.or_assoc]
theorem zK7 {fn:Fn} {first captured:Array Operand} (ho:o.op = .makeFunc fn first captured)
  (h:match zAJ e first.toList,zAJ e captured.toList with
   | some f,some c=>k (putU o.dst (.v (.lit (.func fn f.toArray c.toArray))))
   | _,_=>False):Does P hp arr o e k:=by
 split at h
 ·rename_i f c hf hc;have hs:=yY (hp:=hp) (arr:=arr) (o:=o) (by rw[ho]);rw[ho] at hs;simp only[Op.operands,Array.toList_append,zBM] at hs;refine zH h fun cx e' g ac w hag hR=>⟨_,w,?_,Grow.refl w,fun _=>Rep.lit _ rfl⟩
  have h1:first.map ac.eval=f.toArray:=by rw[<-zEQ hag hR hs.or_left hf,<-List.map_toArray,Array.toArray_toList]
  have h2:captured.map ac.eval=c.toArray:=by rw[<-zEQ hag hR hs.or_right hc,<-List.map_toArray,Array.toArray_toList]
  unfold execOp;simp only[ho,h1,h2,Instr.makeFunc,Sem.run_bind,Sem.run_pure,Result.andThen_ok]
 ·exact h.elim
theorem qG {m:Nat} {e':Env} {cx:Ctx} {g:G} {a:Act} {w:World} (hag:Agree m e e') (hR:Rel cx g e' a w) {x:Operand} {i:Int} (hs:Sub (zJ x) m) (h:zB1 e x=some i):∃q,a.eval x = .int q i:=by
 unfold zB1 at h;split at h
 ·rename_i q j hx;injection h with h;subst h
  exact⟨q,(zF hag hR hs hx).lit_eq.1⟩
 ·cases h
theorem zS1 {T:TT} (hT:zN P T) {t:TypeId} {x ix:Operand} (ho:o.op = .index t x ix)
  (h:match opd e x,zB1 e ix,find T t with
   | .v (.lit (.string s)),some i,.sc (.lit (.string _)) => ∃c,0<=i/\s[i.toNat]? = some c/\k (putU o.dst (.v (.lit (.int .u8 (c.toNat:Nat)))))
   | _,_,_=>False):Does P hp arr o e k:=by
 split at h
 ·rename_i s i z hx hi hz;obtain⟨c,h0,h1,h2⟩:=h;have hk:=find_ok hT t;rw[hz] at hk;obtain⟨d,it,hd,hsc,_⟩:=hk;have hd':P.underlying t=some .string:=by
   cases d<;>simp[zKR] at hsc
   exact hd
  have hs:=yY (hp:=hp) (arr:=arr) (o:=o) (by rw[ho]);rw[ho] at hs;simp only[Op.operands,zG] at hs;refine zH h2 fun cx e' g ac w hag hR=>⟨_,w,?_,Grow.refl w,fun _=>Rep.lit _ rfl⟩
  have hv:=(zF hag hR hs.or_left hx).lit_eq.1;obtain⟨q,hq⟩:=qG hag hR hs.or_right.or_left hi;unfold execOp;simp[ho,hv,hq,Instr.index,asIntOf,run_underlying hd',h0,h1]
 ·exact h.elim
theorem zKK {ts:Array TypeId} {ty:TypeId} {F:Nat->Option Nat} {w:World}:∀{q:IntKind} {x m:Int} {r:List AV} {vs:List Value},zGU q x r=some m->vs.length=r.length->(∀(i:Nat) v y,vs[i]? = some v->r[i]? = some y->Rep F w v y) ->
  (vs.foldlM Builtin.min2 (.int q x):Sem Value).run P w = .ok (.int q m) w
 | q,x,m,[],vs,h,hl,_=>by
  simp only[zGU,Option.some.injEq] at h;have:vs=[]:=List.eq_nil_of_length_eq_zero hl;subst this;subst h;rfl
 | q,x,m,y::r,vs,h,hl,hr=>by
  cases vs with
  | nil=>simp at hl
  | cons v vs =>
   unfold zGU at h;split at h
   ·rename_i heq;cases heq
   ·rename_i q' z r' heq;injection heq with e1 e2
    subst e1;subst e2;cases hk:zDN q q' with
    | false=>rw[hk] at h;simp at h
    | true =>
     rw[hk] at h;have hv:=(hr 0 v _ rfl rfl).lit_eq.1;subst hv;simp only[List.foldlM_cons,Sem.run_bind,Builtin.min2,Sem.run_pure,Result.andThen_ok];exact zKK (ts:=ts) (ty:=ty) h (by simpa using hl) (fun i v y hv hy=>hr (i+1) v y (by simpa using hv) (by simpa using hy))
   ·cases h
end
section
variable {P:Program} {hp:Bool} {arr:Array Oper} {o:Oper} {e:Env} {k:List U->Prop}
theorem zFP (l:List AV) (off:Nat) (cs:List AV) (h:off+cs.length<=l.length):(setAt l off cs).length=l.length:=by
 simp only[setAt,List.length_append,List.length_take,List.length_drop];omega
theorem zUT (l:List AV) (off:Nat) (cs:List AV) (h:off+cs.length<=l.length) (j:Nat) :
  (setAt l off cs)[j]? = if off<=j/\j<off+cs.length then cs[j-off]? else l[j]?:=by
 unfold setAt;by_cases h1:j<off
 ·rw[if_neg (by omega),List.getElem?_append_left (by simp;omega),List.getElem?_take_of_lt h1]
 ·rw[List.getElem?_append_right (by simp;omega)];have hl:(List.take off l).length=off:=by simp;omega
  rw[hl];by_cases h2:j<off+cs.length
  ·rw[if_pos ⟨by omega,h2⟩,List.getElem?_append_left (by omega)]
  ·rw[if_neg (by omega),List.getElem?_append_right (by omega),List.getElem?_drop]
   congr 1;omega
theorem zQG (cs:Array Value) (off:Nat):∀(vs:List Value) (n:Nat),let r:=(vs.zipIdx n).foldl (fun (cs:Array Value) (x:Value×Nat)=>cs.setIfInBounds (off+x.2) x.1) cs
  r.size=cs.size/\(off+n+vs.length<=cs.size->∀j:Nat,r[j]? = if off+n<=j/\j<off+n+vs.length then vs[j-(off+n)]? else cs[j]?):=by
 intro vs;induction vs generalizing cs with
 | nil=>intro n;simp only[List.zipIdx_nil,List.foldl_nil];exact⟨trivial,fun _ j=>by rw[if_neg (by simp)]⟩
 | cons v vs ih =>
  intro n;simp only[List.zipIdx_cons,List.foldl_cons,List.length_cons];obtain⟨h1,h2⟩:=ih (cs.setIfInBounds (off+n) v) (n+1);refine⟨by rw[h1];simp,fun hle j=>?_⟩;rw[h2 (by simp;omega) j];by_cases hj:off+n=j
  ·subst hj;rw[if_neg (by omega),if_pos (by omega)];simp[show off+n<cs.size by omega]
  ·by_cases hj2:off+(n+1)<=j/\j<off+(n+1)+vs.length
   ·rw[if_pos hj2,if_pos (by omega)];have:j-(off+n)=(j-(off+(n+1)))+1:=by omega
    rw[this,List.getElem?_cons_succ]
   ·rw[if_neg hj2,if_neg (by omega),Array.getElem?_setIfInBounds_ne hj]
theorem zP3 (cs:Array Value) (off:Nat) (vs:Array Value) :
  vs.zipIdx.foldl (fun (cs:Array Value) (x:Value×Nat)=>cs.setIfInBounds (off+x.2) x.1) cs=(vs.toList.zipIdx 0).foldl (fun (cs:Array Value) (x:Value×Nat)=>cs.setIfInBounds (off+x.2) x.1) cs:=by
 rw[<-Array.foldl_toList,Array.toList_zipIdx]
theorem RepCells.setAt {F:Nat->Option Nat} {w:World} {cs cs':List Value} {l:List AV} {off:Nat} {vs:List Value} {ys:List AV} (h:RepCells F w cs l) (hv:RepCells F w vs ys) (hfit:off+ys.length<=l.length)
  (hlen:cs'.length=cs.length) (hget:∀j:Nat,cs'[j]? = if off<=j/\j<off+vs.length then vs[j-off]? else cs[j]?):RepCells F w cs' (Fp.setAt l off ys):=by
 refine⟨by rw[hlen,h.1,zFP _ _ _ hfit],fun j u c hu hc=>?_⟩;rw[hget] at hu;rw[zUT _ _ _ hfit,<-hv.1] at hc;by_cases hj:off<=j/\j<off+vs.length
 ·rw[if_pos hj] at hu hc;exact hv.2 _ u c hu hc
 ·rw[if_neg hj] at hu hc;exact h.2 _ u c hu hc
theorem zOH {F:Nat->Option Nat} {w:World} {places:Nat->Option (Nat×Nat)} {offs:List (Nat×Nat)} (hpl:∀i,places i=offs[i]?) :
  ∀(ps:List (Nat×AV)) (vs:List (Nat×Value)) (cells:Array Value) (z l:List AV),RepCells F w cells.toList z->zGR offs z ps=some l->(∀x∈offs,x.1+x.2<=z.length) ->
   vs.length=ps.length->(∀(j:Nat) x y,vs[j]? = some x->ps[j]? = some y->x.1=y.1/\RepCells F w x.2.cells.toList y.2.cells) ->
   ∃r,Instr.fill places cells vs=some r/\RepCells F w r.toList l
 | [],vs,cells,z,l,hz,hf,_,hl,_=>by
  simp only[zGR,Option.some.injEq] at hf;have:vs=[]:=List.eq_nil_of_length_eq_zero hl;subst this;subst hf;exact⟨cells,rfl,hz⟩
 | (i,a)::ps,vs,cells,z,l,hz,hf,hfit,hl,hr=>by
  cases vs with
  | nil=>simp at hl
  | cons x vs =>
   obtain⟨i',v⟩:=x;obtain⟨h1,h2⟩:=hr 0 _ _ rfl rfl;simp only at h1;subst h1;unfold zGR at hf;split at hf
   ·rename_i off sz hoff;cases hb:Nat.beq a.cells.length sz with
    | false=>rw[hb] at hf;simp at hf
    | true =>
     rw[hb] at hf;simp only[cond_true] at hf;have hsz:=Nat.eq_of_beq_eq_true hb;have hm:=hfit (off,sz) (List.mem_of_getElem? hoff);simp only at hm;have hvs:v.cells.size=sz:=by rw[<-hsz,<-h2.1];simp
     have hcs:cells.size=z.length:=by rw[<-hz.1];simp
     have hfold:=zQG cells off v.cells.toList 0;simp only[Nat.add_zero] at hfold;have hz':RepCells F w (v.cells.zipIdx.foldl (fun (cs:Array Value) (x:Value×Nat)=>cs.setIfInBounds (off+x.2) x.1) cells).toList (Fp.setAt z off a.cells):=by
      rw[zP3];refine hz.setAt h2 (by omega) (by simpa using hfold.1) (fun j=>?_);have:=hfold.2 (by simp;omega) j;rw[<-Array.getElem?_toList] at this;rw[this];simp
     obtain⟨r,p1,p2⟩:=zOH hpl ps vs _ _ l hz' hf (fun x hx=>by rw[zFP _ _ _ (by omega)];exact hfit x hx) (by simpa using hl) (fun j x y hx hy=>hr (j+1) x y (by simpa using hx) (by simpa using hy));refine⟨r,?_,p2⟩;unfold Instr.fill;rw[hpl,hoff];simp only;rw[if_neg (by simp;omega)];exact p1
   ·simp at hf
theorem zZB {fs:Array Field} {offs:List (Nat×Nat)} (h:fs.toList.map (fun f=>(f.offset,(P.info? f.type).map (·.size)))=offs.map (fun p=>(p.1,some p.2))) (w:World) :
  ((fs.mapM fun f=>do pure (f.offset,<-Go.sizeOf f.type)):Sem (Array (Nat×Nat))).run P w = .ok offs.toArray w:=by
 obtain⟨l⟩:=fs;have key:∀(l:List Field) (offs:List (Nat×Nat)),l.map (fun f=>(f.offset,(P.info? f.type).map (·.size)))=offs.map (fun p=>(p.1,some p.2)) ->
   ((l.mapM fun f=>do pure (f.offset,<-Go.sizeOf f.type)):Sem (List (Nat×Nat))).run P w = .ok offs w:=by
  intro l;induction l with
  | nil=>intro offs h;cases offs<;>simp at h;simp
  | cons f l ih =>
   intro offs h;cases offs with
   | nil=>simp at h
   | cons p offs =>
    simp only[List.map_cons,List.cons.injEq,Prod.mk.injEq] at h;obtain⟨⟨h1,h2⟩,h3⟩:=h;obtain⟨i,hi,h2⟩:=Option.map_eq_some_iff.1 h2;have:=ih offs h3;simp only[List.mapM_cons,Sem.run_bind,xO hi,Result.andThen_ok,Sem.run_pure,this,h1,h2]
 simp only[List.mapM_toArray,Sem.run_map,key l offs h,Result.andThen_ok]
theorem zY4 {F:Nat->Option Nat} {w:World} {z:AV} (h:z.zok=true):Rep F w z.zv z/\z.isCell=true:=by
 cases z<;>simp[AV.zok] at h
 ·exact⟨.lit _ h,h⟩
 ·exact⟨.nil,rfl⟩
theorem zLP {F:Nat->Option Nat} {w:World} {z:List AV} (h:z.all AV.zok=true):RepCells F w (z.map AV.zv) z:=by
 refine⟨by simp,fun j u c hu hc=>?_⟩;rw[List.getElem?_map,hc] at hu;simp at hu;subst hu;exact zY4 (List.all_eq_true.1 h c (List.mem_of_getElem? hc))
theorem zUB {x:Operand} {a:AV} (h:z0Z e x=some a):opd e x = .v a/\∀l,a≠.tup l:=by
 unfold z0Z at h;split at h
 ·rename_i b hb;split at h
  ·cases h
  ·rename_i hn;injection h with h;subst h
   exact⟨hb,fun l hl=>hn l hl⟩
 ·cases h
theorem zHU {m:Nat} {e':Env} {cx:Ctx} {g:G} {a:Act} {w:World} (hag:Agree m e e') (hR:Rel cx g e' a w):∀{ps:List (Nat×Operand)} {ys:List (Nat×AV)},Sub (zG (ps.map (·.2))) m->zD5 e ps=some ys ->
  ys.length=ps.length/\∀(j:Nat) x y,(ps.map fun (i,x)=>(i,a.eval x))[j]? = some x->ys[j]? = some y->x.1=y.1/\RepCells g.F w x.2.cells.toList y.2.cells
 | [],ys,_,h=>by simp only[zD5,Option.some.injEq] at h;subst h;exact⟨rfl,fun j x y hx _=>by simp at hx⟩
 | (i,q)::r,ys,hs,h=>by
  unfold zD5 at h;split at h
  ·rename_i v l hv hr;injection h with h;subst h
   simp only[List.map_cons,zG] at hs;obtain⟨h1,h2⟩:=zHU hag hR hs.or_right hr;obtain⟨hv1,hv2⟩:=zUB hv;refine⟨by simp[h1],fun j x y hx hy=>?_⟩
   match j with
   | 0=>simp at hx hy;subst hx;subst hy;exact⟨rfl,(zF hag hR hs.or_left hv1).cells hv2⟩
   | j+1=>simp at hx hy;exact h2 j x y (by simpa using hx) hy
  ·cases h
theorem zS2 {T:TT} (hT:zN P T) {t:TypeId} {parts:Array (Nat×Operand)} (ho:o.op = .build t parts)
  (h:match find T t,zD5 e parts.toList with
   | .st _ offs _ z,some ps=>match zGR offs z ps with
    | some l=>k (putU o.dst (.v (.agg l)))
    | none=>False
   | _,_=>False):Does P hp arr o e k:=by
 split at h
 ·rename_i n offs fts z ps hf hp';split at h
  ·rename_i l hl;have hk:=find_ok hT t;rw[hf] at hk;obtain⟨fs,i,h1,h2,h3,h4,h5,h6,h7,h8,_⟩:=hk;have hs:=yY (hp:=hp) (arr:=arr) (o:=o) (by rw[ho]);rw[ho] at hs;simp only[Op.operands] at hs;refine zH h fun cx e' g ac w hag hR=>?_;obtain⟨q1,q2⟩:=zHU hag hR hs hp';obtain⟨r,r1,r2⟩:=zOH (F:=g.F) (w:=w) (places:=fun i=>offs.toArray[i]?) (offs:=offs) (fun i=>by simp) ps (parts.toList.map fun (i,x)=>(i,ac.eval x)) (z.map AV.zv).toArray z l (by simpa using zLP h5) hl
    (fun x hx=>by
     have:=List.all_eq_true.1 h8 x hx;simp only[Bool.and_eq_true] at this;have:=Nat.le_of_ble_eq_true this.2;omega) (by simp[q1]) q2
   refine⟨.agg r,w,?_,Grow.refl w,fun _=>r2.agg⟩;unfold execOp;simp only[ho,Instr.build,Sem.run_bind,zSZ h2 h4,run_underlying h1,zZB h7,Result.andThen_ok,Value.cells];have:(parts.map fun (i,x)=>(i,ac.eval x)).toList=parts.toList.map fun (i,x)=>(i,ac.eval x):=by simp
   rw[this,r1];simp
  ·exact h.elim
 ·exact h.elim
theorem Rep.sl_mk {F : Nat -> Option Nat} {w : World} {b off n cap sz : Nat} {l : List AV} {cs : Array Value} {E : TypeId} {fr : Nat × Nat} (hb : w.heap[b]? = some (.cells cs E fr)) (hn : l.length = n) (hc : n <= cap)
    (hsz : ∀ x ∈ l, x.cells.length = sz) (hcom : ∀ k, k < n * sz -> com F b (off + k))
    (hr : ∀ (i : Nat) x (j : Nat) c, l[i]? = some x -> x.cells[j]? = some c -> ∃ u, cs[off + (i * sz + j)]? = some u /\ Rep F w u c /\ c.isCell = true) :
    Rep F w (.slice (some ⟨b, off, none⟩) n cap) (.sl l) := by
  refine .sl b off n cap sz l (fun k => (cs[off + k]?).getD undef) hn hc hsz (fun x hx c hcx => ?_) (fun k hk => ⟨?_, hcom k hk⟩) (fun i x j c hx hj => ?_)
  · obtain ⟨i, hi⟩ := List.getElem?_of_mem hx
    obtain ⟨j, hj⟩ := List.getElem?_of_mem hcx;obtain ⟨u, _, _, h3⟩ := hr i x j c hi hj;exact h3
  · rw [World.cell_of_cells hb]
    have hs0 : 0 < sz := by rcases Nat.eq_zero_or_pos sz with h | h; · subst h; simp at hk
                            · exact h
    have hi : k / sz < l.length := by rw [hn]; exact Nat.div_lt_of_lt_mul (by rw [Nat.mul_comm]; exact hk)
    have hx := List.getElem?_eq_getElem hi;have hj : k % sz < l[k / sz].cells.length := by rw [hsz _ (List.getElem_mem hi)]; exact Nat.mod_lt _ hs0
    obtain ⟨u, h1, _, _⟩ := hr _ _ _ _ hx (List.getElem?_eq_getElem hj);have : k / sz * sz + k % sz = k := by rw [Nat.mul_comm]; exact Nat.div_add_mod k sz
    rw [this] at h1;rw [h1]; rfl
  · obtain ⟨u, h1, h2, _⟩ := hr i x j c hx hj
    simp only [h1, Option.getD_some]; exact h2
theorem zPO {sz:Nat}:∀(vs:List (Nat×Value)) (n0:Nat) (cells:Array Value),(∀(j:Nat) x,vs[j]? = some x->x.1=n0+j/\x.2.cells.size=sz)->(n0+vs.length)*sz<=cells.size ->
  ∃r,Instr.fill (fun i=>some (i*sz,sz)) cells vs=some r/\r.size=cells.size /\
   (∀q:Nat,q<n0*sz->r[q]? = cells[q]?)/\∀(i:Nat) x,vs[i]? = some x->∀j,j<sz->r[(n0+i)*sz+j]? = x.2.cells[j]?
 | [],n0,cells,_,_=>⟨cells,rfl,rfl,fun _ _=>rfl,fun i x hx=>by simp at hx⟩
 | (i,v)::vs,n0,cells,h,hle=>by
  obtain⟨h1,h2⟩:=h 0 _ rfl;simp only[Nat.add_zero] at h1 h2;subst h1;simp only[List.length_cons] at hle;have hmul:(i+1+vs.length)*sz=i*sz+sz+vs.length*sz:=by rw[Nat.add_mul,Nat.add_mul,Nat.one_mul]
  have hmul2:(i+(vs.length+1))*sz=i*sz+sz+vs.length*sz:=by rw[<-hmul];congr 1;omega
  have hf:=zQG cells (i*sz) v.cells.toList 0;simp only[Nat.add_zero,Array.length_toList] at hf;have hf2:=hf.2 (by omega);obtain⟨r,p1,p2,p3,p4⟩:=zPO vs (i+1) ((v.cells.toList.zipIdx 0).foldl (fun (cs:Array Value) (x:Value×Nat)=>cs.setIfInBounds (i*sz+x.2) x.1) cells) (fun j x hx=>by
   have:=h (j+1) x (by simpa using hx);exact⟨by omega,this.2⟩) (by rw[hf.1];omega)
  refine⟨r,?_,by rw[p2,hf.1],fun q hq=>?_,fun j x hx c hc=>?_⟩
  ·unfold Instr.fill;simp only;rw[if_neg (by simp;omega),zP3];exact p1
  ·rw[p3 q (by rw[Nat.add_mul,Nat.one_mul];omega),hf2 q,if_neg (by omega)]
  ·match j with
   | 0 =>
    simp at hx;subst hx;simp only[Nat.add_zero];rw[p3 _ (by rw[Nat.add_mul,Nat.one_mul];omega),hf2,if_pos (by omega)];simp
   | j+1 =>
    have:=p4 j x (by simpa using hx) c hc;rw[show i+(j+1)=i+1+j by omega];exact this
theorem zHT {m:Nat} {e':Env} {cx:Ctx} {g:G} {a:Act} {w:World} {sz:Nat} (hag:Agree m e e') (hR:Rel cx g e' a w):∀{n0:Nat} {ps:List (Nat×Operand)} {ys:List AV},Sub (zG (ps.map (·.2))) m->zDZ e sz n0 ps=some ys ->
  ys.length=ps.length/\(∀y∈ys,y.cells.length=sz)/\∀(j:Nat) x,(ps.map fun (i,x)=>(i,a.eval x))[j]? = some x->x.1=n0+j/\x.2.cells.size=sz/\∀y,ys[j]? = some y->RepCells g.F w x.2.cells.toList y.cells
 | n0,[],ys,_,h=>by simp only[zDZ,Option.some.injEq] at h;subst h;exact⟨rfl,fun y hy=>by simp at hy,fun j x hx=>by simp at hx⟩
 | n0,(i,q)::r,ys,hs,h=>by
  unfold zDZ at h;split at h
  ·rename_i v hi hv;split at h
   ·rename_i l hl hr;injection h with h;subst h
    simp only[List.map_cons,zG] at hs;obtain⟨h1,h2,h3⟩:=zHT hag hR hs.or_right hr;obtain⟨hv1,hv2⟩:=zUB hv;have hl':=Nat.eq_of_beq_eq_true hl;have hwt:∀l,wk v≠.tup l:=by
     intro l hh;unfold wk at hh;cases hn:zM0 v with
     | false=>rw[hn] at hh;exact hv2 l hh
     | true =>
      rw[hn] at hh;unfold zLY at hh;split at hh<;>first|exact hv2 l hh|cases hh
    have hc:=(wG (zF hag hR hs.or_left hv1)).cells hwt;refine⟨by simp[h1],fun y hy=>?_,fun j x hx=>?_⟩
    ·rcases List.mem_cons.1 hy with rfl|hy
     ·exact hl'
     ·exact h2 y hy
    ·match j with
     | 0 =>
      simp at hx;subst hx;refine⟨Nat.eq_of_beq_eq_true hi,?_,fun y hy=>by simp at hy;subst hy;exact hc⟩;have:=hc.1;simp only[Array.length_toList] at this;rw[<-hl'];exact this
     | j+1 =>
      simp at hx;obtain⟨p1,p2,p3⟩:=h3 j x (by simpa using hx);exact⟨by omega,p2,fun y hy=>p3 y (by simpa using hy)⟩
   ·cases h
  ·cases h
theorem zHZ {T:TT} (hT:zN P T) {t:TypeId} {n:Nat} {parts:Array (Nat×Operand)} (ho:o.op = .buildSlice t n parts)
  (h:match find T t,o.dst with
   | .sl _ esz,some d=>match zDZ e esz 0 parts.toList,Nat.beq parts.size n && Nat.ble (n*esz) 16777216 with
    | some l,true=>k [.val d (.v (.sl l)),.clr d,.own d 0 (esz+1)]
    | _,_=>False
   | _,_=>False):Does P hp arr o e k:=by
 split at h
 ·rename_i E esz d hf hd;split at h
  ·rename_i l hl hb;have hk:=find_ok hT t;rw[hf] at hk;obtain⟨it,i,z,h1,h2,h3,h4,h5,h6,h7,h8,h9,h10,_⟩:=hk;rw[Bool.and_eq_true] at hb;have hn:=Nat.eq_of_beq_eq_true hb.1;have hle:=Nat.le_of_ble_eq_true hb.2;have hs:=yY (hp:=hp) (arr:=arr) (o:=o) (by rw[ho]);rw[ho] at hs;simp only[Op.operands] at hs;refine⟨_,fun cx e' g ac w hdn hag hR K Q hK=>?_,?_,h⟩
   ·obtain⟨q1,q2,q3⟩:=zHT hag hR hs hl;have hlen:l.length=n:=by rw[q1];simpa using hn
    obtain⟨cs0,hcs1,hcs2⟩:∃cs0:Array Value,(n*esz=0->cs0 = #[])/\(n*esz≠0->cs0=z.cells):=by
     by_cases h0:n*esz=0
     ·exact⟨#[],fun _=>rfl,fun h=>absurd h0 h⟩
     ·exact⟨z.cells,fun h=>absurd h h0,fun _=>rfl⟩
    have hcsz:((Array.range (n*esz)).map (cs0[· % cs0.size]!)).size=n*esz:=by simp
    obtain⟨r,r1,r2,_,r4⟩:=zPO (sz:=esz) (parts.toList.map fun (i,x)=>(i,ac.eval x)) 0 ((Array.range (n*esz)).map (cs0[· % cs0.size]!)) (fun j x hx=>⟨(q3 j x hx).1,(q3 j x hx).2.1⟩) (by rw[hcsz];simp[hn]);have hrun:(execOp ac.eval o).run P w = .ok (.value (.slice (some ⟨w.heap.size,0,none⟩) n n)) (w.alloc (.cells r E)):=by
     unfold execOp;have hp1:(parts.map fun (i,x)=>(i,ac.eval x)).toList=parts.toList.map fun (i,x)=>(i,ac.eval x):=by simp
     simp only[ho,Instr.buildSlice,Sem.run_bind,run_underlying h1,xO h5,h6,Result.andThen_ok,Sem.run_pure,hp1];rw[if_neg (by omega)];by_cases h0:n*esz=0
     ·have:=hcs1 h0;subst this;rw[if_pos h0];simp only[Sem.run_bind,Sem.run_pure,Result.andThen_ok,r1,newRow,run_newObj,World.alloc_eq]
     ·have:=hcs2 h0;subst this;rw[if_neg h0];simp only[Sem.run_bind,Sem.run_pure,Result.andThen_ok,zSZ h5 h7,r1,newRow,run_newObj,World.alloc_eq]
    refine zU hrun ?_;have hgr:=Grow.alloc w (.cells r E);have hrep:Rep g.F (w.alloc (.cells r E)) (.slice (some ⟨w.heap.size,0,none⟩) n n) (.sl l):=by
     refine Rep.sl_mk (World.heap_alloc_new w _) hlen (Nat.le_refl _) q2 (fun k _ m hm=>by rw[hR.fresh _ (Nat.le_refl _)] at hm;cases hm) (fun i x j c hx hj=>?_);have hi:i<(parts.toList.map fun (i,x)=>(i,ac.eval x)).length:=by
      have:=(List.getElem?_eq_some_iff.1 hx).1;simp only[List.length_map];omega
     have hv:=List.getElem?_eq_getElem hi;obtain⟨p1,p2,p3⟩:=q3 i _ hv;have hjs:j<esz:=by rw[<-q2 x (List.mem_of_getElem? hx)];exact (List.getElem?_eq_some_iff.1 hj).1
     have hr:=r4 i _ hv j hjs;obtain⟨u,u1,u2,u3⟩:=(p3 x hx).cell hj;refine⟨u,?_,u2.mono (hgr.keeps fun _ _=>rfl),u3⟩;rw[show 0+(i*esz+j)=(0+i)*esz+j by simp,hr,<-Array.getElem?_toList];exact u1
    have h2:=((hR.grow hgr).put (hdn d hd) (x := .v (.sl l)) hrep).setOwn d 0 (esz+1) (fun sz v he hv=>by
     have:(app e' [.val d (.v (.sl l)),.clr d]).vals d = .v (.sl l):=zW _ _ _;rw[this] at hv;have hv:=hv.2;rw[yK (by rw[hR.size];exact hdn d hd)] at hv;subst hv;exact⟨.inr (.inl ⟨_,n,rfl⟩),fun b hb=>by simp[zV] at hb⟩)
    rw[hd];exact hK g _ _ h2
   ·have hwr:=zI5 (hp:=hp) (arr:=arr) o;rw[hd] at hwr;simp only[wrU];exact .or hwr.or_left (.or hwr.or_right (.or hwr.or_right (Sub.zero _)))
  ·exact h.elim
 ·exact h.elim
theorem zJA {T:TT} (hT:zN P T) {t:TypeId} {x ix:Operand} (ho:o.op = .indexAddr t x ix)
  (h:match opd e x,zB1 e ix,find T t with
   | .v (.sl l),some i,.sl _ esz => ∃a,0<=i/\l[i.toNat]? = some a/\a.cells.length=esz/\k (putU o.dst (.adE a.cells))
   | .v (.lit (.slice (some ⟨b,off,none⟩) n _)),some i,.sl _ esz=>0<=i/\i<(n:Nat)/\k (putU o.dst (.v (.lit (.pointer (some ⟨b,off+i.toNat*esz,none⟩)))))
   | _,_,_=>False):Does P hp arr o e k:=by
 split at h
 ·rename_i l i E esz hx hi hf;obtain⟨y,h0,h1,h2,h3⟩:=h;have hk:=find_ok hT t;rw[hf] at hk;obtain⟨it,ti,z,k1,k2,k3,k4,k5,k6,_⟩:=hk;have hs:=yY (hp:=hp) (arr:=arr) (o:=o) (by rw[ho]);rw[ho] at hs;simp only[Op.operands,zG] at hs;refine zH h3 fun cx e' g ac w hag hR=>?_;obtain⟨b,off,cap,us,hv,hcell⟩:=(zF hag hR hs.or_left hx).sl_elem h1;obtain⟨q,hq⟩:=qG hag hR hs.or_right.or_left hi;have hlt:i<l.length:=by
   have:=(List.getElem?_eq_some_iff.1 h1).1;omega
  refine⟨.pointer (some ⟨b,off+i.toNat*esz,none⟩),w,?_,Grow.refl w,fun _=>⟨b,_,rfl,fun j c hj=>?_⟩⟩
  ·unfold execOp;simp only[ho,Instr.indexAt,hq,hv,asIntOf,Sem.run_bind,Sem.run_pure,Result.andThen_ok,run_underlying k1];rw[if_pos ⟨h0,by exact_mod_cast hlt⟩];simp only[Sem.run_bind,xO k5,k6,Result.andThen_ok,Sem.run_pure,Addr.add_at]
  ·obtain⟨c1,c2,c3,c4⟩:=hcell j c hj;rw[h2] at c1 c2;rw[Nat.add_assoc];exact⟨_,c1,c2,c3,c4⟩
 ·rename_i b off n cap i E esz hx hi hf;obtain⟨h0,h1,h3⟩:=h;have hk:=find_ok hT t;rw[hf] at hk;obtain⟨it,ti,z,k1,k2,k3,k4,k5,k6,_⟩:=hk;have hs:=yY (hp:=hp) (arr:=arr) (o:=o) (by rw[ho]);rw[ho] at hs;simp only[Op.operands,zG] at hs;refine zH h3 fun cx e' g ac w hag hR=>?_;have hv:=(zF hag hR hs.or_left hx).lit_eq.1;obtain⟨q,hq⟩:=qG hag hR hs.or_right.or_left hi;refine⟨.pointer (some ⟨b,off+i.toNat*esz,none⟩),w,?_,Grow.refl w,fun _=>Rep.lit _ rfl⟩;unfold execOp;simp only[ho,Instr.indexAt,hq,hv,asIntOf,Sem.run_bind,Sem.run_pure,Result.andThen_ok,run_underlying k1];rw[if_pos ⟨h0,h1⟩];simp only[Sem.run_bind,xO k5,k6,Result.andThen_ok,Sem.run_pure,Addr.add_at]
 ·exact h.elim
end
section
variable {P:Program} {hp:Bool} {arr:Array Oper} {o:Oper} {e:Env} {k:List U->Prop} {T:TT}
theorem zB6 (hT:zN P T) {t:Nat} (h:∀n offs fts z,find T t≠.st n offs fts z) (h':find T t≠.other) (w:World):(isAgg t).run P w = .ok false w/\(Go.sizeOf t).run P w = .ok 1 w:=by
 have hk:=find_ok hT t;cases hf:find T t with
 | sc z =>
  rw[hf] at hk;obtain⟨d,i,h1,h2,h3,h4,_⟩:=hk;refine⟨?_,by rw[xO h3,h4]⟩;have:(match d with | .struct _=>false | .array _ _=>false|_=>true)=true:=by
   cases d<;>first|rfl|(unfold zKR at h2;split at h2<;>simp_all)
  cases d<;>first|(simp at this;done)|simp[isAgg,run_underlying h1]
 | st n offs fts z=>exact absurd hf (h n offs fts z)
 | sl E esz =>
  rw[hf] at hk;obtain⟨it,i,z,h1,h2,h3,_⟩:=hk;exact⟨by simp[isAgg,run_underlying h1],by rw[xO h2,h3]⟩
 | mp a b =>
  rw[hf] at hk;obtain⟨h1,i,h2,h3,_⟩:=hk;exact⟨by simp[isAgg,run_underlying h1],by rw[xO h2,h3]⟩
 | other=>exact absurd hf h'
theorem zA1 (hT:zN P T) {t n:Nat} {offs:List (Nat×Nat)} {fts:List Nat} {z:List AV} (h:find T t = .st n offs fts z) (w:World):(isAgg t).run P w = .ok true w/\(Go.sizeOf t).run P w = .ok n w:=by
 have hk:=find_ok hT t;rw[h] at hk;obtain⟨fs,i,h1,h2,h3,_⟩:=hk;exact⟨by simp[isAgg,run_underlying h1],by rw[xO h2,h3]⟩
theorem zP0 {F:Nat->Option Nat} {w:World} {cs:Array Value} {l:List AV} (h:RepCells F w cs.toList l) (off n:Nat) (hle:off+n<=l.length):RepCells F w (cs.extract off (off+n)).toList ((l.drop off).take n):=by
 have hl:=h.1;simp only[Array.length_toList] at hl;refine⟨by simp;omega,fun j u c hu hc=>?_⟩;have hj:j<n:=by
  have:=(List.getElem?_eq_some_iff.1 hc).1;simp at this;omega
 rw[List.getElem?_take_of_lt hj,List.getElem?_drop] at hc;rw[Array.getElem?_toList,Array.getElem?_extract_of_lt (by omega)] at hu;exact h.2 (off+j) u c (by rw[Array.getElem?_toList,<-hu];exact Array.getElem?_eq_getElem _) hc
theorem zRQ (hT:zN P T) {t:TypeId} {x:Operand} {f:Nat} (ho:o.op = .field t x f)
  (h:match find T t,opd e x with
   | .st _ offs fts _,.v (.agg l)=>match offs[f]?,fts[f]? with
    | some (off,_),some u=>match find T u with
     | .st n _ _ _=>match Nat.ble (off+n) l.length with
      | true=>k (putU o.dst (.v (.agg ((l.drop off).take n))))
      | false=>False
     | .sc _=>match l[off]? with
      | some c=>k (putU o.dst (.v c))
      | none=>False
     | .sl _ _=>match l[off]? with
      | some c=>k (putU o.dst (.v c))
      | none=>False
     | _=>False
    | _,_=>False
   | _,_=>False):Does P hp arr o e k:=by
 split at h
 ·rename_i n0 offs fts z l hf hx;split at h
  ·rename_i off sz u hoff hu;have hk:=find_ok hT t;rw[hf] at hk;obtain⟨fs,i,h1,h2,h3,h4,h5,h6,h7,h8,h9⟩:=hk;have hs:=yY (hp:=hp) (arr:=arr) (o:=o) (by rw[ho]);rw[ho] at hs;simp only[Op.operands,zG] at hs;obtain⟨fd,hfd,hft,hfo⟩:∃fd,fs[f]? = some fd/\fd.type=u/\fd.offset=off:=by
    rw[<-h9,List.getElem?_map] at hu;cases hfd:fs.toList[f]? with
    | none=>rw[hfd] at hu;simp at hu
    | some fd =>
     rw[hfd] at hu;simp at hu;refine⟨fd,by rw[<-Array.getElem?_toList];exact hfd,hu,?_⟩;have:=congrArg (·[f]?) h7;simp only[List.getElem?_map,hfd,hoff,Option.map_some,Option.some.injEq,Prod.mk.injEq] at this;exact this.1
   have start:∀(cx:Ctx) e' g (ac:Act) w,Agree (rd arr.toList hp o) e e'->Rel cx g e' ac w->∃cs,ac.eval x = .agg cs/\RepCells g.F w cs.toList l:=fun cx e' g ac w hag hR=>by
    obtain⟨cs,hv,hl,hcl,hr⟩:=(zF hag hR hs.or_left hx).agg_eq;exact⟨cs,hv,by simpa using hl,fun j u c hu hc=>⟨hr j u c (by simpa using hu) hc,hcl c (List.mem_of_getElem? hc)⟩⟩
   have one:∀c,l[off]? = some c->(∀w,(isAgg u).run P w = .ok false w)->k (putU o.dst (.v c))->Does P hp arr o e k:=fun c hc hsc hkk=>zH hkk fun cx e' g ac w hag hR=>by
    obtain⟨cs,hv,hr⟩:=start cx e' g ac w hag hR;obtain⟨v,q1,q2,_⟩:=hr.cell hc;refine⟨v,w,?_,Grow.refl w,fun _=>q2⟩;rw[Array.getElem?_toList] at q1;unfold execOp;simp only[ho,Instr.field,Sem.run_bind,run_underlying h1,Result.andThen_ok,hfd,hv,asAgg,Sem.run_pure,part,hft,hsc,Bool.false_eq_true,if_false,hfo,q1]
   split at h
   ·rename_i n offs2 fts2 z2 hfu;split at h
    ·rename_i hb;have hle:=Nat.le_of_ble_eq_true hb;refine zH h fun cx e' g ac w hag hR=>?_;obtain⟨cs,hv,hr⟩:=start cx e' g ac w hag hR;refine⟨.agg (cs.extract off (off+n)),w,?_,Grow.refl w,fun _=>(zP0 hr off n hle).agg⟩;unfold execOp;simp only[ho,Instr.field,Sem.run_bind,run_underlying h1,Result.andThen_ok,hfd,hv,asAgg,Sem.run_pure,part,hft,(zA1 hT hfu w).1,(zA1 hT hfu w).2,if_true,hfo]
    ·exact h.elim
   ·rename_i z2 hfu;split at h
    ·rename_i c hc;exact one c hc (fun w=>(zB6 hT (by rw[hfu];simp) (by rw[hfu];simp) w).1) h
    ·exact h.elim
   ·rename_i a2 b2 hfu;split at h
    ·rename_i c hc;exact one c hc (fun w=>(zB6 hT (by rw[hfu];simp) (by rw[hfu];simp) w).1) h
    ·exact h.elim
   ·exact h.elim
  ·exact h.elim
 ·exact h.elim
def zA9 (v:Option Value) (dflt n:Int):Prop:=(v=none/\n=dflt)∨∃q,v=some (.int q n)
theorem zOW {t E:TypeId} {i:TypeInfo} (h1:P.underlying t=some (.slice E)) (h2:P.info? E=some i) (w:World) (a:Option Addr) (len cap:Nat) {lo hi:Option Value} {l h:Int}
  (hl:zA9 lo 0 l) (hh:zA9 hi len h) (p1:0<=l) (p2:l<=h) (p3:h<=len) (p4:len<=cap) :
  (Instr.sliceAt t (.slice a len cap) lo hi none).run P w = .ok (.slice (if cap=l.toNat then a else a.map (·.add (l.toNat*i.size))) (h.toNat-l.toNat) (cap-l.toNat)) w:=by
 have hh':h<=cap:=by omega
 have hh0:0<=h:=by omega
 have hc:((h.toNat:Nat):Int)=h:=by omega
 rcases hl with⟨rfl,rfl⟩|⟨q,rfl⟩<;>rcases hh with⟨rfl,rfl⟩|⟨q',rfl⟩ <;>
  simp[Instr.sliceAt,Instr.slice,Instr.sliceBounds,Instr.sliceBound,asIntOf,run_underlying h1,xO h2,p1,p2,hh',hh0,hc]
 all_goals simp_all
theorem zNZ {t E:TypeId} {i:TypeInfo} (h1:P.underlying t=some (.slice E)) (h2:P.info? E=some i) (w:World) (a:Option Addr) (len cap:Nat) {lo:Option Value} {l h:Int} {q q':IntKind}
  (hl:zA9 lo 0 l) (p1:0<=l) (p2:l<=h) (p3:h<=len) (p4:len<=cap) :
  (Instr.sliceAt t (.slice a len cap) lo (some (.int q h)) (some (.int q' h))).run P w = .ok (.slice (if h.toNat=l.toNat then a else a.map (·.add (l.toNat*i.size))) (h.toNat-l.toNat) (h.toNat-l.toNat)) w:=by
 have hh':h<=cap:=by omega
 have hh0:0<=h:=by omega
 have hc:((h.toNat:Nat):Int)=h:=by omega
 have hc2:h<=((h.toNat:Nat):Int):=by omega
 rcases hl with⟨rfl,rfl⟩|⟨q3,rfl⟩ <;>
  simp[Instr.sliceAt,Instr.slice,Instr.sliceBounds,Instr.sliceBound,asIntOf,run_underlying h1,xO h2,p1,p2,hh',hh0,hc]
theorem zNN {t:TypeId} (h1:P.underlying t=some .string) (w:World) (s:ByteArray) {lo hi:Option Value} {l h:Int}
  (hl:zA9 lo 0 l) (hh:zA9 hi (s.size:Nat) h) (p1:0<=l) (p2:l<=h) (p3:h<=s.size) :
  (Instr.sliceAt t (.string s) lo hi none).run P w = .ok (.string (s.extract l.toNat h.toNat)) w:=by
 have hh0:0<=h:=by omega
 have hc:((h.toNat:Nat):Int)=h:=by omega
 rcases hl with⟨rfl,rfl⟩|⟨q,rfl⟩<;>rcases hh with⟨rfl,rfl⟩|⟨q',rfl⟩ <;>
  simp_all [Instr.sliceAt,Instr.slice,Instr.sliceBounds,Instr.sliceBound,asIntOf,run_underlying h1]
theorem Rep.sl_none {F:Nat->Option Nat} {w:World} {v:Value} {q:List AV} (h:Rep F w v (.sl q)) {n cap:Nat} (hv:v = .slice none n cap):cap=0:=by
 cases h with
 | slNil=>injection hv with _ _ h;exact h.symm
 | slZ a=>injection hv with _ _ h;exact h.symm
 | sl=>injection hv with h;cases h
theorem Rep.sl_sub {F:Nat->Option Nat} {w:World} {a:Option Addr} {n cap esz:Nat} {q:List AV} (h:Rep F w (.slice a n cap) (.sl q)) {l h' cap':Nat} (hl:l<=h') (hh:h'<=q.length) (hu:l=0∨Uni esz q) (hc:h'-l<=cap')
  (h0:cap=0->cap'=0) {same:Prop} [Decidable same] (hs:same->l=0∨h'=l) :
  Rep F w (.slice (if same then a else a.map (·.add (l*esz))) (h'-l) cap') (.sl ((q.take h').drop l)):=by
 cases h with
 | slNil =>
  simp only[List.length_nil,Nat.le_zero] at hh;subst hh;simp only[Nat.le_zero] at hl;subst hl;have:=h0 rfl;subst this;simp only[Option.map_none,ite_self,List.take_zero,List.drop_nil,Nat.sub_self];exact .slNil
 | slZ ad =>
  simp only[List.length_nil,Nat.le_zero] at hh;subst hh;simp only[Nat.le_zero] at hl;subst hl;have:=h0 rfl;subst this;simp only[List.take_zero,List.drop_nil,Nat.sub_self];split
  ·exact .slZ ad
  ·exact .slZ _
 | sl b off n cap sz q us hn hcap hsz hcl hcell hrep =>
  have hlen:((q.take h').drop l).length=h'-l:=by simp;omega
  have addr:∃off',(if same then some (⟨b,off,none⟩:Addr) else (some (⟨b,off,none⟩:Addr)).map (·.add (l*esz)))=some ⟨b,off',none⟩/\(off'=off+l*sz∨h'=l):=by
   by_cases hsame:same
   ·rw[if_pos hsame];refine⟨off,rfl,?_⟩;rcases hs hsame with h|h
    ·subst h;exact .inl (by simp)
    ·exact .inr h
   ·rw[if_neg hsame];simp only[Option.map_some,Addr.add_at];refine⟨_,rfl,?_⟩;rcases hu with h|h
    ·subst h;exact .inl (by simp)
    ·by_cases he:h'=l
     ·exact .inr he
     ·have hlt:l<q.length:=by omega
      have e1:=hsz _ (List.getElem_mem hlt);have e2:=h _ (List.getElem_mem hlt);rw[e1] at e2;subst e2;exact .inl rfl
  obtain⟨off',ha,hoff⟩:=addr;rw[ha];have mem:∀x∈(q.take h').drop l,x∈q:=fun x hx=>List.mem_of_mem_take (List.mem_of_mem_drop hx);have get:∀(i:Nat) x,((q.take h').drop l)[i]? = some x->q[l+i]? = some x/\l+i<h':=by
   intro i x hx;rw[List.getElem?_drop] at hx;have h1:=(List.getElem?_eq_some_iff.1 hx).1;simp at h1;rw[List.getElem?_take_of_lt (by omega)] at hx;exact⟨hx,by omega⟩
  refine .sl b off' (h'-l) cap' sz _ (fun k=>us (l*sz+k)) hlen hc (fun x hx=>hsz x (mem x hx)) (fun x hx=>hcl x (mem x hx)) (fun k hk=>?_) (fun i x j c hx hj=>?_)
  ·rcases hoff with h|h
   ·subst h;have:l*sz+k<n*sz:=by
     have:l*sz+(h'-l)*sz=h'*sz:=by rw[<-Nat.add_mul];congr 1;omega
     have:h'*sz<=n*sz:=Nat.mul_le_mul_right _ (by omega);omega
    rw[Nat.add_assoc];exact hcell _ this
   ·subst h;simp at hk
  ·have hg:=get i x hx;have:=hrep (l+i) x j c hg.1 hj;rw[Nat.add_mul,Nat.add_assoc] at this;exact this
theorem zAK {m:Nat} {e':Env} {cx:Ctx} {g:G} {a:Act} {w:World} (hag:Agree m e e') (hR:Rel cx g e' a w) {x:Option Operand} {d n:Int} (hs:Sub (zG x.toList) m) (h:bnd e x d=some n):zA9 (x.map a.eval) d n:=by
 cases x with
 | none=>simp[bnd] at h;exact .inl ⟨rfl,h.symm⟩
 | some v =>
  simp only[Option.toList_some,zG] at hs;obtain⟨q,hq⟩:=qG hag hR hs.or_left h;exact .inr ⟨q,by simp[hq]⟩
theorem zSQ (hT:zN P T) {t:TypeId} {x:Operand} {lo hi mx:Option Operand} (ho:o.op = .slice t x lo hi mx) (h:zNG T o t x lo hi mx e k):Does P hp arr o e k:=by
 have hs:=yY (hp:=hp) (arr:=arr) (o:=o) (by rw[ho]);rw[ho] at hs;simp only[Op.operands,Array.toList_append,zBM] at hs;have hsx:Sub (zJ x) (rd arr.toList hp o):=by
  have:=hs.or_left.or_left.or_left;simp only[zG] at this;exact this.or_left
 have hslo:Sub (zG lo.toList) (rd arr.toList hp o):=by have:=hs.or_left.or_left.or_right;cases lo<;>simpa using this
 have hshi:Sub (zG hi.toList) (rd arr.toList hp o):=by have:=hs.or_left.or_right;cases hi<;>simpa using this
 have hsmx:Sub (zG mx.toList) (rd arr.toList hp o):=by have:=hs.or_right;cases mx<;>simpa using this
 unfold zNG at h;split at h
 ·
  rename_i s hx;split at h
  ·rename_i z0 l h' hf hl hh;obtain⟨p1,p2,p3,hk⟩:=h;have hkt:=find_ok hT t;rw[hf] at hkt;obtain⟨d,it,hd,hsc,_⟩:=hkt;have hd':P.underlying t=some .string:=by
    cases d<;>simp[zKR] at hsc
    exact hd
   refine zH hk fun cx e' g ac w hag hR=>⟨_,w,?_,Grow.refl w,fun _=>Rep.lit _ rfl⟩
   have hv:=(zF hag hR hsx hx).lit_eq.1;have hrun:=zNN hd' w s (zAK hag hR hslo hl) (zAK hag hR hshi hh) p1 p2 p3;unfold execOp;simp only[ho,hv,Option.map_none,Sem.run_bind,hrun,Result.andThen_ok,Sem.run_pure]
  ·exact h.elim
 ·rename_i a hn hx;split at h
  ·rename_i q E esz hw hf;have hk:=find_ok hT t;rw[hf] at hk;obtain⟨it,ti,z,k1,k2,k3,k4,k5,k6,_⟩:=hk;have shape:∀(cx:Ctx) e' g (ac:Act) w,Agree (rd arr.toList hp o) e e'->Rel cx g e' ac w->∃ad cap,ac.eval x = .slice ad q.length cap/\q.length<=cap/\Rep g.F w (.slice ad q.length cap) (.sl q)/\(ad=none->cap=0):=fun cx e' g ac w hag hR=>by
    have hr:=wG (zF hag hR hsx hx);rw[hw] at hr;obtain⟨ad,cap,h1,h2⟩:=hr.sl_shape;rw[h1] at hr;refine⟨ad,cap,h1,h2,hr,fun had=>?_⟩;subst had;exact hr.sl_none rfl
   split at h
   ·rename_i l h' hl hh;obtain⟨p1,p2,p3,hu,hkk⟩:=h;refine zH hkk fun cx e' g ac w hag hR=>?_;obtain⟨ad,cap,q1,q2,q3,q4⟩:=shape cx e' g ac w hag hR;have hrun:=zOW (P:=P) k1 k5 w ad q.length cap (zAK hag hR hslo hl) (zAK hag hR hshi hh) p1 p2 p3 q2;rw[k6] at hrun;refine⟨.slice (if cap=l.toNat then ad else ad.map (·.add (l.toNat*esz))) (h'.toNat-l.toNat) (cap-l.toNat),w,?_,Grow.refl w,fun _=>?_⟩
    ·unfold execOp;simp only[ho,q1,Option.map_none,Sem.run_bind,hrun,Result.andThen_ok,Sem.run_pure]
    ·exact Rep.sl_sub q3 (by omega) (by omega) (hu.imp (fun h=>by omega) id) (by omega) (fun h=>by omega) (fun h=>by omega)
   ·rename_i l h' m hl hh;split at h
    ·rename_i m' d hv0 hm hd;obtain⟨p1,p2,p3,p5,hu,hkk⟩:=h;subst p5;refine⟨_,fun cx e' g ac w hdn hag hR K Q hK=>?_,?_,hkk⟩
     ·obtain⟨ad,cap,q1,q2,q3,q4⟩:=shape cx e' g ac w hag hR;obtain⟨qm,hqm⟩:=qG hag hR (by simpa[zG] using hsmx) hm;obtain⟨qh,hqh⟩:=qG hag hR (by simpa[zG] using hshi) hh;have hrun:=zNZ (P:=P) (q:=qh) (q':=qm) k1 k5 w ad q.length cap (zAK hag hR hslo hl) p1 p2 p3 q2;have hrun2:(execOp ac.eval o).run P w = .ok (.value (.slice (if m'.toNat=l.toNat then ad else ad.map (·.add (l.toNat*esz))) (m'.toNat-l.toNat) (m'.toNat-l.toNat))) w:=by
       rw[k6] at hrun;unfold execOp;simp only[ho,q1,Option.map_some,hqh,hqm,Sem.run_bind,hrun,Result.andThen_ok,Sem.run_pure]
      refine zU hrun2 ?_;have hrep:Rep g.F w (.slice (if m'.toNat=l.toNat then ad else ad.map (·.add (l.toNat*esz))) (m'.toNat-l.toNat) (m'.toNat-l.toNat)) (.sl ((q.take m'.toNat).drop l.toNat)) :=
       Rep.sl_sub q3 (by omega) (by omega) (hu.imp (fun h=>by omega) id) (Nat.le_refl _) (fun h=>by omega) (fun h => .inr h)
      rw[hd];refine hK g _ _ ((hR.put (hdn d hd) (x := .v _) hrep).setOwn d 0 (esz+1) (fun sz v he hv=>?_));have:(app e' [.val d (.v (.sl ((q.take m'.toNat).drop l.toNat))),.clr d]).vals d = .v (.sl ((q.take m'.toNat).drop l.toNat)):=zW _ _ _;rw[this] at hv;have hv:=hv.2;rw[yK (by rw[hR.size];exact hdn d hd)] at hv;subst hv;exact⟨.inr (.inl ⟨_,_,rfl⟩),fun b hb=>by simp[zV] at hb;cases hb':(if m'.toNat=l.toNat then ad else ad.map (·.add (l.toNat*esz)))<;>rw[hb'] at hb<;>simp at hb⟩
     ·have hwr:=zI5 (hp:=hp) (arr:=arr) o;rw[hd] at hwr;simp only[wrU];exact .or hwr.or_left (.or hwr.or_right (.or hwr.or_right (Sub.zero _)))
    ·exact h.elim
   ·exact h.elim
  ·exact h.elim
 ·exact h.elim
end
section
variable {P:Program} {hp:Bool} {arr:Array Oper} {o:Oper} {e:Env} {k:List U->Prop} {T:TT}
theorem zQZ (hT:zN P T) {t:Nat} {q:IntKind} {n:Int} (h:find T t = .sc (.lit (.int q n))):P.underlying t=some (.int q):=by
 have hk:=find_ok hT t;rw[h] at hk;obtain⟨d,i,h1,h2,_⟩:=hk;cases d<;>simp[zKR] at h2
 rw[h1,zG4 h2]
theorem zJK (hT:zN P T) {t:Nat} {s:ByteArray} (h:find T t = .sc (.lit (.string s))):P.underlying t=some .string:=by
 have hk:=find_ok hT t;rw[h] at hk;obtain⟨d,i,h1,h2,_⟩:=hk;cases d<;>simp[zKR] at h2
 exact h1
theorem zZK (hT:zN P T) {t:Nat} {z:AV} (h:find T t = .sc z):∃d,P.underlying t=some d:=by
 have hk:=find_ok hT t;rw[h] at hk;obtain⟨d,i,h1,_⟩:=hk;exact⟨d,h1⟩
theorem zLV {F:Nat->Option Nat} {w:World}:∀{l:List AV} {bs:List UInt8} {cs:List Value},u8s l=some bs->cs.length=l.length->(∀(i:Nat) v a,cs[i]? = some v->l[i]? = some a->Rep F w v a) ->
  ∀ acc : ByteArray, ((forIn cs acc fun c (r : ByteArray) => (match c with | .int .u8 n => pure (ForInStep.yield (r.push (UInt8.ofNat n.toNat))) | _ => do stuck "bytesToString: byte expected"; pure (ForInStep.yield r)) : Sem ByteArray)).run P w = .ok (bs.foldl ByteArray.push acc) w
 | [],bs,cs,h,hl,_,acc=>by
  simp only[u8s,Option.some.injEq] at h;have:cs=[]:=List.eq_nil_of_length_eq_zero hl;subst this;subst h;simp
 | y::r,bs,cs,h,hl,hr,acc=>by
  cases cs with
  | nil=>simp at hl
  | cons c cs =>
   unfold u8s at h;split at h
   ·rename_i heq;cases heq
   ·rename_i n r' heq;injection heq with e1 e2
    subst e1;subst e2;cases hu:u8s r with
    | none=>rw[hu] at h;simp at h
    | some l =>
     rw[hu] at h;simp only[Option.some.injEq] at h;subst h;have hv:=(hr 0 c _ rfl rfl).lit_eq.1;subst hv;simp only[List.forIn_cons,Sem.run_bind,Sem.run_pure,Result.andThen_ok,List.foldl_cons];exact zLV hu (by simpa using hl) (fun i v a hv ha=>hr (i+1) v a (by simpa using hv) (by simpa using ha)) _
   ·cases h
theorem zUS (l:List UInt8):∀acc:ByteArray,l.foldl ByteArray.push acc=⟨acc.data++l.toArray⟩:=by
 induction l with
 | nil=>intro acc;simp
 | cons c l ih =>
  intro acc;rw[List.foldl_cons,ih];simp[ByteArray.push]
theorem zEI {F:Nat->Option Nat} {w:World} {b off n cap sz m:Nat} {l:List AV} (h:Rep F w (.slice (some ⟨b,off,none⟩) n cap) (.sl l)) (hu:Uni sz l) (hm:m=n*sz) :
  ∃cs:Array Value,(∀w':World,(∀k,w'.cell? ⟨b,k,none⟩=w.cell? ⟨b,k,none⟩)->(loadCells ⟨b,off,none⟩ m).run P w' = .ok cs w')/\cs.size=m/\(∀k,k<m->w.cell? ⟨b,off+k,none⟩=cs[k]?/\com F b (off+k)) /\
   ∀(i:Nat) x (j:Nat) c,l[i]? = some x->x.cells[j]? = some c->∃u,cs[i*sz+j]? = some u/\Rep F w u c/\c.isCell=true:=by
 subst hm;cases h with
 | slZ a =>
  refine⟨#[],fun w' _=>?_,by simp,fun k hk=>by simp at hk,fun i x j c hx=>by simp at hx⟩;simp[loadCells,loadCellsFrom]
 | sl _ _ _ _ sz' _ us hn hc hsz hcl hcell hrep =>
  have key:∀(i:Nat) x,l[i]? = some x->sz'=sz:=fun i x hx=>by rw[<-hsz x (List.mem_of_getElem? hx),hu x (List.mem_of_getElem? hx)]
  have hlt:∀k,k<n*sz->k<n*sz':=fun k hk=>by
   have hn0:0<l.length:=by
    rcases Nat.eq_zero_or_pos l.length with h0|h0
    ·rw[<-hn,h0] at hk;simp at hk
    ·exact h0
   rw[key 0 _ (List.getElem?_eq_getElem hn0)];exact hk
  refine⟨(Array.ofFn fun k:Fin (n*sz)=>us k),fun w' hw'=>?_,by simp,fun k hk=>⟨by rw[(hcell k (hlt k hk)).1];simp[hk],(hcell k (hlt k hk)).2⟩,fun i x j c hx hj=>?_⟩
  ·have:=run_loadCells (P:=P) w' ⟨b,off,none⟩ (n*sz) us (fun j hj=>by rw[Addr.add_at,hw'];exact (hcell j (hlt j hj)).1);rw[this]
   congr 1
   apply Array.ext
   ·simp
   ·intro i h1 h2;simp
  ·have hs:=key i x hx;have hi:i<n:=by rw[<-hn];exact (List.getElem?_eq_some_iff.1 hx).1
   have hjs:j<sz:=by rw[<-hu x (List.mem_of_getElem? hx)];exact (List.getElem?_eq_some_iff.1 hj).1
   have hlt2:i*sz+j<n*sz:=by
    have:(i+1)*sz<=n*sz:=Nat.mul_le_mul_right _ (by omega);rw[Nat.add_mul,Nat.one_mul] at this;omega
   have:=hrep i x j c hx hj;rw[hs] at this;exact⟨us (i*sz+j),by simp[hlt2],this,hcl x (List.mem_of_getElem? hx) c (List.mem_of_getElem? hj)⟩
theorem zTM:∀{l:List AV} {bs:List UInt8},u8s l=some bs->Uni 1 l
 | [],_,_=>fun a ha=>by simp at ha
 | y::r,bs,h=>by
  unfold u8s at h;split at h
  ·rename_i heq;cases heq
  ·rename_i n r' heq;injection heq with e1 e2
   subst e1;subst e2;cases hu:u8s r with
   | none=>rw[hu] at h;simp at h
   | some l =>
    intro a ha;rcases List.mem_cons.1 ha with rfl|ha
    ·rfl
    ·exact zTM hu a ha
  ·cases h
theorem Rep.sl_noneNil {F:Nat->Option Nat} {w:World} {v:Value} {q:List AV} (h:Rep F w v (.sl q)) {n cap:Nat} (hv:v = .slice none n cap):q=[]:=by
 cases h with
 | slNil=>rfl
 | slZ a=>rfl
 | sl=>injection hv with h;cases h
theorem Rep.sl_addr {F:Nat->Option Nat} {w:World} {v:Value} {q:List AV} (h:Rep F w v (.sl q)) {ad:Addr} {n cap:Nat} (hv:v = .slice (some ad) n cap):(∃b off,ad=⟨b,off,none⟩)∨q=[]:=by
 cases h with
 | slNil=>injection hv with h;cases h
 | slZ a=>exact .inr rfl
 | sl b off=>injection hv with h;injection h with h;exact .inl ⟨b,off,h.symm⟩
theorem zQQ:∀{l:List AV} {bs:List UInt8},u8s l=some bs->∀a∈l,a.cells=[a]
 | [],_,_=>fun a ha=>by simp at ha
 | y::r,bs,h=>by
  unfold u8s at h;split at h
  ·rename_i heq;cases heq
  ·rename_i n r' heq;injection heq with e1 e2
   subst e1;subst e2;cases hu:u8s r with
   | none=>rw[hu] at h;simp at h
   | some l =>
    intro a ha;rcases List.mem_cons.1 ha with rfl|ha
    ·rfl
    ·exact zQQ hu a ha
  ·cases h
theorem zM8 (hT:zN P T) {s t:TypeId} {x:Operand} (ho:o.op = .convert s t x)
  (h:match opd e x,find T t,find T s with
   | .v (.lit (.int _ n)),.sc (.lit (.int q _)),.sc _=>k (putU o.dst (.v (.lit (.int q (q.wrap n)))))
   | .v (.lit (.int _ n)),.sc (.lit (.string _)),.sc _=>k (putU o.dst (.v (.lit (.string (Utf8.encode n)))))
   | .v (.lit (.string s)),.sc (.lit (.string _)),.sc (.lit (.string _))=>k (putU o.dst (.v (.lit (.string s))))
   | .v (.sl l),.sc (.lit (.string _)),.sl u 1=>match find T u,u8s l with
    | .sc (.lit (.int .u8 _)),some bs=>k (putU o.dst (.v (.lit (.string ⟨bs.toArray⟩))))
    | _,_=>False
   | _,_,_=>False):Does P hp arr o e k:=by
 have hs:=yY (hp:=hp) (arr:=arr) (o:=o) (by rw[ho]);rw[ho] at hs;simp only[Op.operands,zG] at hs;split at h
 ·rename_i q0 n q z zs hx hft hfs;have h1:=zQZ hT hft;obtain⟨d,h2⟩:=zZK hT hfs;refine zH h fun cx e' g ac w hag hR=>⟨_,w,?_,Grow.refl w,fun _=>Rep.lit _ rfl⟩
  have hv:=(zF hag hR hs.or_left hx).lit_eq.1;unfold execOp;simp only[ho,hv,convert,Sem.run_bind,run_underlying h1,run_underlying h2,Result.andThen_ok,Conv.intToInt,Sem.run_pure]
 ·rename_i q0 n z zs hx hft hfs;have h1:=zJK hT hft;obtain⟨d,h2⟩:=zZK hT hfs;refine zH h fun cx e' g ac w hag hR=>⟨_,w,?_,Grow.refl w,fun _=>Rep.lit _ rfl⟩
  have hv:=(zF hag hR hs.or_left hx).lit_eq.1;unfold execOp;simp only[ho,hv,convert,Sem.run_bind,run_underlying h1,run_underlying h2,Result.andThen_ok,Conv.intToString,Sem.run_pure]
 ·rename_i str z zs hx hft hfs;have h1:=zJK hT hft;have h2:=zJK hT hfs;refine zH h fun cx e' g ac w hag hR=>⟨_,w,?_,Grow.refl w,fun _=>Rep.lit _ rfl⟩
  have hv:=(zF hag hR hs.or_left hx).lit_eq.1;unfold execOp;simp only[ho,hv,convert,Sem.run_bind,run_underlying h1,run_underlying h2,Result.andThen_ok,Sem.run_pure]
 ·rename_i l z u hx hft hfs;split at h
  ·rename_i zz bs hfu hbs;have h1:=zJK hT hft;have h3:=zQZ hT hfu;have hk:=find_ok hT s;rw[hfs] at hk;obtain⟨it,ti,z',k1,_⟩:=hk;refine zH h fun cx e' g ac w hag hR=>?_;have hr:=zF hag hR hs.or_left hx;obtain⟨ad,cap,hv,hcap⟩:=hr.sl_shape;refine⟨_,w,?_,Grow.refl w,fun _=>Rep.lit _ rfl⟩;unfold execOp;rw[hv] at hr;cases ad with
   | none =>
    have:l=[]:=hr.sl_noneNil rfl;subst this;simp only[u8s,Option.some.injEq] at hbs;subst hbs;simp only[ho,hv,convert,Sem.run_bind,run_underlying h1,run_underlying k1,run_underlying h3,Result.andThen_ok,Conv.bytesToString,Sem.run_pure]
    rfl
   | some ad =>
    by_cases hq:l=[]
    ·subst hq;simp only[u8s,Option.some.injEq] at hbs;subst hbs;simp only[ho,hv,convert,Sem.run_bind,run_underlying h1,run_underlying k1,run_underlying h3,Result.andThen_ok,Conv.bytesToString,Sem.run_pure,List.length_nil,loadCells,loadCellsFrom]
     rfl
    obtain⟨b,off,rfl⟩:=(Rep.sl_addr hr (ad:=ad) rfl).resolve_right hq;obtain⟨cs,r1,r2,_,r3⟩:=zEI (P:=P) (sz:=1) hr (zTM hbs) rfl;simp only[Nat.mul_one] at r1 r2;have r1:=r1 w (fun _=>rfl);have hb:=zLV (P:=P) (F:=g.F) (w:=w) (cs:=cs.toList) hbs (by simp[r2]) (fun i v a hv ha=>by
     have hac:=zQQ hbs a (List.mem_of_getElem? ha);obtain⟨u,u1,u2,_⟩:=r3 i a 0 a ha (by rw[hac];rfl);rw[<-Array.getElem?_toList] at u1;simp only[Nat.mul_one,Nat.add_zero] at u1;rw[u1] at hv;injection hv with hv;subst hv;exact u2) ByteArray.empty
    simp only[ho,hv,convert,Sem.run_bind,run_underlying h1,run_underlying k1,run_underlying h3,Result.andThen_ok,Conv.bytesToString,r1,Sem.run_pure];rw[<-Array.forIn_toList];refine (congrArg (fun r:Result ByteArray=>(r.andThen fun a w'=>Result.ok (Value.string a) w').andThen fun a w'=>Result.ok (Next.value a) w') hb).trans ?_;rw[zUS];simp only[Result.andThen_ok];have he:ByteArray.empty.data = #[]:=rfl;rw[he,Array.empty_append]
  ·exact h.elim
 ·exact h.elim
theorem zM2 {c:Call} (ho:o.op = .call c) {b:Builtin} (hc:c.callee = .builtin b):Sub (zG c.args.toList) (rd arr.toList hp o):=by
 have:Sub (zG c.args.toList ||| zKP b c.args.toList) (rd arr.toList hp o):=by
  unfold rd;rw[ho];simp only[hc];exact Sub.inr
 exact this.or_left
theorem yH {ρ:Operand->Value} {c:Call} (ho:o.op = .call c) {b:Builtin} (hc:c.callee = .builtin b) :
  ∃cs,execOp ρ o=builtin b c.argTypes o.type cs (c.args.map ρ):=by
 refine⟨?cs,?h⟩
 case h =>
  unfold execOp;simp only[ho,resolve,hc,pure_bind,invoke]
  rfl
theorem qK {c:Call} {l:List Operand} (h:c.args.toList=l):c.args=l.toArray:=by rw[<-Array.toArray_toList (xs:=c.args),h]
theorem qM {c:Call} {l:List TypeId} (h:c.argTypes.toList=l):c.argTypes=l.toArray:=by rw[<-Array.toArray_toList (xs:=c.argTypes),h]
theorem z0A (hT:zN P T) {c:Call} (ho:o.op = .call c) (hc:c.callee = .builtin .len) {x:Operand} {t:Nat} {ts:List Nat} (hts:c.argTypes.toList=t::ts) (hx:c.args.toList=[x])
  (h:zZY T o t x e k):Does P hp arr o e k:=by
 have hs:=zM2 (hp:=hp) (arr:=arr) ho hc;rw[hx] at hs;simp only[zG] at hs;have ha:=qK hx;have ht:=qM hts;unfold zZY at h;split at h
 ·rename_i s z hxv hf;have h1:=zJK hT hf;refine zH h fun cx e' g ac w hag hR=>⟨_,w,?_,Grow.refl w,fun _=>Rep.lit _ rfl⟩
  have hv:=(zF hag hR hs.or_left hxv).lit_eq.1;obtain⟨cs,hex⟩:=yH (ρ:=ac.eval) ho hc;rw[hex,ha,ht];simp[builtin,Builtin.len_,hv,run_underlying h1,goInt]
 ·rename_i a E esz hn hxv hf;have hk:=find_ok hT t;rw[hf] at hk;obtain⟨it,ti,z',k1,_⟩:=hk;split at h
  ·rename_i l hw;refine zH h fun cx e' g ac w hag hR=>⟨_,w,?_,Grow.refl w,fun _=>Rep.lit _ rfl⟩
   have hr:=wG (zF hag hR hs.or_left hxv);rw[hw] at hr;obtain⟨ad,cap,hv,_⟩:=hr.sl_shape;obtain⟨cs,hex⟩:=yH (ρ:=ac.eval) ho hc;rw[hex,ha,ht];simp[builtin,Builtin.len_,hv,run_underlying k1,goInt]
  ·rename_i ad n cap hw;refine zH h fun cx e' g ac w hag hR=>⟨_,w,?_,Grow.refl w,fun _=>Rep.lit _ rfl⟩
   have hr:=wG (zF hag hR hs.or_left hxv);rw[hw] at hr;have hv:=hr.lit_eq.1;obtain⟨cs,hex⟩:=yH (ρ:=ac.eval) ho hc;rw[hex,ha,ht];simp[builtin,Builtin.len_,hv,run_underlying k1,goInt]
  ·exact h.elim
 ·exact h.elim
theorem zJF {F:Nat->Option Nat} {w:World}:∀{q:IntKind} {x m:Int} {r:List AV} {vs:List Value},zG3 q x r=some m->vs.length=r.length->(∀(i:Nat) v y,vs[i]? = some v->r[i]? = some y->Rep F w v y) ->
  (vs.foldlM Builtin.max2 (.int q x):Sem Value).run P w = .ok (.int q m) w
 | q,x,m,[],vs,h,hl,_=>by
  simp only[zG3,Option.some.injEq] at h;have:vs=[]:=List.eq_nil_of_length_eq_zero hl;subst this;subst h;rfl
 | q,x,m,y::r,vs,h,hl,hr=>by
  cases vs with
  | nil=>simp at hl
  | cons v vs =>
   unfold zG3 at h;split at h
   ·rename_i heq;cases heq
   ·rename_i q' z r' heq;injection heq with e1 e2
    subst e1;subst e2;cases hk:zDN q q' with
    | false=>rw[hk] at h;simp at h
    | true =>
     rw[hk] at h;have hv:=(hr 0 v _ rfl rfl).lit_eq.1;subst hv;simp only[List.foldlM_cons,Sem.run_bind,Builtin.max2,Sem.run_pure,Result.andThen_ok];exact zJF h (by simpa using hl) (fun i v y hv hy=>hr (i+1) v y (by simpa using hv) (by simpa using hy))
   ·cases h
theorem zY3 {c:Call} (ho:o.op = .call c) (hc:c.callee = .builtin .min)
  (h:match opds e c.args.toList with
   | some (.lit (.int q x)::r)=>match zGU q x r with
    | some m=>k (putU o.dst (.v (.lit (.int q m))))
    | none=>False
   | _=>False):Does P hp arr o e k:=by
 have hs:=zM2 (hp:=hp) (arr:=arr) ho hc;split at h
 ·rename_i q x r hargs;split at h
  ·rename_i m hm;refine zH h fun cx e' g ac w hag hR=>⟨_,w,?_,Grow.refl w,fun _=>Rep.lit _ rfl⟩
   obtain⟨h1,h2⟩:=zFV hag hR hs hargs;cases hl:c.args.toList with
   | nil=>rw[hl] at h1;simp at h1
   | cons y ys =>
    rw[hl] at h1 h2;have hv:=(h2 0 _ _ rfl rfl).lit_eq.1;obtain⟨cs,hex⟩:=yH (ρ:=ac.eval) ho hc;rw[hex,qK hl];have hrun:=zKK (P:=P) (ts := #[]) (ty:=0) (F:=g.F) (w:=w) hm (vs:=ys.map ac.eval) (by simp at h1;simp[h1]) (fun i v y hv hy=>h2 (i+1) v y (by simpa using hv) (by simpa using hy));simp only[builtin,Builtin.min_,List.map_toArray,List.map_cons,hv,Sem.run_bind,hrun,Result.andThen_ok,Sem.run_pure]
  ·exact h.elim
 ·exact h.elim
theorem zXU {c:Call} (ho:o.op = .call c) (hc:c.callee = .builtin .max)
  (h:match opds e c.args.toList with
   | some (.lit (.int q x)::r)=>match zG3 q x r with
    | some m=>k (putU o.dst (.v (.lit (.int q m))))
    | none=>False
   | _=>False):Does P hp arr o e k:=by
 have hs:=zM2 (hp:=hp) (arr:=arr) ho hc;split at h
 ·rename_i q x r hargs;split at h
  ·rename_i m hm;refine zH h fun cx e' g ac w hag hR=>⟨_,w,?_,Grow.refl w,fun _=>Rep.lit _ rfl⟩
   obtain⟨h1,h2⟩:=zFV hag hR hs hargs;cases hl:c.args.toList with
   | nil=>rw[hl] at h1;simp at h1
   | cons y ys =>
    rw[hl] at h1 h2;have hv:=(h2 0 _ _ rfl rfl).lit_eq.1;obtain⟨cs,hex⟩:=yH (ρ:=ac.eval) ho hc;rw[hex,qK hl];have hrun:=zJF (P:=P) (F:=g.F) (w:=w) hm (vs:=ys.map ac.eval) (by simp at h1;simp[h1]) (fun i v y hv hy=>h2 (i+1) v y (by simpa using hv) (by simpa using hy));simp only[builtin,Builtin.max_,List.map_toArray,List.map_cons,hv,Sem.run_bind,hrun,Result.andThen_ok,Sem.run_pure]
  ·exact h.elim
 ·exact h.elim
theorem zZ6 {t:TypeId} {x:Operand} (ho:o.op = .box t x)
  (h:match opd e x,o.dst with
   | .v a,some d=>match e.al d,a with
    | _,.tup _=>False
    | false,_=>k [.val d (.box 1 a),.clr d,.al d]
    | _,_=>False
   | _,_=>False):Does P hp arr o e k:=by
 have hs:Sub (zJ x ||| (match o.dst with|some d=>bZ d|none=>0)) (rd arr.toList hp o):=by unfold rd;rw[ho];exact Sub.inr
 split at h
 ·rename_i a d hx hd;have fin:(∀l,a≠.tup l)->e.al d=false->k [.val d (.box 1 a),.clr d,.al d]->Does P hp arr o e k:=fun hnt hal hk=>by
   refine⟨_,fun cx e' g ac w hdn hag hR K Q hK=>?_,?_,hk⟩
   ·have hrun:(execOp ac.eval o).run P w = .ok (.value (.pointer (some ⟨w.heap.size,0,none⟩))) (w.alloc (.cells (ac.eval x).cells t)):=by
     unfold execOp;simp only[ho,Instr.box,newVar,newRow,Sem.run_bind,run_newObj,Sem.run_pure,Result.andThen_ok,World.alloc_eq]
    refine zU hrun ?_;have hal':e'.al d=false:=by rw[<-hag.al d (hs.or_right _ (by rw[hd];exact zNE d)),hal]
    have hc:=(zF hag hR hs.or_left hx).cells hnt;obtain⟨g',h2⟩:=hR.newBox (hdn d hd) hal' (Grow.alloc w _) (Nat.le_refl _) (World.heap_alloc_new w (.cells (ac.eval x).cells t)) hc;rw[hd];exact hK g' _ _ h2
   ·have hw:Sub (yI o.dst ||| (match o.dst with|some d=>bZ d|none=>0)) (wr arr.toList hp o):=by unfold wr;rw[ho];exact Sub.refl _
    rw[hd] at hw;simp only[wrU];exact .or hw.or_left.or_left (.or hw.or_left.or_right (.or hw.or_right (Sub.zero _)))
  split at h
  ·exact h.elim
  ·rename_i hal hnt;exact fin (fun l hl=>hnt l hl) (by assumption) h
  ·exact h.elim
 ·exact h.elim
theorem zCI {t:TypeId} (ho:o.op = .alloc t) {d:Nat} (hd:o.dst=some d) {i:TypeInfo} {zv:Value} {z:AV} (hi:P.info? t=some i) (hz:i.zero=some zv)
  (hr:∀(F:Nat->Option Nat) (w:World),RepCells F w zv.cells.toList z.cells) (hal:e.al d=false) (hk:k [.val d (.box 1 z),.clr d,.al d]):Does P hp arr o e k:=by
 have hs:Sub (match o.dst with|some d=>bZ d|none=>0) (rd arr.toList hp o):=by unfold rd;rw[ho];exact Sub.inr
 refine⟨_,fun cx e' g ac w hdn hag hR K Q hK=>?_,?_,hk⟩
 ·have hrun:(execOp ac.eval o).run P w = .ok (.value (.pointer (some ⟨w.heap.size,0,none⟩))) (w.alloc (.cells zv.cells t)):=by
   unfold execOp;simp only[ho,Instr.alloc,newVar,newRow,Sem.run_bind,zSZ hi hz,run_newObj,Sem.run_pure,Result.andThen_ok,World.alloc_eq]
  refine zU hrun ?_;have hal':e'.al d=false:=by rw[<-hag.al d (hs _ (by rw[hd];exact zNE d)),hal]
  obtain⟨g',h2⟩:=hR.newBox (hdn d hd) hal' (Grow.alloc w _) (Nat.le_refl _) (World.heap_alloc_new w (.cells zv.cells t)) (hr g.F w);rw[hd];exact hK g' _ _ h2
 ·have hw:Sub (yI o.dst ||| (match o.dst with|some d=>bZ d|none=>0)) (wr arr.toList hp o):=by unfold wr;rw[ho];exact Sub.refl _
  rw[hd] at hw;simp only[wrU];exact .or hw.or_left.or_left (.or hw.or_left.or_right (.or hw.or_right (Sub.zero _)))
theorem zRI (hT:zN P T) {t:TypeId} (ho:o.op = .alloc t)
  (h:match find T t,o.dst with
   | .st _ _ _ z,some d=>match e.al d with
    | false=>k [.val d (.box 1 (.agg z)),.clr d,.al d]
    | true=>False
   | .sc z,some d=>match e.al d with
    | false=>k [.val d (.box 1 z),.clr d,.al d]
    | true=>False
   | .sl _ _,some d=>match e.al d with
    | false=>k [.val d (.box 1 .nil),.clr d,.al d]
    | true=>False
   | .mp _ _,some d=>match e.al d with
    | false=>k [.val d (.box 1 (.lit (.map none))),.clr d,.al d]
    | true=>False
   | _,_=>False):Does P hp arr o e k:=by
 have hk:=find_ok hT t;split at h
 ·rename_i n offs fts z d hf hd;rw[hf] at hk;obtain⟨fs,i,h1,h2,h3,h4,h5,_⟩:=hk;split at h
  ·rename_i hal;exact zCI ho hd h2 h4 (fun F w=>by simpa[Value.cells,AV.cells] using zLP h5) hal h
  ·exact h.elim
 ·rename_i z d hf hd;rw[hf] at hk;obtain⟨dd,i,h1,h2,h3,h4,h5,h6⟩:=hk;split at h
  ·rename_i hal;refine zCI ho hd h3 h5 (fun F w=>?_) hal h;exact (zY4 (F:=F) (w:=w) h6).1.cells (fun l hl=>by subst hl;simp[AV.zok] at h6)
  ·exact h.elim
 ·rename_i E esz d hf hd;rw[hf] at hk;obtain⟨it,i,z,h1,h2,h3,h4,_⟩:=hk;split at h
  ·rename_i hal;exact zCI ho hd h2 h4 (fun F w=>(Rep.nil (F:=F) (w:=w)).cells (by simp)) hal h
  ·exact h.elim
 ·rename_i a b d hf hd;rw[hf] at hk;obtain⟨h1,i,h2,h3,h4⟩:=hk;split at h
  ·rename_i hal;exact zCI ho hd h2 h4 (fun F w=>(Rep.lit (F:=F) (w:=w) (.map none) rfl).cells (by simp)) hal h
  ·exact h.elim
 ·exact h.elim
end
section
variable {P:Program} {hp:Bool} {arr:Array Oper} {o:Oper} {e:Env} {k:List U->Prop} {T:TT}
theorem Rel.keptStored {cx:Ctx} {g:G} {a:Act} {w w':World} (h:Rel cx g e a w) {b:Nat} {cs cs':Array Value} {E:TypeId} (st:Stored w w' b cs cs' E) (p3:g.F b=some 0) (p2:g.O b≠.no) :
  Kept cx.F cx.hk cx.yk cx.W w':=h.kept.stored st (fun hb=>by
  by_cases h2:b∈cx.yk
  ·refine .inr ⟨h2,?_⟩;rcases h.fext b hb with h3|⟨_,m,m',h3,h4,h5⟩
   ·exact⟨0,by rw[<-h3,p3],fun j hj=>by omega⟩
   ·rw[p3] at h4;injection h4 with h4;subst h4
    have:m=0:=by omega
    subst this;exact⟨0,h3,fun j hj=>by omega⟩
  ·rcases h.old b hb h2 with h3|⟨h3,_⟩
   ·exact absurd h3 p2
   ·exact .inl h3)
theorem zOL (h:List (Nat×HO)) (i:Nat) (b:Nat) (x y:HO) (hi:h[i]? = some (b,x)):keys (h.set i (b,y))=keys h:=by
 unfold keys;apply List.ext_getElem?;intro j;rw[List.getElem?_map,List.getElem?_map,List.getElem?_set];by_cases hj:i=j
 ·subst hj;have hlt:=(List.getElem?_eq_some_iff.1 hi).1;have:=(List.getElem?_eq_some_iff.1 hi).2;simp[hlt,this]
 ·simp[hj]
theorem Rel.setHeap {cx : Ctx} {g : G} {a : Act} {w w' : World} (h : Rel cx g e a w) {i b : Nat} {l l' : List AV} {cs cs' : Array Value} {E : TypeId} (hi : e.heap[i]? = some (b, HO.cells l))
    (st : Stored w w' b cs cs' E) (hx' : RepCells g.F w cs'.toList l') :
    Rel cx g (app e [.heap (e.heap.set i (b, HO.cells l'))]) a w' := by
  have hmem := List.mem_of_getElem? hi;have hkey : b ∈ keys e.heap := List.mem_map.2 ⟨_, hmem, rfl⟩;have p2 := h.heapO b hkey;have p3 := h.heap.shut b hkey;have kp : Keeps g.F w g.F w' := st.keeps (fun _ _ => rfl) (fun k u hc _ => by have := hc 0 p3; omega);have m : Mem g w g w' := ⟨kp, fun b2 s q hb => ⟨hb, rfl, st.block b2 (fun e => by subst e; rw [p2] at hb; cases hb)⟩, fun b s q hb => .inl hb⟩
  refine { size := h.size, defers := h.defers, kept := h.keptStored st p3 (by rw [p2]; simp), fext := h.fext, nbx := h.nbx, old := h.old, hkO := h.hkO, hkin := h.hkin, fresh := fun b hb => h.fresh b (by rw [<- st.size]; exact hb), freshO := fun b hb => h.freshO b (by rw [<- st.size]; exact hb),
           slots := fun s => (h.slots s).mem m, own := fun s c sz v ho hpv => ?_, heap := ?_, heapO := ?_, al := h.al }
  · have ht := h.own s c sz v ho (PlaceVal.back h (fun b2 s q hb => (m.box b2 s q hb).2.2) hpv)
    refine ⟨?_, ht.2⟩;rcases ht.1 with h3 | h3 | ⟨b2, off, n, cap, cs2, E2, q1, q2, q3, q4, q5⟩
    · exact .inl h3
    · exact .inr (.inl h3)
    · by_cases hn : n = cap
      · exact .inr (.inl ⟨some ⟨b2, off, none⟩, n, by rw [q1, hn]⟩)
      · have hO := ht.2 b2 (by rw [q1]; simp [zV, hn])
        refine .inr (.inr ⟨b2, off, n, cap, cs2, E2, q1, q2, q3, ?_, q5⟩);rw [st.block b2 (fun e => by subst e; rw [p2] at hO; cases hO)];exact q4
  · have hk2 : keys (e.heap.set i (b, HO.cells l')) = keys e.heap := zOL _ _ _ _ _ hi
    refine ⟨by show (keys (e.heap.set i (b, HO.cells l'))).Nodup; rw [hk2]; exact h.heap.nodup, fun b2 hb2 => h.heap.shut b2 (by rw [<- hk2]; exact hb2), fun x hx => ?_⟩;obtain ⟨j, hj⟩ := List.getElem?_of_mem hx;have hj' : (e.heap.set i (b, HO.cells l'))[j]? = some x := hj;rw [List.getElem?_set] at hj';by_cases hij : i = j
    · subst hij
      have hlt := (List.getElem?_eq_some_iff.1 hi).1;simp [hlt] at hj';subst hj';exact ⟨cs', E, st.now, hx'.mono kp⟩
    · rw [if_neg hij] at hj'
      refine (h.heap.ok x (List.mem_of_getElem? hj')).grow kp (fun _ => st.block x.1 (fun heq => ?_));have nd := h.heap.nodup;unfold keys at nd;have h1 : (e.heap.map (·.1))[i]? = some b := by rw [List.getElem?_map, hi]; rfl
      have h2 : (e.heap.map (·.1))[j]? = some b := by rw [List.getElem?_map, hj']; simp [heq]
      have hi1 := (List.getElem?_eq_some_iff.1 h1).1;have hj1 := (List.getElem?_eq_some_iff.1 h2).1;exact hij ((List.getElem?_inj hi1 nd).1 (h1.trans h2.symm))
  · have hk2 : keys (e.heap.set i (b, HO.cells l')) = keys e.heap := zOL _ _ _ _ _ hi
    intro b2 hb2;exact h.heapO b2 (by rw [<- hk2]; exact hb2)
theorem Rel.heapAt {cx:Ctx} {g:G} {a:Act} {w:World} (h:Rel cx g e a w) {i b:Nat} {l:List AV} (hi:e.heap[i]? = some (b,HO.cells l)) :
  ∃cs E,w.heap[b]? = some (.cells cs E (0,0))/\RepCells g.F w cs.toList l:=h.heap.ok _ (List.mem_of_getElem? hi)
theorem jT (hT:zN P T) {t n:Nat} {offs:List (Nat×Nat)} {fts:List Nat} {z:List AV} (hf:find T t = .st n offs fts z) {f off sz:Nat} (hoff:offs[f]? = some (off,sz)) (b o':Nat) (w:World) :
  (Instr.fieldAt t (.pointer (some ⟨b,o',none⟩)) f).run P w = .ok (.pointer (some ⟨b,o'+off,none⟩)) w:=by
 have hk:=find_ok hT t;rw[hf] at hk;obtain⟨fs,i,h1,h2,h3,h4,h5,h6,h7,h8,h9⟩:=hk;have h10:=congrArg (·[f]?) h7;simp only[List.getElem?_map,hoff,Option.map_some] at h10;cases hfd:fs.toList[f]? with
 | none=>rw[hfd] at h10;simp at h10
 | some fd =>
  rw[hfd] at h10;simp only[Option.map_some,Option.some.injEq,Prod.mk.injEq] at h10;obtain⟨e1,e2⟩:=h10;obtain⟨fi,hfi,hfs⟩:=Option.map_eq_some_iff.1 e2;have hpos:sz≠0:=by
   have:=List.all_eq_true.1 h8 _ (List.mem_of_getElem? hoff);simp only[Bool.and_eq_true,Nat.blt] at this;have:=Nat.le_of_ble_eq_true this.1;omega
  have hfd':fs[f]? = some fd:=by rw[<-Array.getElem?_toList];exact hfd
  simp only[Instr.fieldAt,Sem.run_bind,run_underlying h1,Result.andThen_ok,hfd',Instr.sureAddr,Sem.run_pure,fieldPlace,xO hfi,hfs];rw[if_neg hpos];simp only[Sem.run_pure,Result.andThen_ok,Addr.add_at,e1]
theorem zKB (hT:zN P T) {t s f:Nat} (ho:o.op = .fieldAddr t (.tmp s) f) (h:zMZ T arr.toList o t s f e k):Does P hp arr o e k:=by
 have hs:=yY (hp:=hp) (arr:=arr) (o:=o) (by rw[ho]);rw[ho] at hs;simp only[Op.operands,zG,zJ] at hs;have exec:∀(ac:Act) w b o' v,ac.eval (.tmp s) = .pointer (some ⟨b,o',none⟩)->(Instr.fieldAt t (.pointer (some ⟨b,o',none⟩)) f).run P w = .ok v w->(execOp ac.eval o).run P w = .ok (.value v) w:=fun ac w b o' v hv hr=>by
  unfold execOp;simp only[ho,hv,Sem.run_bind,hr,Result.andThen_ok,Sem.run_pure]
 unfold zMZ at h;split at h
 ·rename_i n offs fts z hf;split at h
  ·rename_i off sz g a hoff hx;split at h
   ·refine zH h fun cx e' g' ac w hag hR=>?_;have hsl:=hag.slot hR (s:=s) hs.or_left;rw[hx] at hsl;obtain⟨b,cs,E,h1,h2,_⟩:=hsl;exact⟨_,w,exec ac w b 0 _ h1 (jT hT hf hoff b 0 w),Grow.refl w,fun _=>⟨b,by simp,h2⟩⟩
   ·exact h.elim
  ·rename_i off sz s' g off' hoff hx;split at h
   ·refine zH h fun cx e' g' ac w hag hR=>?_;have hsl:=hag.slot hR (s:=s) hs.or_left;rw[hx] at hsl;obtain⟨b,h1,h2⟩:=hsl;exact⟨_,w,exec ac w b off' _ h1 (jT hT hf hoff b off' w),Grow.refl w,fun _=>⟨b,rfl,h2⟩⟩
   ·exact h.elim
  ·rename_i off sz l hoff hx;refine zH h fun cx e' g' ac w hag hR=>?_;have hsl:=hag.slot hR (s:=s) hs.or_left;rw[hx] at hsl;obtain⟨b,off',h1,h2⟩:=hsl;refine⟨_,w,exec ac w b off' _ h1 (jT hT hf hoff b off' w),Grow.refl w,fun _=>⟨b,off'+off,rfl,fun j c hj=>?_⟩⟩;rw[List.getElem?_drop] at hj;rw[Nat.add_assoc];exact h2 _ c hj
  ·rename_i off sz b off' hoff hx;refine zH h fun cx e' g' ac w hag hR=>?_;have hsl:=hag.slot hR (s:=s) hs.or_left;rw[hx] at hsl;exact⟨_,w,exec ac w b off' _ (Rep.lit_eq hsl).1 (jT hT hf hoff b off' w),Grow.refl w,fun _=>Rep.lit _ rfl⟩
  ·exact h.elim
 ·exact h.elim
theorem zBZ (hT:zN P T) {t n:Nat} {offs:List (Nat×Nat)} {fts:List Nat} {z:List AV} (hf:find T t = .st n offs fts z) {F:Nat->Option Nat} {w:World} {b off:Nat} {l:List AV} (hle:n<=l.length)
  (hcell:∀(j:Nat) c,l[j]? = some c->∃u,w.cell? ⟨b,off+j,none⟩=some u/\Rep F w u c/\c.isCell=true) :
  ∃cs,(Instr.loadAt t (.pointer (some ⟨b,off,none⟩))).run P w = .ok (.agg cs) w/\Rep F w (.agg cs) (.agg (l.take n)):=by
 have hget:∀j,j<n->∃u,w.cell? ⟨b,off+j,none⟩=some u:=fun j hj=>by
  obtain⟨u,h1,_⟩:=hcell j _ (List.getElem?_eq_getElem (by omega));exact⟨u,h1⟩
 refine⟨Array.ofFn fun j:Fin n=>(w.cell? ⟨b,off+j,none⟩).getD undef,?_,?_⟩
 ·have h1:=run_loadCells (P:=P) w ⟨b,off,none⟩ n (fun j=>(w.cell? ⟨b,off+j,none⟩).getD undef) (fun j hj=>by
   rw[Addr.add_at];obtain⟨u,hu⟩:=hget j hj;rw[hu];rfl)
  simp only[Instr.loadAt,Instr.sureAddr,Sem.run_bind,Sem.run_pure,Result.andThen_ok,loadVar,(zA1 hT hf w).1,(zA1 hT hf w).2,if_true,h1]
  congr 2
  apply Array.ext
  ·simp
  ·intro i h1 h2;simp
 ·refine .agg _ _ (by simp;omega) (fun c hc=>?_) (fun j u c hu hc=>?_)
  ·obtain⟨j,hj⟩:=List.getElem?_of_mem (List.mem_of_mem_take hc);obtain⟨u,_,_,h3⟩:=hcell j c hj;exact h3
  ·have hj:j<n:=by have:=(List.getElem?_eq_some_iff.1 hc).1;simp at this;omega
   rw[List.getElem?_take_of_lt hj] at hc;obtain⟨u',h1,h2,_⟩:=hcell j c hc;simp[hj,h1] at hu;subst hu;exact h2
theorem zBS (hT:zN P T) {t:Nat} (h:∀n offs fts z,find T t≠.st n offs fts z) (h':find T t≠.other) {w:World} {b off:Nat} {u:Value} (hc:w.cell? ⟨b,off,none⟩=some u) :
  (Instr.loadAt t (.pointer (some ⟨b,off,none⟩))).run P w = .ok u w:=by
 simp only[Instr.loadAt,Instr.sureAddr,Sem.run_bind,Sem.run_pure,Result.andThen_ok,loadVar,(zB6 hT h h' w).1,Bool.false_eq_true,if_false,run_load,hc]
theorem wI {t:Nat} {x:Operand} (ho:o.op = .load t x) {ac:Act} {w:World} {pv v:Value} (hv:ac.eval x=pv) (hr:(Instr.loadAt t pv).run P w = .ok v w):(execOp ac.eval o).run P w = .ok (.value v) w:=by
 unfold execOp;simp only[ho,hv,Sem.run_bind,hr,Result.andThen_ok,Sem.run_pure]
theorem xM {F:Nat->Option Nat} {w:World} {b:Nat} {cs:Array Value} {E:TypeId} {l:List AV} (hb:w.heap[b]? = some (.cells cs E (0,0))) (hr:RepCells F w cs.toList l) {j:Nat} {c:AV} (hj:l[j]? = some c) :
  ∃u,w.cell? ⟨b,j,none⟩=some u/\Rep F w u c/\c.isCell=true:=by
 obtain⟨u,h1,h2,h3⟩:=hr.cell hj;rw[Array.getElem?_toList] at h1;exact⟨u,by rw[World.cell_of_cells hb];exact h1,h2,h3⟩
theorem zGK (hT:zN P T) {t s:Nat} (ho:o.op = .load t (.tmp s)) (h:wC T arr.toList o t s e k):Does P hp arr o e k:=by
 have hs:Sub (bV s ||| (bV (rootOf arr.toList s) ||| ((bif hands arr.toList o then bO (rootOf arr.toList s) else 0) ||| 8))) (rd arr.toList hp o):=by unfold rd;rw[ho];exact Sub.inr
 have hw:Sub (yI o.dst ||| (bif hands arr.toList o then bO (rootOf arr.toList s) else 0)) (wr arr.toList hp o):=by unfold wr;rw[ho];exact Sub.refl _
 have slot:∀{cx:Ctx} {e':Env} {g:G} {ac:Act} {w:World},Agree (rd arr.toList hp o) e e'->Rel cx g e' ac w->SlotOk g w s (e.vals s) (ac.eval (.tmp s)):=fun hag hR=>hag.slot hR hs.or_left;have heapB:∀{e':Env},Agree (rd arr.toList hp o) e e'->e.heap=e'.heap:=fun hag=>hag.heap (hs.or_right.or_right.or_right 3 (by decide));unfold wC at h;split at h
 ·
  rename_i n offs fts z g0 a hf hx;split at h
  ·rename_i l hb;refine zH h fun cx e' g ac w hag hR=>?_;have hsl:=slot hag hR;rw[hx] at hsl;obtain⟨b,cs,E,h1,h2,h3,h4,h5,h6⟩:=hsl;have hl:=Nat.eq_of_beq_eq_true hb;simp only[AV.cells] at hl h6;obtain⟨cs',r1,r2⟩:=zBZ (F:=g.F) hT hf (off:=0) (l:=l) (by omega) (fun j c hj=>by rw[Nat.zero_add];exact xM h5 h6 hj);rw[List.take_of_length_le (by omega)] at r2;exact⟨_,w,wI ho h1 r1,Grow.refl w,fun _=>r2⟩
  ·exact h.elim
 ·rename_i n offs fts z l hf hx;split at h
  ·rename_i hb;refine zH h fun cx e' g ac w hag hR=>?_;have hsl:=slot hag hR;rw[hx] at hsl;obtain⟨b,off,h1,h2⟩:=hsl;obtain⟨cs',r1,r2⟩:=zBZ (F:=g.F) hT hf (off:=off) (l:=l) (Nat.le_of_ble_eq_true hb) (fun j c hj=>let ⟨u,q1,q2,q3,q4⟩:=h2 j c hj;⟨u,q1,q3,q4⟩);exact⟨_,w,wI ho h1 r1,Grow.refl w,fun _=>r2⟩
  ·exact h.elim
 ·rename_i n offs fts z s' g0 off hf hx;split at h
  ·rename_i g1 a hx' hroot;split at h
   ·rename_i hb;rw[Bool.and_eq_true] at hb;have hg:=Nat.eq_of_beq_eq_true hb.1;have hle:=Nat.le_of_ble_eq_true hb.2;have hr:=Nat.eq_of_beq_eq_true hroot;subst hg;refine zH h fun cx e' g ac w hag hR=>?_;have hsl:=slot hag hR;rw[hx] at hsl;obtain⟨b,h1,h2⟩:=hsl;have hbx:=hag.slot hR (s:=s') (by rw[hr];exact hs.or_right.or_left);rw[hx'] at hbx;obtain⟨b',cs,E,p1,p2,p3,p4,p5,p6⟩:=hbx;have:=p4 b h2;subst this;obtain⟨cs',r1,r2⟩:=zBZ (F:=g.F) hT hf (off:=off) (l:=a.cells.drop off) (by simp;omega) (fun j c hj=>by
     rw[List.getElem?_drop] at hj;exact xM p5 p6 hj)
    exact⟨_,w,wI ho h1 r1,Grow.refl w,fun _=>r2⟩
   ·exact h.elim
  ·exact h.elim
 ·rename_i n offs fts z b off hf hx;obtain⟨i,l,hi,hle,hk⟩:=h;refine zH hk fun cx e' g ac w hag hR=>?_;have hsl:=slot hag hR;rw[hx] at hsl;have hv:=(Rep.lit_eq hsl).1;rw[heapB hag] at hi;obtain⟨cs,E,p5,p6⟩:=hR.heapAt hi;obtain⟨cs',r1,r2⟩:=zBZ (F:=g.F) hT hf (off:=off) (l:=l.drop off) (by simp;omega) (fun j c hj=>by
   rw[List.getElem?_drop] at hj;exact xM p5 p6 hj)
  exact⟨_,w,wI ho hv r1,Grow.refl w,fun _=>r2⟩
 ·exact h.elim
 ·exact h.elim
 ·
  rename_i g0 a hx hn1 hn2;have hsc:∀n offs fts z,find T t≠.st n offs fts z:=fun n offs fts z hf=>hn1 _ _ _ _ hf;have hno:find T t≠.other:=fun hf=>hn2 hf;split at h
  ·rename_i c hc;refine zH h fun cx e' g ac w hag hR=>?_;have hsl:=slot hag hR;rw[hx] at hsl;obtain⟨b,cs,E,h1,h2,h3,h4,h5,h6⟩:=hsl;obtain⟨u,q1,q2,q3⟩:=xM h5 h6 (j:=0) (c:=c) (by rw[hc];rfl);exact⟨_,w,wI ho h1 (zBS hT hsc hno q1),Grow.refl w,fun _=>q2⟩
  ·exact h.elim
 ·rename_i c l hx hn1 hn2;have hsc:∀n offs fts z,find T t≠.st n offs fts z:=fun n offs fts z hf=>hn1 _ _ _ _ hf;have hno:find T t≠.other:=fun hf=>hn2 hf;refine zH h fun cx e' g ac w hag hR=>?_;have hsl:=slot hag hR;rw[hx] at hsl;obtain⟨b,off,h1,h2⟩:=hsl;obtain⟨u,q1,q2,q3,q4⟩:=h2 0 c rfl;rw[Nat.add_zero] at q1;exact⟨_,w,wI ho h1 (zBS hT hsc hno q1),Grow.refl w,fun _=>q3⟩
 ·rename_i s' g0 off hx hn1 hn2;have hsc:∀n offs fts z,find T t≠.st n offs fts z:=fun n offs fts z hf=>hn1 _ _ _ _ hf;have hno:find T t≠.other:=fun hf=>hn2 hf;split at h
  ·rename_i g1 a hx' hroot;split at h
   ·rename_i c hc hb;have hg:=Nat.eq_of_beq_eq_true hb;have hr:=Nat.eq_of_beq_eq_true hroot;subst hg;have base:∀{cx:Ctx} {e':Env} {g:G} {ac:Act} {w:World},Agree (rd arr.toList hp o) e e'->Rel cx g e' ac w ->
      ∃b u,ac.tmps.getD s' undef = .pointer (some ⟨b,0,none⟩)/\w.cell? ⟨b,off,none⟩=some u/\(execOp ac.eval o).run P w = .ok (.value u) w/\Rep g.F w u c:=fun {cx e' g ac w} hag hR=>by
     have hsl:=slot hag hR;rw[hx] at hsl;obtain⟨b,h1,h2⟩:=hsl;have hbx:=hag.slot hR (s:=s') (by rw[hr];exact hs.or_right.or_left);rw[hx'] at hbx;obtain⟨b',cs,E,p1,p2,p3,p4,p5,p6⟩:=hbx;have:=p4 b h2;subst this;obtain⟨u,q1,q2,q3⟩:=xM p5 p6 hc;exact⟨b,u,p1,q1,wI ho h1 (zBS hT hsc hno q1),q2⟩
    split at h
    ·rename_i d hh hd;split at h
     ·exact h.elim
     ·rename_i hsd;have hne:s'≠d:=fun e=>by subst e;simp at hsd
      refine⟨_,fun cx e' g ac w hdn hag hR K Q hK=>?_,?_,h⟩
      ·obtain⟨b,u,b1,b2,b3,b4⟩:=base hag hR;refine zU b3 ?_;have h1:=hR.put (hdn d hd) (x := .v c) (v:=u) b4;rw[hd];obtain⟨g',h2⟩:=h1.moveOwn (s:=s') (c:=off) (d:=d) (c':=0) (fun hh=>hne hh.1) (fun v hv=>by
        have hvd:(app e' [.val d (.v c),.clr d]).vals d = .v c:=zW _ _ _;rw[hvd] at hv;have hv:=hv.2;rw[yK (by rw[hR.size];exact hdn d hd)] at hv;have hvs:(app e' [.val d (.v c),.clr d]).vals s'=e'.vals s':=yQ _ _ hne;rw[hvs,hag.box (by rw[hr];exact hs.or_right.or_left) hx'];exact⟨b,by rw[qH hne];exact b1,by rw[<-hv];exact b2⟩)
       refine hK g' _ _ ?_;have hown:(app e' [.val d (.v c),.clr d]).own s' off=e.own s' off:=by
        simp only[app,app1,Nat.beq_ne hne,cond_false];have hb:=hs.or_right.or_right.or_left;rw[hh] at hb;simp only[cond_true] at hb;exact (hag.own s' off (by rw[hr];exact hb _ (qW _))).symm
       have heq:app e' [.val d (.v c),.clr d,.own d 0 (e.own s' off),.own s' off 0]=app (app e' [.val d (.v c),.clr d]) [.own d 0 ((app e' [.val d (.v c),.clr d]).own s' off),.own s' off 0]:=by
        rw[hown];rfl
       rw[heq];exact h2
      ·have h1:=hw.or_left;have h2:=hw.or_right;rw[hd] at h1;rw[hh] at h2;simp only[wrU];refine .or h1.or_left (.or h1.or_right (.or h1.or_right (.or (by rw[hr];exact h2) (Sub.zero _))))
    ·refine zH h fun cx e' g ac w hag hR=>?_;obtain⟨b,u,b1,b2,b3,b4⟩:=base hag hR;exact⟨u,w,b3,Grow.refl w,fun _=>b4⟩
   ·exact h.elim
  ·exact h.elim
 ·rename_i b off hx hn1 hn2;have hsc:∀n offs fts z,find T t≠.st n offs fts z:=fun n offs fts z hf=>hn1 _ _ _ _ hf;have hno:find T t≠.other:=fun hf=>hn2 hf;obtain⟨i,l,c,hi,hc,hk⟩:=h;refine zH hk fun cx e' g ac w hag hR=>?_;have hsl:=slot hag hR;rw[hx] at hsl;have hv:=(Rep.lit_eq hsl).1;rw[heapB hag] at hi;obtain⟨cs,E,p5,p6⟩:=hR.heapAt hi;obtain⟨u,q1,q2,q3⟩:=xM p5 p6 hc;exact⟨_,w,wI ho hv (zBS hT hsc hno q1),Grow.refl w,fun _=>q2⟩
 ·exact h.elim
end
end Fp
