/- Frames over known blocks: what is shown over them holds. No condition. -/
import Derived.Test.YtebmimnglcdogaaGreatDoorFpF
set_option linter.unusedSimpArgs false
set_option linter.unusedVariables false
namespace Fp
open Go Go.MapKept
section
variable {P:Program} {arr:Array Oper} {o:Oper} {T:TT}
theorem wS {kz a:AV} (h:qC kz a) {d:TypeDesc} (hd:zKR d kz=true):zLS d a:=by
 unfold qC at h;split at h
 ·rename_i q n q' n';subst h;cases d with
  | int k'=>exact⟨_,rfl,zG4 hd⟩
  | _=>cases hd
 ·cases d with
  | string=>exact⟨_,rfl,trivial⟩
  | _=>cases hd
 ·exact h.elim
theorem zJZ (hT:zN P T) {t:Nat} {z:AV} (h:zeroV T t=some z):∃i v,P.info? t=some i/\i.zero=some v/\∀F w,Rep F w v z:=by
 have one:∀a:AV,a.zok=true->∀F w,Rep F w a.zv a/\a.isCell=true:=fun a ha F w=>by
  cases a with
  | lit v=>exact⟨.lit _ ha,ha⟩
  | nil=>exact⟨.nil,rfl⟩
  | _=>simp[AV.zok] at ha
 have hk:=find_ok hT t;unfold zeroV at h;split at h
 ·rename_i zz hf;rw[hf] at hk;obtain⟨d,i,k1,k2,k3,k4,k5,k6⟩:=hk;injection h with h;subst h
  exact⟨i,_,k3,k5,fun F w=>(one zz k6 F w).1⟩
 ·rename_i n offs fts zl hf;rw[hf] at hk;obtain⟨fs,i,k1,k2,k3,k4,k5,k6,_⟩:=hk;injection h with h;subst h
  refine⟨i,_,k2,k4,fun F w => .agg _ _ (by simp) (fun c hc=>(one c (List.all_eq_true.1 k5 c hc) F w).2) (fun j u c hu hc=>?_)⟩;simp only[List.getElem?_toArray,List.getElem?_map] at hu;rw[hc] at hu;simp at hu;subst hu;exact (one c (List.all_eq_true.1 k5 c (List.mem_of_getElem? hc)) F w).1
 ·rename_i E esz hf;rw[hf] at hk;obtain⟨it,i,z',k1,k2,k3,k4,_⟩:=hk;injection h with h;subst h
  exact⟨it,_,k2,k4,fun F w => .nil⟩
 ·rename_i kk ee hf;rw[hf] at hk;obtain⟨k1,i,k2,k3,k4⟩:=hk;injection h with h;subst h
  exact⟨i,_,k2,k4,fun F w => .lit _ rfl⟩
 ·cases h
theorem RunsB.sub {u:List U} {m m':Nat} {e:Env} (h:RunsB P o e u m) (s:Sub m m'):RunsB P o e u m':=fun cx e' g a w hd hag hR=>h cx e' g a w hd (hag.sub s) hR
theorem zTX (hT:zN P T) {t:Nat} {x ix:Operand} {ok:Bool} (ho:o.op = .lookup t x ix ok) {e:Env} {k:List U->Prop} (h:zPY T o t x ix ok e k) :
  ∃u,RunsB P o e u (rd arr.toList false o ||| 8)/\Sub (wrU u) (wr arr.toList false o)/\k u:=by
 unfold zPY at h;split at h
 ·rename_i kt et hf;split at h
  ·rename_i kz b kv hfk hx hix;obtain⟨i,l,r,h1,h2,h3,h4,h5⟩:=h;split at h5
   ·rename_i z hz;have hk:=find_ok hT kt;rw[hfk] at hk;obtain⟨d,_,k1,k2,_⟩:=hk;obtain⟨v,hv,hkv⟩:=wS h3 k2;injection hv with hv;subst hv
    have:=zZS (arr:=arr) hT ho hf k1 hx h1 hix hkv (fun p hp=>wS (h2 p hp) k2) h4 (zJZ hT hz);have this':RunsB P o e (putU o.dst (.v (zT4 ok r z))) (rd arr.toList false o ||| 8):=by
     cases r with
     | none=>cases ok<;>exact this
     | some q=>obtain⟨j,a⟩:=q;cases ok<;>exact this
    exact⟨_,this',by rw[zZ];unfold wr;exact Sub.inl,h5⟩
   ·exact h5.elim
  ·exact h.elim
 ·exact h.elim
theorem zZR (hT:zN P T) {t:Nat} {x ix y:Operand} (ho:o.op = .mapUpdate t x ix y) {e:Env} {k:List U->Prop} (h:zX2 T o t x ix y e k) :
  ∃u,RunsB P o e u (rd arr.toList false o ||| 8)/\Sub (wrU u) 8/\k u:=by
 unfold zX2 at h;split at h
 ·rename_i kt et hf hd;split at h
  ·rename_i kz b kv a hfk hx hix hy;obtain⟨i,l,r,h1,h2,h3,h4,h5⟩:=h;have hk:=find_ok hT kt;rw[hfk] at hk;obtain⟨d,_,k1,k2,_⟩:=hk;obtain⟨v,hv,hkv⟩:=wS h3 k2;injection hv with hv;subst hv
   exact⟨_,zXS (arr:=arr) hT ho hd hf k1 hx h1 hix hkv (fun p hp=>wS (h2 p hp) k2) h4 hy,by simp only[wrU];exact .or (Sub.refl _) (Sub.zero _),h5⟩
  ·exact h.elim
 ·exact h.elim
theorem zNW {cl:Call} {f:Operand} (ho:o.op = .call cl) (hc:cl.callee = .value f) {e:Env} {fv:Value} (hf:opd e f = .v (.lit fv)) {k:List U->Prop} (h:zMC P o fv cl.args.toList e k) :
  ∃u,RunsB P o e u (rd arr.toList false o ||| 8)/\Sub (wrU u) (wr arr.toList false o)/\k u:=by
 unfold zMC at h;split at h
 ·rename_i args ha;obtain⟨is,hin,r,h1,h2,h3,h4⟩:=h;exact⟨_,zUZ (arr:=arr) ho hc hf ha h1 h2 h3,by rw[zZ];unfold wr;exact Sub.inl,h4⟩
 ·exact h.elim
theorem zB9:∀(a b:List U),wrU (a++b)=wrU a ||| wrU b
 | [],b=>by simp[wrU]
 | x::a,b=>by cases x<;>simp only[List.cons_append,wrU,zB9 a b,Nat.or_assoc]
theorem zKC {cl:Call} {f:Operand} (ho:o.op = .call cl) (hc:cl.callee = .value f) {e:Env} {fv:Value} (hf:opd e f = .v (.lit fv)) {k:List U->Prop} (h:zHG P o fv cl.args.toList e k) :
  ∃u,RunsB P o e u (rd arr.toList false o ||| 8)/\Sub (wrU u) (wr arr.toList false o ||| 8)/\k u:=by
 unfold zHG at h;split at h
 ·rename_i args ha;obtain⟨is,hin,h0,r,h1,h2,h3,h4,h5⟩:=h;refine⟨_,zS5 (arr:=arr) ho hc hf ha h1 h2 h3 h4,?_,h5⟩;rw[zB9,zZ];refine .or (Sub.trans ?_ Sub.inl) ?_
  ·unfold wr;exact Sub.inl
  ·simp only[wrU];exact .or Sub.inr (Sub.zero _)
 ·exact h.elim
theorem zNR (hT:zN P T) {cl:Call} {f:Operand} (ho:o.op = .call cl) (hc:cl.callee = .value f) {e:Env} {fv:Value} (hf:opd e f = .v (.lit fv)) {k:List U->Prop} (h:zLM P o fv cl.args.toList e k) :
  ∃u,RunsB P o e u (rd arr.toList false o)/\Sub (wrU u) (wr arr.toList false o)/\k u:=by
 have h':ay P T false arr.toList o e k:=by
  unfold ay;simp only[ho,hc,hf];unfold zLM at h;unfold zB4;split at h
  ·rename_i args ha;rw[ha];exact .inl h
  ·exact h.elim
 obtain⟨u,h1,h2,h3⟩:=zDR hT h';exact⟨u,h1,h2,h3⟩
theorem RunsB.text {e:Env} {u:List U} {m:Nat} (h:RunsB P o e u m) {cx:Ctx} {g:G} {a:Act} {w:World} (hd:∀d,o.dst=some d->d<cx.n) (hR:Rel cx g e a w) {K:Act->World->Prop} {Q:Exit->Act->World->Prop}
  (hK:∀g' a' w',Rel cx g' (app e u) a' w'->K a' w'):o.wp P a w K Q:=h cx e g a w hd (Agree.refl _ _) hR K Q hK
end
section
variable {P:Program} {arr:Array Oper} {o:Oper} {T:TT}
theorem zWX {ops:List Oper} {t s:Nat} {e:Env} {k:List U->Prop} (hx:∀a,e.vals s≠.v a) (h:wC T ops o t s e k):∃u,k u/\∀h2,wC T ops o t s {e with heap:=h2} (fun v=>v=u):=by
 unfold wC at h;split at h
 ·rename_i hf hb;split at h
  ·rename_i l hq;refine⟨_,h,fun h2=>?_⟩;unfold wC;simp only[hf,hb,hq]
  ·exact h.elim
 ·rename_i hf hb;split at h
  ·rename_i hq;refine⟨_,h,fun h2=>?_⟩;unfold wC;simp only[hf,hb,hq]
  ·exact h.elim
 ·rename_i hf hb;split at h
  ·rename_i hb' hr;split at h
   ·rename_i hq;refine⟨_,h,fun h2=>?_⟩;unfold wC;simp only[hf,hb,hb',hr,hq]
   ·exact h.elim
  ·exact h.elim
 ·rename_i hb;exact absurd hb (hx _)
 ·exact h.elim
 ·exact h.elim
 ·rename_i g0 a hb hn1 hn2;split at h
  ·rename_i c hc;refine⟨_,h,fun h2=>?_⟩;unfold wC;simp only[hb,hc]
  ·exact h.elim
 ·rename_i c l hb hn1 hn2;refine⟨_,h,fun h2=>?_⟩;unfold wC;simp only[hb]
 ·rename_i s' g0 off hb hn1 hn2;split at h
  ·rename_i g1 a hb' hr;split at h
   ·rename_i c hc hg;split at h
    ·rename_i d hh hd;split at h
     ·exact h.elim
     ·rename_i hsd;refine⟨_,h,fun h2=>?_⟩;unfold wC;simp only[hb,hb',hr,hc,hg,hh,hd,hsd]
    ·rename_i hno;refine⟨_,h,fun h2=>?_⟩;unfold wC;simp only[hb,hb',hr,hc,hg]
   ·exact h.elim
  ·exact h.elim
 ·rename_i hb _ _;exact absurd hb (hx _)
 ·exact h.elim
theorem z4E {m:Nat} {e e':Env} (h:Agree m e e'):Agree (m ||| 8) {e with heap:=e'.heap} e':=by
 have h8:∀n:Nat,n≠3->(8:Nat).testBit n=false:=fun n hn=>by
  rw[show (8:Nat)=2 ^ 3 from rfl];exact Nat.testBit_two_pow_of_ne (Ne.symm hn)
 refine⟨fun t q=>h.val t ?_,fun t c q=>h.own t c ?_,fun t q=>h.al t ?_,fun _=>rfl⟩
 ·rw[Nat.testBit_or,h8 _ (by omega),Bool.or_false] at q;exact q
 ·rw[Nat.testBit_or,h8 _ (by omega),Bool.or_false] at q;exact q
 ·rw[Nat.testBit_or,h8 _ (by omega),Bool.or_false] at q;exact q
theorem zKO (hT:zN P T) {c:CE} {n:CE->Nat×Nat->Prop} (h:stepD P T arr.toList o c n):∃u m,RunsB P o (den c) u m.1/\Sub (wrU u) m.2/\n (capp c u) m:=by
 have dflt:ay P T false arr.toList o (den c) (fun u=>n (capp c u) (rd arr.toList false o,wr arr.toList false o))->∃u m,RunsB P o (den c) u m.1/\Sub (wrU u) m.2/\n (capp c u) m:=fun h1=>by
  obtain⟨u,h2,h3,h4⟩:=zDR hT h1;exact⟨u,(rd arr.toList false o,wr arr.toList false o),h2,h3,h4⟩
 unfold stepD at h;split at h
 ·rename_i t s ho;split at h
  ·obtain⟨u,h2,h3,h4⟩:=zGK (hp:=false) (arr:=arr) hT ho h;exact⟨u,(rd arr.toList false o,wr arr.toList false o),h2,h3,h4⟩
  ·rename_i hx;obtain⟨u,h1,h2⟩:=zWX (fun a ha=>hx a ha) h;have hrd:rd arr.toList false o=(zY arr.toList o ||| zG9 arr.toList o s) ||| 8:=by
    unfold rd zG9;rw[ho];simp only[Nat.or_assoc]
   have each:∀h3,∃u',Runs P false arr o {den c with heap:=h3} u'/\Sub (wrU u') (wr arr.toList false o)/\u'=u:=fun h3=>zGK (hp:=false) (arr:=arr) hT ho (h2 h3);obtain⟨u0,_,w0,rfl⟩:=each [];refine⟨u0,_,fun cx e' g a w hd hag hR K Q hK=>?_,w0,h1⟩;obtain⟨u',r1,_,rfl⟩:=each e'.heap;have hag':=z4E hag;rw[<-hrd] at hag';exact r1 cx e' g a w hd hag' hR K Q hK
 ·rename_i t x ix ok ho;obtain⟨u,h1,h2,h3⟩:=zTX (arr:=arr) hT ho h;exact⟨u,_,h1,h2,h3⟩
 ·rename_i t x ix y ho;obtain⟨u,h1,h2,h3⟩:=zZR (arr:=arr) hT ho h;exact⟨u,_,h1,h2,h3⟩
 ·rename_i cl ho;split at h
  ·rename_i f hc;split at h
   ·rename_i fv hf;rcases h with h|h|h
    ·obtain⟨u,h1,h2,h3⟩:=zNR (arr:=arr) hT ho hc hf h;exact⟨u,_,h1,h2,h3⟩
    ·obtain⟨u,h1,h2,h3⟩:=zNW (arr:=arr) ho hc hf h;exact⟨u,_,h1,h2,h3⟩
    ·obtain⟨u,h1,h2,h3⟩:=zKC (arr:=arr) ho hc hf h;exact⟨u,_,h1,h2,h3⟩
   ·exact h.elim
  ·exact dflt h
 ·exact dflt h
end
section
variable {P:Program} {T:TT}
end
section
variable {P:Program} {arr:Array Oper} {o:Oper} {e:Env} {T:TT} {F:Nat->Option Nat} {w:World} {v:Value}
theorem Rep.ptr_eq {l:List AV} (h:Rep F w v (.ptr l)):∃b off,v = .pointer (some ⟨b,off,none⟩)/\∀(j:Nat) c,l[j]? = some c->∃u,w.cell? ⟨b,off+j,none⟩=some u/\com F b (off+j)/\Rep F w u c/\c.isCell=true:=by
 cases h with
 | ptr b off l us hcl hcell hrep =>
  exact⟨b,off,rfl,fun j c hj=>let h:=hcell j (List.getElem?_eq_some_iff.1 hj).1;⟨us j,h.1,h.2,hrep j c hj,hcl c (List.mem_of_getElem? hj)⟩⟩
theorem Rep.ptr_mk {b off:Nat} {l:List AV} (h:∀(j:Nat) c,l[j]? = some c->∃u,w.cell? ⟨b,off+j,none⟩=some u/\com F b (off+j)/\Rep F w u c/\c.isCell=true):Rep F w (.pointer (some ⟨b,off,none⟩)) (.ptr l):=by
 refine .ptr b off l (fun k=>(w.cell? ⟨b,off+k,none⟩).getD undef) (fun c hc=>?_) (fun k hk=>?_) (fun k c hc=>?_)
 ·obtain⟨j,hj⟩:=List.getElem?_of_mem hc;obtain⟨u,_,_,_,h4⟩:=h j c hj;exact h4
 ·obtain⟨u,h1,h2,_⟩:=h k _ (List.getElem?_eq_getElem hk);exact⟨by rw[h1];rfl,h2⟩
 ·obtain⟨u,h1,_,h3,_⟩:=h k c hc;rw[h1];exact h3
theorem Rep.fn_eq {f:Fn} {l m:List AV} (h:Rep F w v (.fn f l m)):∃vs us,v = .func f vs us/\vs.size=l.length/\us.size=m.length /\
  (∀(j:Nat) u c,vs[j]? = some u->l[j]? = some c->Rep F w u c)/\(∀(j:Nat) u c,us[j]? = some u->m[j]? = some c->Rep F w u c):=by
 cases h with
 | fn f vs us l m h1 h2 hv hu=>exact⟨vs,us,rfl,h1,h2,hv,hu⟩
theorem Rep.mpv_eq {l:List (AV×AV)} (h:Rep F w v (.mpv l)):∃b es clock,v = .map (some b)/\w.heap[b]? = some (.map es clock)/\com F b 0/\jO F w es.toList l:=by
 cases h with
 | mpv b es clock l hm hc _ hl hk hv=>exact⟨b,es,clock,rfl,hm,hc,by simpa using hl,fun j e p he hp=>⟨hk j e p (by simpa using he) hp,hv j e p (by simpa using he) hp⟩⟩
theorem Rep.mpv_eqB {l:List (AV×AV)} (h:Rep F w v (.mpv l)):∃b es clock,v = .map (some b)/\w.heap[b]? = some (.map es clock)/\com F b 0/\Born es clock/\jO F w es.toList l:=by
 cases h with
 | mpv b es clock l hm hc hb hl hk hv=>exact⟨b,es,clock,rfl,hm,hc,hb,by simpa using hl,fun j e p he hp=>⟨hk j e p (by simpa using he) hp,hv j e p (by simpa using he) hp⟩⟩
theorem zCD {x:SV} {m:Nat} (hf:∀cx e' g a w,Agree m e e'->Rel cx g e' a w->∃v,(execOp a.eval o).run P w = .ok (.value v) w/\∀d,SlotOk g w d x v):RunsB P o e (putU o.dst x) m:=by
 intro cx e' g a w hd hag hR K Q hK;obtain⟨v,h1,h3⟩:=hf cx e' g a w hag hR;exact zU h1 (hK g _ _ (hR.putU hd h3))
def zXY (T:TT) (t:Nat) (l:List AV):Option AV:=match find T t with
 | .st n _ _ _=>bif Nat.ble n l.length then some (.agg (l.take n)) else none
 | .other=>none
 | _=>l.head?
theorem z0P (hT:zN P T) {t s:Nat} (ho:o.op = .load t (.tmp s)) {l:List AV} (hx:e.vals s = .v (.ptr l)) {a:AV} (h:zXY T t l=some a):RunsB P o e (putU o.dst (.v a)) (bV s):=by
 refine zCD fun cx e' g ac w hag hR=>?_;have hsl:=hag.slot hR (s:=s) (Sub.refl _);rw[hx] at hsl;obtain⟨b,off,h1,h2⟩:=Rep.ptr_eq hsl;have one:(∀n offs fts z,find T t≠.st n offs fts z)->find T t≠.other->l.head? = some a->∃v,(execOp ac.eval o).run P w = .ok (.value v) w/\∀d,SlotOk g w d (.v a) v:=fun hsc hno hl=>by
  cases l with
  | nil=>cases hl
  | cons c l =>
   simp only[List.head?_cons] at hl;injection hl with hl;subst hl
   obtain⟨u,q1,q2,q3,q4⟩:=h2 0 c rfl;rw[Nat.add_zero] at q1;exact⟨_,wI ho h1 (zBS hT hsc hno q1),fun _=>q3⟩
 unfold zXY at h;split at h
 ·rename_i n offs fts z hf;cases hb:Nat.ble n l.length with
  | false=>rw[hb] at h;cases h
  | true =>
   rw[hb] at h;injection h with h;subst h
   obtain⟨cs',r1,r2⟩:=zBZ (F:=g.F) hT hf (off:=off) (l:=l) (Nat.le_of_ble_eq_true hb) (fun j c hj=>let ⟨u,q1,q2,q3,q4⟩:=h2 j c hj;⟨u,q1,q3,q4⟩);exact⟨_,wI ho h1 r1,fun _=>r2⟩
 ·cases h
 ·rename_i hn1 hn2;exact one (fun n offs fts z hf=>hn1 _ _ _ _ hf) (fun hf=>hn2 hf) h
def zZJ (T:TT) (t f:Nat):Option Nat:=match find T t with
 | .st _ offs _ _=>match offs[f]? with
  | some (off,_)=>some off
  | none=>none
 | _=>none
theorem z2C (hT:zN P T) {t s f:Nat} (ho:o.op = .fieldAddr t (.tmp s) f) {l:List AV} (hx:e.vals s = .v (.ptr l)) {off:Nat} (h:zZJ T t f=some off):RunsB P o e (putU o.dst (.adE (l.drop off))) (bV s):=by
 refine zCD fun cx e' g ac w hag hR=>?_;have hsl:=hag.slot hR (s:=s) (Sub.refl _);rw[hx] at hsl;obtain⟨b,off',h1,h2⟩:=Rep.ptr_eq hsl;unfold zZJ at h;split at h
 ·rename_i n offs fts z hf;split at h
  ·rename_i off2 sz hoff;injection h with h;subst h
   refine⟨.pointer (some ⟨b,off'+off2,none⟩),?_,fun _=>⟨b,off'+off2,rfl,fun j c hj=>?_⟩⟩
   ·have h1':ac.eval (.tmp s) = .pointer (some ⟨b,off',none⟩):=h1;unfold execOp;simp only[ho,h1',Sem.run_bind,jT hT hf hoff b off' w,Result.andThen_ok,Sem.run_pure]
   ·rw[List.getElem?_drop] at hj;rw[Nat.add_assoc];exact h2 _ c hj
  ·cases h
 ·cases h
theorem zYI {x:Operand} (ho:o.op = .nilCheck x) {l:List AV} (hx:opd e x = .v (.ptr l)):RunsB P o e (putU o.dst (.v (.ptr l))) (zJ x):=by
 refine zCD fun cx e' g ac w hag hR=>?_;have hr:=zF hag hR (Sub.refl _) hx;obtain⟨b,off,h1,h2⟩:=Rep.ptr_eq hr;refine⟨ac.eval x,?_,fun _=>hr⟩;unfold execOp;simp only[ho,h1,Sem.run_pure]
theorem zUM (hT:zN P T) {t:TypeId} {x ix:Operand} {ok:Bool} (ho:o.op = .lookup t x ix ok) {kt et:Nat} (hf:find T t = .mp kt et) {d:TypeDesc} (hd:P.underlying kt=some d) {l:List (AV×AV)} (hx:opd e x = .v (.mpv l)) {kv:Value}
  (hix:opd e ix = .v (.lit kv)) (hkv:IsKey d kv) (hks:∀p∈l,zLS d p.1) {r:Option (Nat×AV)} (hr:Found l kv r) {z:AV} (hz:∃i v,P.info? et=some i/\i.zero=some v/\∀F w,Rep F w v z) :
  RunsB P o e (putU o.dst (.v (zT4 ok r z))) (zJ x ||| zJ ix):=by
 refine zCD fun cx e' g ac w hag hR=>?_;have hk:=find_ok hT t;rw[hf] at hk;have hmt:=hk.1;obtain⟨b,es,clock,hxv,m1,_,m3⟩:=Rep.mpv_eq (zF hag hR Sub.inl hx);have hiv:=(zF hag hR Sub.inr hix).lit_eq.1;have hfn:=zDD m3 hks hkv hr;obtain⟨ti,zv,z1,z2,z3⟩:=hz;have hzr:(zeroValue et).run P w = .ok zv w:=by simp[zeroValue,typeInfo,z1,z2]
 have run:∀(v:Value) (fnd:Option (Nat×Value)) (okv:Bool),Instr.findNow d kv es.toList 0=some fnd->(match fnd with|some (_,u)=>u=v/\okv=true|none=>zv=v/\okv=false) ->
   (execOp ac.eval o).run P w = .ok (.value (if ok then .tuple #[v,.bool okv] else v)) w:=fun v fnd okv h1 h2=>by
  unfold execOp;simp only[ho,Instr.lookup,Sem.run_bind,run_underlying hmt,Result.andThen_ok,hxv,hiv,run_getObj_map m1,Sem.run_pure,run_checkKey (P:=P) (w:=w) hd hkv es.isEmpty 9999,run_findKey (P:=P) (w:=w) hd h1];cases fnd with
  | none =>
   obtain⟨rfl,rfl⟩:=h2;simp only[Sem.run_bind,hzr,Result.andThen_ok,Sem.run_pure]
  | some q =>
   obtain⟨n,u⟩:=q;obtain⟨rfl,rfl⟩:=h2;simp only[Sem.run_bind,Result.andThen_ok,Sem.run_pure]
 have put:∀(v:Value) (a:AV) (okv:Bool),Rep g.F w v a->Rep g.F w (if ok then .tuple #[v,.bool okv] else v) (if ok then .tup [a,.lit (.bool okv)] else a):=fun v a okv h=>by
  cases ok with
  | false=>exact h
  | true =>
   refine .tup _ _ rfl fun j u c hu hc=>?_
   match j with
   | 0=>simp at hu hc;subst hu;subst hc;exact h
   | 1=>simp at hu hc;subst hu;subst hc;exact .lit _ rfl
   | j+2=>simp at hu
 cases r with
 | none =>
  have h1:Instr.findNow d kv es.toList 0=some none:=hfn;have h2:=run zv none false h1 ⟨rfl,rfl⟩;refine⟨_,h2,fun _=>?_⟩;have h3:=put zv z false (z3 _ _);cases ok<;>exact h3
 | some q =>
  obtain⟨j,a⟩:=q;obtain⟨v,h1,h3,_⟩:=hfn;have h2:=run v (some (j,v)) true h1 ⟨rfl,rfl⟩;refine⟨_,h2,fun _=>?_⟩;have h3:=put v a true h3;cases ok<;>exact h3
def ArgsAs (e:Env):List Operand->List AV->Prop
 | [],[]=>True
 | o::r,a::l=>(∃b,opd e o = .v b/\(a=b∨a=wk b))/\ArgsAs e r l
 | _,_=>False
theorem ArgsAs.rep {m:Nat} {e':Env} {cx:Ctx} {g:G} {ac:Act} {w:World} (hag:Agree m e e') (hR:Rel cx g e' ac w):∀{xs:List Operand} {ys:List AV},Sub (zG xs) m->ArgsAs e xs ys ->
  xs.length=ys.length/\∀(i:Nat) v a,(xs.map ac.eval)[i]? = some v->ys[i]? = some a->Rep g.F w v a
 | [],[],_,_=>⟨rfl,fun i v a h=>by simp at h⟩
 | o::r,a::l,hs,h=>by
  obtain⟨⟨b,hb,hab⟩,ht⟩:=h;obtain⟨h1,h2⟩:=ArgsAs.rep hag hR (xs:=r) (ys:=l) hs.or_right ht;have h0:=zF hag hR hs.or_left hb;refine⟨by simp[h1],fun i v a' hv ha'=>?_⟩
  match i with
  | 0 =>
   simp at hv ha';subst hv;subst ha';rcases hab with rfl|rfl
   ·exact h0
   ·exact wG h0
  | i+1=>exact h2 i v a' (by simpa using hv) (by simpa using ha')
 | [],_::_,_,h=>h.elim
 | _::_,[],_,h=>h.elim
theorem ArgsAs.vals:∀{xs:List Operand} {ys:List AV},ArgsAs e xs ys->∀(i:Nat) x,xs[i]? = some x->∃a,opd e x = .v a
 | [],_,_,i,x,h=>by simp at h
 | o::r,a::l,h,i,x,hx=>by
  match i with
  | 0=>simp at hx;subst hx;obtain⟨⟨b,hb,_⟩,_⟩:=h;exact⟨b,hb⟩
  | i+1=>exact ArgsAs.vals h.2 i x (by simpa using hx)
 | _::_,[],h,_,_,_=>h.elim
theorem zB8 {cx:Ctx} {g:G} {e':Env} {ac:Act} {w:World} {m:Nat} (hag:Agree m e e') (hR:Rel cx g e' ac w) {c:Call} {f:Operand} (ho:o.op = .call c) (hc:c.callee = .value f) (hm2:Sub (zG c.args.toList) m)
  (hdn:∀d,o.dst=some d->d<cx.n) {args:List AV} (ha:ArgsAs e c.args.toList args) {is os:List Nat} {hin:List (Nat×HO)} (hh:xK is e'.heap=some hin) (hn:is.Nodup)
  (hos:wR e' c.args.toList os=true) {post:AV->Nat->List (Nat×HO)->Prop} {n:Nat} {first cap:Array Value} (hfv:ac.eval f = .func (.func n) first cap) (hen:Enters P n)
  (hcalls:∀vs,HeapIn g.F w hin->qQ g.F w vs args os->(∀b∈zS vs os,b∉keys hin)->Calls P n (first++vs.toArray++cap) w (yJ g.F (keys hin) (zS vs os) w post)) {K:Act->World->Prop} {Q:Exit->Act->World->Prop}
  (hK:∀r n hout g' a' w',post r n hout->Rel cx g' (app e' (lose c.args.toList os++(putU o.dst (.v r)++(zBX o.dst n++[.heap (yF is e'.heap++hout)])))) a' w'->K a' w'):o.wp P ac w K Q:=by
 obtain⟨al,ar⟩:=ArgsAs.rep hag hR hm2 ha;have hvals:∀(i:Nat) t,c.args.toList[i]? = some (.tmp t)->∃a,e'.vals t = .v a:=fun i t hi=>by
  obtain⟨a,ha'⟩:=ha.vals i _ hi;have hb:Sub (bV t) m:=by
   have:∀{l:List Operand} {i:Nat},l[i]? = some (.tmp t)->Sub (bV t) (zG l):=by
    intro l;induction l with
    | nil=>intro i h;simp at h
    | cons x r ih =>
     intro i h
     match i with
     | 0=>simp at h;subst h;exact Sub.inl
     | i+1=>exact (ih (by simpa using h)).trans Sub.inr
   exact (this hi).trans hm2
  have hsn:=hag.val t (hb _ (qO t));simp only[opd] at ha';rw[ha'] at hsn;cases hx:e'.vals t with
  | v a2=>exact⟨a2,rfl⟩
  | _=>rw[hx] at hsn;cases a<;>simp[nf] at hsn
 obtain⟨k1,k2,k3,k4,k5,k6,k7,k8⟩:=zFK hR hos hvals;unfold Oper.wp;rw[zI3 ho hc hfv hen,Oper.upon_enter];have hargs:c.args.map ac.eval=(c.args.toList.map ac.eval).toArray:=Array.toList_inj.1 (by simp);have hins:=zDU hh;have hsub:∀x∈hin,x∈e'.heap:=fun x hx=>by obtain⟨i,_,h⟩:=hins.1 x hx;exact List.mem_of_getElem? h
 have hci:=hcalls (c.args.toList.map ac.eval) ⟨hins.2 hn hR.heap.nodup,fun b hb=>by
   obtain⟨x,hx,rfl⟩:=List.mem_map.1 hb;exact hR.heap.shut _ (List.mem_map.2 ⟨x,hsub x hx,rfl⟩),fun x hx=>hR.heap.ok x (hsub x hx)⟩
  ⟨by simp[al],ar,k2,k3⟩ (fun b hb hbi=>by
   obtain⟨t,q1,_,_⟩:=k4 b hb;obtain⟨x,hx,rfl⟩:=List.mem_map.1 hbi;have:=hR.heapO _ (List.mem_map.2 ⟨x,hsub x hx,rfl⟩);rw[q1] at this;cases this)
 rw[hargs];refine hci.mono fun en w' hpost=>?_;obtain⟨v,r,n',hout,F',rfl,p1,p2,p3,p4,p5,p6,p7,p8⟩:=hpost;show K (ac.put o.dst v) w';have tip0:∀b,(if n'=0 then none else zV v)=some b->b<w'.heap.size/\(b∈zS (c.args.toList.map ac.eval) os∨(w.heap.size<=b/\b∉keys hout)):=fun b hb=>by
  split at hb
  ·cases hb
  ·rename_i hn0;obtain⟨q1,q2⟩:=p3 (n'-1) (by omega);refine⟨?_,q2 b hb⟩;rcases q1 with q|⟨a,n,q⟩|⟨b2,off,n,cap,cs2,E2,q,_,_,q4,_⟩
   ·subst q;simp[zV] at hb
   ·subst q;cases a<;>simp[zV] at hb
   ·subst q;have:=zB0 hb;subst this;exact zL q4
 have hcd:=Rel.called (d:=o.dst.getD 0) (tb:=if n'=0 then none else zV v) k1 (hin:=hin) (hout:=hout) (rest:=yF is e'.heap) (yk:=zS (c.args.toList.map ac.eval) os) (F':=F')
  (by rw[k7];exact hsub) (by rw[k7];exact zMG hh hR.heap.nodup) (((zCH is 0 e'.heap).map _).nodup hR.heap.nodup) (fun b hb=>by obtain⟨t,q1,_,q3⟩:=k4 b hb;exact⟨t,q1,q3⟩) p4 p5 p6 p7 p8 tip0
 cases hd:o.dst with
 | none =>
  rw[hd] at hcd;have:app e' (lose c.args.toList os++(putU none (.v r)++(zBX none n'++[.heap (yF is e'.heap++hout)])))=app (app e' (lose c.args.toList os)) [.heap (yF is e'.heap++hout)]:=by
   simp only[putU,zBX,List.nil_append];rw[yG]
  rw[<-this] at hcd;exact hK r n' hout _ _ w' p1 (by rw[hd];exact hcd)
 | some d =>
  rw[hd] at hcd;have h2:=hcd.put (hdn d hd) (x := .v r) (v:=v) p2;have h3:=h2.setOwn d 0 n' (fun sz u he hv=>by
   have:(app (app (app e' (lose c.args.toList os)) [.heap (yF is e'.heap++hout)]) [.val d (.v r),.clr d]).vals d = .v r:=zW _ _ _;rw[this] at hv;have hv:=hv.2;rw[yK (by rw[hR.size];exact hdn d hd)] at hv;subst hv;obtain⟨q1,q2⟩:=p3 sz he;refine⟨q1,fun b hb=>?_⟩;simp only[Option.getD_some];rw[if_pos];rw[if_neg (by omega)];exact hb)
  have:app e' (lose c.args.toList os++(putU (some d) (.v r)++(zBX (some d) n'++[.heap (yF is e'.heap++hout)])))=app (app (app (app e' (lose c.args.toList os)) [.heap (yF is e'.heap++hout)]) [.val d (.v r),.clr d]) [.own d 0 n']:=by
   rw[yG,yG,yG];exact Env.ext' (fun _=>rfl) (fun _ _=>rfl) (fun _=>rfl) rfl
  rw[<-this] at h3;exact hK r n' hout _ _ w' p1 (by rw[hd];exact h3)
end
section
variable {P:Program} {arr:Array Oper} {o:Oper} {e:Env} {T:TT}
theorem Rel.freeze {cx:Ctx} {g:G} {e:Env} {a:Act} {w:World} (h:Rel cx g e a w) {s q:Nat} {a0:AV} (hs:e.vals s = .box q a0) :
  ∃g',Rel cx g' (app e [.val s (.v (.ptr a0.cells)),.clr s]) a w:=by
 obtain⟨b,cs,E,h1,h2,h3,h4,h5,h6⟩:=h.boxAt hs;have hne:∀j,g.O j≠.box s q->j≠b:=fun j hj e=>by subst e;exact hj h2
 have cm:∀j k,com g.F j k->com (fun j=>if j=b then some cs.size else g.F j) j k:=fun j k hm m hm'=>by
  by_cases hj:j=b
  ·subst hj;have:=hm 0 h3;omega
  ·simp only[hj,if_false] at hm';exact hm m hm'
 have kp:Keeps g.F w (fun j=>if j=b then some cs.size else g.F j) w:=⟨fun j k u hc hm=>⟨hc,cm j k hm⟩,fun j es c hc hm=>⟨hc,cm j 0 hm⟩⟩
 have hkey:∀j∈keys e.heap,j≠b:=fun j hj=>hne j (by rw[h.heapO j hj];simp);refine⟨{F:=fun j=>if j=b then some cs.size else g.F j,O:=g.O},{h with fext:=fun j hj=>?_,fresh:=fun j hj=>?_,slots:=fun s'=>?_,own:=fun s' c sz v ho hp=>?_,heap:=?_}⟩
 ·by_cases hjb:j=b
  ·subst hjb;simp only[if_true];have hy:j∈cx.yk:=by
    by_cases hy:j∈cx.yk
    ·exact hy
    ·rcases h.old j hj hy with h7|⟨_,h7⟩<;>(rw[h2] at h7;cases h7)
   rcases h.fext j hj with p|⟨p1,m,m',p2,p3,p4⟩
   ·exact .inr ⟨hy,0,cs.size,by rw[<-p,h3],rfl,Nat.zero_le _⟩
   ·rw[h3] at p3;injection p3 with p3;subst p3
    exact .inr ⟨hy,m,cs.size,p2,rfl,by omega⟩
  ·simp only[hjb,if_false];exact h.fext j hj
 ·have hjb:j≠b:=fun e=>by subst e;have:=zL h5;omega
  simp only[hjb,if_false];exact h.fresh j hj
 ·show SlotOk _ w s' (zBJ e.vals s _ s') _;by_cases hs':s'=s
  ·subst hs';rw[zW,h1];refine Rep.ptr_mk fun j c hj=>?_;obtain⟨u,q1,q2,q3⟩:=h6.cell hj;rw[Array.getElem?_toList] at q1;rw[Nat.zero_add];refine⟨u,by rw[World.cell_of_cells h5];exact q1,fun m hm=>?_,q2.mono kp,q3⟩;simp only[if_true] at hm;injection hm with hm;subst hm
   exact (Array.getElem?_eq_some_iff.1 q1).1
  ·rw[yQ _ _ hs'];have:=h.slots s';cases hx:e.vals s' with
   | junk=>trivial
   | undef=>rw[hx] at this;exact this
   | v y=>rw[hx] at this;exact Rep.mono this kp
   | box k y =>
    rw[hx] at this;obtain⟨b',cs',E',p1,p2,p3,p4,p5,p6⟩:=this;have hb:b'≠b:=fun e1=>by subst e1;rw[h2] at p2;injection p2 with p2 _;exact hs' p2.symm
    exact⟨b',cs',E',p1,p2,by simp only[hb,if_false];exact p3,p4,p5,p6.mono kp⟩
   | adB s2 k off=>rw[hx] at this;exact this
   | adE l =>
    rw[hx] at this;obtain⟨b',off,p1,p2⟩:=this;exact⟨b',off,p1,fun j c hj=>let ⟨u,q1,q2,q3,q4⟩:=p2 j c hj;⟨u,q1,cm _ _ q2,q3.mono kp,q4⟩⟩
 ·have ho':s'≠s/\e.own s' c=sz+1:=by
   simp only[app,app1] at ho;by_cases hs':s'=s
   ·subst hs';simp at ho
   ·rw[Nat.beq_ne hs'] at ho;exact⟨hs',by simpa using ho⟩
  have hp':PlaceVal a w (e.vals s') s' c v:=by
   simp only[app,app1] at hp;rw[yQ _ _ ho'.1] at hp;exact hp
  obtain⟨t1,t2⟩:=h.own s' c sz v ho'.2 hp';refine⟨?_,t2⟩;rcases t1 with t|t|⟨b2,off,n,cap,cs2,E2,r1,r2,r3,r4,r5⟩
  ·exact .inl t
  ·exact .inr (.inl t)
  ·by_cases hnc:n=cap
   ·subst hnc;exact .inr (.inl ⟨_,_,r1⟩)
   ·have:=t2 b2 (by rw[r1];simp[zV,hnc]);have hb2:b2≠b:=hne b2 (by rw[this];simp);exact .inr (.inr ⟨b2,off,n,cap,cs2,E2,r1,r2,by simp only[hb2,if_false];exact r3,r4,r5⟩)
 ·exact⟨h.heap.nodup,fun j hj=>by simp only[hkey j hj,if_false];exact h.heap.shut j hj,fun x hx=>(h.heap.ok x hx).grow kp (fun _=>rfl)⟩
def zD8:(Nat->SV)->List Operand->List U
 | _,[]=>[]
 | f,x::r=>match x with
  | .tmp s=>match f s with
   | .box _ a => .val s (.v (.ptr a.cells))::.clr s::zD8 (zBJ f s (.v (.ptr a.cells))) r
   | _=>zD8 f r
  | _=>zD8 f r
theorem zIB {m:Nat} {cx:Ctx} {a:Act} {w:World}:∀(l:List Operand) {e e':Env} {g:G},Sub (zG l) m->Agree m e e'->Rel cx g e' a w ->
  ∃g',Rel cx g' (app e' (zD8 e.vals l)) a w/\Agree m (app e (zD8 e.vals l)) (app e' (zD8 e.vals l))
 | [],e,e',g,_,hag,hR=>⟨g,hR,hag⟩
 | x::r,e,e',g,hs,hag,hR=>by
  unfold zD8;split
  ·rename_i s;split
   ·rename_i q a0 hx;obtain⟨g1,h1⟩:=hR.freeze (hag.box hs.or_left hx);obtain⟨g2,h2,h3⟩:=zIB (m:=m) (cx:=cx) (a:=a) (w:=w) r (e:=app e [.val s (.v (.ptr a0.cells)),.clr s]) (e':=app e' [.val s (.v (.ptr a0.cells)),.clr s]) hs.or_right (zAP hag) h1;exact⟨g2,h2,h3⟩
   ·exact zIB r hs.or_right hag hR
  ·exact zIB r hs.or_right hag hR
def zC9 (e:Env):List Operand->Option (List AV)
 | []=>some []
 | o::r=>match opd e o with
  | .v a=>match zC9 e r with
   | some l=>some (a::l)
   | none=>none
  | _=>none
theorem zBT:∀{xs:List Operand} {ys:List AV},zC9 e xs=some ys->ArgsAs e xs ys
 | [],ys,h=>by simp only[zC9,Option.some.injEq] at h;subst h;trivial
 | o::r,ys,h=>by
  simp only[zC9] at h;split at h
  ·rename_i a ha;split at h
   ·rename_i l hl;injection h with h;subst h
    exact⟨⟨a,ha,.inl rfl⟩,zBT hl⟩
   ·cases h
  ·cases h
theorem zFL:∀{xs:List Operand} {ys:List AV},opds e xs=some ys->ArgsAs e xs ys
 | [],ys,h=>by simp only[opds,Option.some.injEq] at h;subst h;trivial
 | o::r,ys,h=>by
  simp only[opds] at h;split at h
  ·rename_i a ha;split at h
   ·rename_i l hl;injection h with h;subst h
    exact⟨⟨a,ha,.inr rfl⟩,zFL hl⟩
   ·cases h
  ·cases h
theorem z3H {fn:Fn} {first captured:Array Operand} (ho:o.op = .makeFunc fn first captured) {l m:List AV} (h1:zC9 (app e (zD8 e.vals (first.toList++captured.toList))) first.toList=some l)
  (h2:zC9 (app e (zD8 e.vals (first.toList++captured.toList))) captured.toList=some m) :
  RunsB P o e (zD8 e.vals (first.toList++captured.toList)++putU o.dst (.v (.fn fn l m))) (zG (first.toList++captured.toList)):=by
 intro cx e' g ac w hd hag hR K Q hK;obtain⟨g1,hR1,hag1⟩:=zIB (first.toList++captured.toList) (Sub.refl _) hag hR;have hs:Sub (zG first.toList ||| zG captured.toList) (zG (first.toList++captured.toList)):=by rw[zBM];exact Sub.refl _
 obtain⟨q1,q2⟩:=(zBT h1).rep hag1 hR1 hs.or_left;obtain⟨q3,q4⟩:=(zBT h2).rep hag1 hR1 hs.or_right;have hrun:(execOp ac.eval o).run P w = .ok (.value (.func fn (first.map ac.eval) (captured.map ac.eval))) w:=by
  unfold execOp;simp only[ho,Instr.makeFunc,Sem.run_bind,Sem.run_pure,Result.andThen_ok]
 refine zU hrun (hK g1 _ _ ?_);rw[yG];refine hR1.putU hd fun _=>?_;refine .fn fn _ _ l m (by simpa using q1) (by simpa using q3) (fun j u c hu hc=>q2 j u c ?_ hc) (fun j u c hu hc=>q4 j u c ?_ hc)
 ·rw[<-hu];simp
 ·rw[<-hu];simp
theorem z2K {c:Call} {f:Operand} (ho:o.op = .call c) (hc:c.callee = .value f) {args:List AV} (ha:ArgsAs e c.args.toList args) {r:AV}
  (hf:∀cx e' g ac w,Agree (zJ f ||| zG c.args.toList) e e'->Rel cx g e' ac w->∃n first cap,ac.eval f = .func (.func n) first cap/\Enters P n/\∀vs,qQ g.F w vs args [] ->
   Calls P n (first++vs.toArray++cap) w (yJ g.F [] (zS vs []) w fun r' o h=>r'=r/\o=0/\h=[])) :
  RunsB P o e (putU o.dst (.v r)) (zJ f ||| zG c.args.toList):=by
 intro cx e' g ac w hd hag hR K Q hK;obtain⟨n,first,cap,hv,hen,hcalls⟩:=hf cx e' g ac w hag hR;have hos:∀(e:Env) (l:List Operand),wR e l []=true:=fun e l=>by cases l<;>rfl
 have hlo:∀l:List Operand,lose l []=[]:=fun l=>by
  cases l with
  | nil=>rfl
  | cons a r=>cases a<;>rfl
 refine zB8 hag hR ho hc Sub.inr hd ha (is:=[]) (os:=[]) (hin:=[]) rfl List.nodup_nil (hos _ _) hv hen (fun vs _ hao _=>hcalls vs hao) fun r' n' hout g' a' w' hp hR'=>?_;obtain⟨rfl,rfl,rfl⟩:=hp;refine hK g' a' w' ?_;rw[hlo,List.nil_append] at hR';have heq:app e' (putU o.dst (.v r')++(zBX o.dst 0++[.heap (yF [] e'.heap++[])]))=app e' (putU o.dst (.v r')):=by
  have hd0:yF [] e'.heap++[]=e'.heap:=by rw[List.append_nil];exact jH 0 _
  rw[hd0];cases o.dst with
  | none=>rfl
  | some d =>
   refine Env.ext' (fun _=>rfl) (fun s c=>?_) (fun _=>rfl) rfl;show (bif Nat.beq s d && Nat.beq c 0 then 0 else bif Nat.beq s d then 0 else e'.own s c)=(bif Nat.beq s d then 0 else e'.own s c);cases Nat.beq s d<;>cases Nat.beq c 0<;>rfl
 rw[heq] at hR';exact hR'
theorem z0Y {c:Call} {f:Operand} (ho:o.op = .call c) (hc:c.callee = .value f) {fv:Value} (hf:opd e f = .v (.lit fv)) {args:List AV} (ha:ArgsAs e c.args.toList args) {r:AV} (hcall:zE4 P fv args r) :
  RunsB P o e (putU o.dst (.v r)) (zJ f ||| zG c.args.toList):=by
 refine z2K ho hc ha fun cx e' g ac w hag hR=>?_;obtain⟨n,first,cap,rfl,hen,hcalls⟩:=hcall;have hfv:=(zF hag hR Sub.inl hf).lit_eq.1;have hy:∀vs:List Value,zS vs []=[]:=fun vs=>by cases vs<;>rfl
 exact⟨n,first,cap,hfv,hen,fun vs hao=>hcalls g.F w vs hR.fresh ⟨List.nodup_nil,fun b hb=>by simp[keys] at hb,fun x hx=>by simp at hx⟩ hao (fun b hb=>by rw[hy] at hb;simp at hb)⟩
theorem zTO {c:Call} {f:Operand} (ho:o.op = .call c) (hc:c.callee = .value f) {n:Nat} {l m:List AV} (hf:opd e f = .v (.fn (.func n) l m)) {args:List AV} (ha:ArgsAs e c.args.toList args) {r:AV}
  (hcall:zB P n (l++args++m) r):RunsB P o e (putU o.dst (.v r)) (zJ f ||| zG c.args.toList):=by
 refine z2K ho hc ha fun cx e' g ac w hag hR=>?_;obtain⟨n',first,cap,he,hen,hcalls⟩:=hcall;injection he with e1 e2 e3
 injection e1 with e1
 subst e1;subst e2;subst e3;obtain⟨vs1,us1,h1,h2,h3,h4,h5⟩:=Rep.fn_eq (zF hag hR Sub.inl hf);have hy:∀vs:List Value,zS vs []=[]:=fun vs=>by cases vs<;>rfl
 refine⟨n,vs1,us1,h1,hen,fun vs hao=>?_⟩;have:=hcalls g.F w (vs1.toList++(vs++us1.toList)) hR.fresh ⟨List.nodup_nil,fun b hb=>by simp[keys] at hb,fun x hx=>by simp at hx⟩
  ⟨by simp[h2,h3,hao.len],fun i v a hv hav=>?_,fun i v sz _ h=>by simp at h,by rw[hy];exact List.nodup_nil⟩ (fun b hb=>by rw[hy] at hb;simp at hb)
 ·rw[hy] at this⊢;rw[show #[]++(vs1.toList++(vs++us1.toList)).toArray ++ #[]=vs1++vs.toArray++us1 by apply Array.ext';simp] at this;exact this
 ·rw[List.append_assoc] at hav;rcases Nat.lt_or_ge i vs1.toList.length with hi|hi
  ·rw[List.getElem?_append_left hi] at hv;rw[List.getElem?_append_left (by rw[<-h2];simpa using hi)] at hav;exact h4 i v a (by simpa using hv) hav
  ·rw[List.getElem?_append_right hi] at hv;rw[List.getElem?_append_right (by rw[<-h2];simpa using hi)] at hav;have e0:vs1.toList.length=l.length:=by simp[h2]
   rw[e0] at hv;rcases Nat.lt_or_ge (i-l.length) vs.length with hi2|hi2
   ·rw[List.getElem?_append_left hi2] at hv;rw[List.getElem?_append_left (by rw[<-hao.len];exact hi2)] at hav;exact hao.rep _ v a hv hav
   ·rw[List.getElem?_append_right hi2] at hv;rw[List.getElem?_append_right (by rw[<-hao.len];exact hi2),<-hao.len] at hav;exact h5 _ v a (by simpa using hv) hav
theorem zFS {t E:TypeId} {i:TypeInfo} (h1:P.underlying t=some (.slice E)) (h2:P.info? E=some i) (w:World) (a:Option Addr) (len cap:Nat) {lo hi:Option Value} {l h:Int}
  (hl:zA9 lo 0 l) (hh:zA9 hi len h) (p1:0<=l) (p2:l<=h) (p3:h<=cap) :
  (Instr.sliceAt t (.slice a len cap) lo hi none).run P w = .ok (.slice (if cap=l.toNat then a else a.map (·.add (l.toNat*i.size))) (h.toNat-l.toNat) (cap-l.toNat)) w:=by
 have hh0:0<=h:=by omega
 have hc:((h.toNat:Nat):Int)=h:=by omega
 rcases hl with⟨rfl,rfl⟩|⟨q,rfl⟩<;>rcases hh with⟨rfl,rfl⟩|⟨q',rfl⟩ <;>
  simp[Instr.sliceAt,Instr.slice,Instr.sliceBounds,Instr.sliceBound,asIntOf,run_underlying h1,xO h2,p1,p2,p3,hh0,hc]
 all_goals simp_all
theorem z1D (hT:zN P T) {t:TypeId} {x:Operand} {lo hi:Option Operand} (ho:o.op = .slice t x lo hi none) {E esz:Nat} (hf:find T t = .sl E esz) {A:Option Addr} {n cap:Nat} (hx:opd e x = .v (.lit (.slice A n cap))) {l h:Int}
  (hl:bnd e lo 0=some l) (hh:bnd e hi (n:Nat)=some h) (p1:0<=l) (p2:l<=h) (p3:h<=cap) :
  RunsB P o e (putU o.dst (.v (.lit (.slice (if cap=l.toNat then A else A.map (·.add (l.toNat*esz))) (h.toNat-l.toNat) (cap-l.toNat))))) (zJ x ||| (zG lo.toList ||| zG hi.toList)):=by
 have hk:=find_ok hT t;rw[hf] at hk;obtain⟨it,i,z,k1,k2,k3,k4,k5,k6,_⟩:=hk;subst k6;refine zCD fun cx e' g ac w hag hR=>?_;have hslo:Sub (zG lo.toList) (zJ x ||| (zG lo.toList ||| zG hi.toList)):=Sub.trans Sub.inl Sub.inr;have hshi:Sub (zG hi.toList) (zJ x ||| (zG lo.toList ||| zG hi.toList)):=Sub.trans Sub.inr Sub.inr;have hv:=(zF hag hR Sub.inl hx).lit_eq.1;have b1:=zAK hag hR hslo hl;have b2:=zAK hag hR hshi hh;refine⟨_,?_,fun _=>Rep.lit _ rfl⟩;unfold execOp;simp only[ho,hv,Sem.run_bind,Option.map_none,zFS k1 k5 w A n cap b1 b2 p1 p2 p3,Result.andThen_ok,Sem.run_pure]
theorem z00 (hT:zN P T) {t:TypeId} {x:Operand} {lo hi:Option Operand} (ho:o.op = .slice t x lo hi none) {E esz:Nat} (hf:find T t = .sl E esz) (hx:opd e x = .v .nil) (hl:bnd e lo 0=some 0) (hh:bnd e hi 0=some 0) :
  RunsB P o e (putU o.dst (.v .nil)) (zJ x ||| (zG lo.toList ||| zG hi.toList)):=by
 have hk:=find_ok hT t;rw[hf] at hk;obtain⟨it,i,z,k1,k2,k3,k4,k5,k6,_⟩:=hk;subst k6;refine zCD fun cx e' g ac w hag hR=>?_;have hslo:Sub (zG lo.toList) (zJ x ||| (zG lo.toList ||| zG hi.toList)):=Sub.trans Sub.inl Sub.inr;have hshi:Sub (zG hi.toList) (zJ x ||| (zG lo.toList ||| zG hi.toList)):=Sub.trans Sub.inr Sub.inr;have hv:=(zF hag hR Sub.inl hx).nil_eq;have b1:=zAK hag hR hslo hl;have b2:=zAK hag hR hshi hh;refine⟨.slice none 0 0,?_,fun _=>Rep.nil⟩;unfold execOp;have:=zFS k1 k5 w none 0 0 b1 b2 (by omega) (by omega) (by omega);simp only[ho,hv,Sem.run_bind,Option.map_none,this,Result.andThen_ok,Sem.run_pure]
 rfl
theorem z2O (hT:zN P T) {c:Call} (ho:o.op = .call c) (hc:c.callee = .builtin .cap) {x:Operand} {t:Nat} (hts:c.argTypes.toList=[t]) (hxs:c.args.toList=[x]) {E esz:Nat} (hf:find T t = .sl E esz) {n:Nat}
  (hx:(opd e x = .v .nil/\n=0)∨∃A k,opd e x = .v (.lit (.slice A k n))):RunsB P o e (putU o.dst (.v (.lit (.int .i64 (n:Nat))))) (zJ x):=by
 have hk:=find_ok hT t;rw[hf] at hk;obtain⟨it,i,z,k1,_⟩:=hk;refine zCD fun cx e' g ac w hag hR=>?_;have hv:∃A k,ac.eval x = .slice A k n:=by
  rcases hx with⟨hx,rfl⟩|⟨A,k,hx⟩
  ·exact⟨_,_,(zF hag hR (Sub.refl _) hx).nil_eq⟩
  ·exact⟨_,_,(zF hag hR (Sub.refl _) hx).lit_eq.1⟩
 obtain⟨A,k,hv⟩:=hv;refine⟨_,?_,fun _=>Rep.lit _ rfl⟩;obtain⟨cs,hex⟩:=yH (ρ:=ac.eval) ho hc;rw[hex,qK hxs,qM hts];simp[builtin,Builtin.cap_,hv,run_underlying k1,goInt,Sem.run_bind]
theorem z5A {op:BinOp} {t t2:TypeId} {x y:Operand} (ho:o.op = .binOp op t x y t2) {u v r:Value} (hx:opd e x = .v (.lit u)) (hy:opd e y = .v (.lit v)) (h1:u≠.nilIface) (h2:∀cs,u≠.agg cs)
  (hr:∀w,(binOp op t u v).run P w = .ok r w) (h1r:r.oneCell'=true):RunsB P o e (putU o.dst (.v (.lit r))) (zJ x ||| zJ y):=by
 refine zCD fun cx e' g ac w hag hR=>⟨r,?_,fun _=>Rep.lit _ h1r⟩
 have e1:=(zF hag hR Sub.inl hx).lit_eq.1;have e2:=(zF hag hR Sub.inr hy).lit_eq.1;unfold execOp;simp only[ho,e1,e2,Sem.run_bind,zCX h1 h2,Result.andThen_ok,hr,Sem.run_pure]
theorem Rel.putHeap {cx:Ctx} {g:G} {e1:Env} {a:Act} {w:World} {h':List (Nat×HO)} (h:Rel cx g (app e1 [.heap h']) a w) {d:Option Nat} (hd:∀d',d=some d'->d'<cx.n) {x:SV} {v:Value} (hx:∀d,SlotOk g w d x v) :
  Rel cx g (app e1 (Fp.putU d x++[.heap h'])) (a.put d v) w:=by
 have:=h.putU hd hx;have e:app (app e1 [.heap h']) (Fp.putU d x)=app e1 (Fp.putU d x++[.heap h']):=by
  rw[yG];cases d<;>rfl
 rw[e] at this;exact this
theorem z0R (hT:zN P T) {c:Call} (ho:o.op = .call c) (hc:c.callee = .builtin .copy) {x y:Operand} {t t2:Nat} (hts:c.argTypes.toList=[t,t2]) (hxs:c.args.toList=[x,y]) {E esz:Nat} (hf:find T t = .sl E esz) {b off n cap i:Nat} {l m:List AV} {a:AV}
  (hx:opd e x = .v (.lit (.slice (some ⟨b,off,none⟩) n cap))) (hi:e.heap[i]? = some (b,HO.cells l)) (hle:off+m.length*esz<=l.length) (hy:opd e y = .v a) (hw:wk a = .sl m) (hu:Uni esz m) (hmn:m.length<=n) :
  RunsB P o e (putU o.dst (.v (.lit (.int .i64 (m.length:Nat))))++[.heap (e.heap.set i (b,HO.cells (setAt l off (m.flatMap AV.cells))))]) (zJ x ||| (zJ y ||| 8)):=by
 have hk:=find_ok hT t;rw[hf] at hk;obtain⟨it,ii,z,k1,k2,k3,k4,k5,k6,k7,k8,k9,k10,_⟩:=hk;subst k6;intro cx e' g ac w hd hag hR K Q hK;have hh:=hag.heap ((Sub.trans Sub.inr Sub.inr:Sub 8 (zJ x ||| (zJ y ||| 8))) 3 (by decide));rw[hh] at hi hK;have hv:=(zF hag hR Sub.inl hx).lit_eq.1;have hm:=wG (zF hag hR (Sub.trans Sub.inl Sub.inr) hy);rw[hw] at hm;obtain⟨news,ad2,cap2,hv2,s2,f2,r2⟩:=wL k1 hm hu;have hnl:=s2.newsLen;have hcells:=zB5 k10 hu hnl r2;obtain⟨cs,E2,p5,p6⟩:=hR.heapAt hi;have hsz:cs.size=l.length:=by rw[<-p6.1];simp
 obtain⟨w',cs',r1,st,hat⟩:=xE (P:=P) news w b off 0 cs E2 p5 (by rw[hnl,hsz];omega) s2.one;simp only[Nat.add_zero] at hat;have hfl:=yO hu;have hrel:=hR.setHeap hi st (p6.piece hcells (by rw[hfl];exact hle) hat);have hrun:(execOp ac.eval o).run P w = .ok (.value (.int .i64 (m.length:Nat))) w':=by
  obtain⟨cs0,hex⟩:=yH (ρ:=ac.eval) ho hc;rw[hex,qK hxs,qM hts];have hmin:Nat.min m.length n=m.length:=Nat.min_eq_left hmn;simp[builtin,Builtin.copy_,hv,run_underlying k1,xO k5,s2.len,hmin,s2.cells,r1,goInt,Sem.run_bind]
 exact zU hrun (hK g _ _ (hrel.putHeap hd fun _=>Rep.lit _ rfl))
theorem z0M (hT:zN P T) {c:Call} (ho:o.op = .call c) (hc:c.callee = .builtin .copy) {x y:Operand} {t t2:Nat} (hts:c.argTypes.toList=[t,t2]) (hxs:c.args.toList=[x,y]) {E esz:Nat} (hf:find T t = .sl E esz) {b off cap:Nat} {m:List AV} {a:AV}
  (hx:opd e x = .v (.lit (.slice (some ⟨b,off,none⟩) 0 cap))) (hy:opd e y = .v a) (hw:wk a = .sl m) :
  RunsB P o e (putU o.dst (.v (.lit (.int .i64 0)))) (zJ x ||| zJ y):=by
 have hk:=find_ok hT t;rw[hf] at hk;obtain⟨it,ii,z,k1,k2,k3,k4,k5,k6,k7,k8,k9,k10,_⟩:=hk;subst k6;refine zCD fun cx e' g ac w hag hR=>?_;have hv:=(zF hag hR Sub.inl hx).lit_eq.1;have hm:=wG (zF hag hR Sub.inr hy);rw[hw] at hm;obtain⟨ad,cp,hvy,_⟩:=hm.sl_shape;refine⟨.int .i64 0,?_,fun _=>Rep.lit _ rfl⟩;obtain⟨cs0,hex⟩:=yH (ρ:=ac.eval) ho hc;rw[hex,qK hxs,qM hts];cases ad<;>simp[builtin,Builtin.copy_,hv,hvy,run_underlying k1,xO k5,Builtin.lenOf,Builtin.firstCells,goInt,Sem.run_bind,loadCells,loadCellsFrom,storeCells]
theorem z1L (hT:zN P T) {c:Call} (ho:o.op = .call c) (hc:c.callee = .builtin .copy) {x y:Operand} {t t2:Nat} (hts:c.argTypes.toList=[t,t2]) (hxs:c.args.toList=[x,y]) {E esz:Nat} (hf:find T t = .sl E esz) {b off n cap i:Nat} {l:List AV}
  (hx:opd e x = .v (.lit (.slice (some ⟨b,off,none⟩) n cap))) (hi:e.heap[i]? = some (b,HO.cells l)) {b2 off2 n2 cap2 i2:Nat} {l2:List AV} (hy:opd e y = .v (.lit (.slice (some ⟨b2,off2,none⟩) n2 cap2))) (hi2:e.heap[i2]? = some (b2,HO.cells l2))
  (hle:off+min n2 n*esz<=l.length) (hle2:off2+min n2 n*esz<=l2.length) :
  RunsB P o e (putU o.dst (.v (.lit (.int .i64 (min n2 n:Nat))))++[.heap (e.heap.set i (b,HO.cells (setAt l off ((l2.drop off2).take (min n2 n*esz)))))]) (zJ x ||| (zJ y ||| 8)):=by
 have hk:=find_ok hT t;rw[hf] at hk;obtain⟨it,ii,z,k1,k2,k3,k4,k5,k6,k7,k8,k9,k10,_⟩:=hk;subst k6;intro cx e' g ac w hd hag hR K Q hK;have hh:=hag.heap ((Sub.trans Sub.inr Sub.inr:Sub 8 (zJ x ||| (zJ y ||| 8))) 3 (by decide));rw[hh] at hi hi2 hK;have hv:=(zF hag hR Sub.inl hx).lit_eq.1;have hv2:=(zF hag hR (Sub.trans Sub.inl Sub.inr) hy).lit_eq.1;obtain⟨cs,E2,p5,p6⟩:=hR.heapAt hi;obtain⟨cs2,E3,q5,q6⟩:=hR.heapAt hi2;have hsz:cs.size=l.length:=by rw[<-p6.1];simp
 have hsz2:cs2.size=l2.length:=by rw[<-q6.1];simp
 obtain⟨k,hkk⟩:∃k,k=min n2 n*ii.size:=⟨_,rfl⟩
 obtain⟨news,hnews⟩:∃news,news=(cs2.toList.drop off2).take k:=⟨_,rfl⟩
 have hnl:news.length=k:=by rw[hnews,List.length_take,List.length_drop,Array.length_toList];omega
 have hcells:RepCells g.F w news ((l2.drop off2).take k):=by
  refine⟨by rw[hnl,List.length_take,List.length_drop];omega,fun j u c hu hc=>?_⟩;rw[hnews,List.getElem?_take] at hu;rw[List.getElem?_take] at hc;split at hu
  ·rename_i hj;rw[if_pos hj] at hc;rw[List.getElem?_drop] at hu hc;exact q6.2 _ _ _ hu hc
  ·cases hu
 have hone:∀v∈news,v.oneCell'=true:=fun v hv=>by
  obtain⟨j,hj⟩:=List.getElem?_of_mem hv;have hlt:j<((l2.drop off2).take k).length:=by rw[<-hcells.1];exact (List.getElem?_eq_some_iff.1 hj).1
  obtain⟨r1,r2⟩:=hcells.2 j v _ hj (List.getElem?_eq_getElem hlt);exact r1.one r2
 obtain⟨w',cs',r1,st,hat⟩:=xE (P:=P) news w b off 0 cs E2 p5 (by rw[hnl,hsz];omega) hone;simp only[Nat.add_zero] at hat;have hrel:=hR.setHeap hi st (p6.piece hcells (by rw[<-hcells.1,hnl];omega) hat);have hld:(loadCells ⟨b2,off2,none⟩ k).run P w = .ok news.toArray w:=by
  have:=run_loadCells_list (P:=P) w ⟨b2,off2,none⟩ news (fun j v hj=>by
   rw[hnews,List.getElem?_take] at hj;split at hj
   ·rw[List.getElem?_drop] at hj;rw[Addr.add_at,World.cell_of_cells q5,<-Array.getElem?_toList];exact hj
   ·cases hj)
  rw[hnl] at this;exact this
 have hrun:(execOp ac.eval o).run P w = .ok (.value (.int .i64 (min n2 n:Nat))) w':=by
  obtain⟨cs0,hex⟩:=yH (ρ:=ac.eval) ho hc;rw[hex,qK hxs,qM hts];have hmin:Nat.min n2 n*ii.size=k:=hkk.symm;simp[builtin,Builtin.copy_,hv,hv2,run_underlying k1,xO k5,Builtin.lenOf,Builtin.firstCells,hmin,hld,r1,goInt,Sem.run_bind]
 rw[hkk] at hrel;exact zU hrun (hK g _ _ (hrel.putHeap hd fun _=>Rep.lit _ rfl))
set_option maxRecDepth 10000 in
theorem zQN (hT:zN P T) {c:Call} (ho:o.op = .call c) (hc:c.callee = .builtin .append) {x y:Operand} {t t2:Nat} (hts:c.argTypes.toList=[t,t2]) (hxs:c.args.toList=[x,y]) {E esz:Nat} (hf:find T t = .sl E esz) {q:IntKind} {z2:Int} (hf2:find T t2 = .sc (.lit (.int q z2)))
  (hx:opd e x = .v .nil) {n:Nat} (hy:opd e y = .v (.lit (.int .i64 (n:Nat)))) (hn:0<n) (hn2:n<=4294967296) {d:Nat} (hd:o.dst=some d) {k:List U->Prop}
  (h:∀b cap zs,n<=cap->zs.length=cap*esz->k [.val d (.v (.lit (.slice (some ⟨b,0,none⟩) n cap))),.clr d,.heap (e.heap++[(b,HO.cells zs)])]):∀cx g a w,(∀d,o.dst=some d->d<cx.n)->Rel cx g e a w->∀(K:Act->World->Prop) (Q:Exit->Act->World->Prop),
  (∀u g' a' w',k u->Rel cx g' (app e u) a' w'->K a' w')->o.wp P a w K Q:=by
 intro cx g ac w hdn hR K Q hK;have hk:=find_ok hT t;rw[hf] at hk;obtain⟨it,i,z,k1,k2,k3,k4,k5,k6,k7,k8,k9,k10,k11,k12⟩:=hk;subst k6;have k2':=zQZ hT hf2;have hag:=Agree.refl (zJ x ||| zJ y) e;have hv:=(zF hag hR Sub.inl hx).nil_eq;have hv2:=(zF hag hR Sub.inr hy).lit_eq.1;have hfit:Builtin.nextslicecap (0+n) 0*i.bytes<=281474976710656:=growslice_fits (by omega) (by
  have:(0+n)*i.bytes<=4294967296*32768:=Nat.mul_le_mul (by omega) k12;omega)
 have hw:IntKind.i64.wrap (n:Int)=n:=by
  simp[IntKind.wrap,IntKind.signed,IntKind.bits,Int.bmod];omega
 have hb:(n:Int)*(i.bytes:Int)<=281474976710656:=by
  have:n*i.bytes<=4294967296*32768:=Nat.mul_le_mul hn2 k12;rw[<-Int.natCast_mul];generalize n*i.bytes=q at this;omega
 have hnz:¬(n*i.size=0):=by
  have:0<n*i.size:=Nat.mul_pos hn k10;omega
 have hrun:(Builtin.append_ #[t,t2] o.type #[.slice none 0 0,.int .i64 (n:Nat)]).run P w =
   .ok (.slice (some ⟨w.heap.size,0,none⟩) (0+n) (grownCap w (0+n) 0 E)) (w.drew.alloc (.cells (Builtin.zeroCells z.cells n++Builtin.zeroCells z.cells (grownCap w (0+n) 0 E-(0+n))) E)):=by
  have h63':¬(9223372036854775807<(n:Int)):=by omega
  have h48':¬(281474976710656<Builtin.nextslicecap n 0*i.bytes):=by rw[Nat.zero_add] at hfit;omega
  have hlt0:¬((n:Int)<0):=by omega
  have hb':¬(281474976710656<(n:Int)*(i.bytes:Int)):=by omega
  have hn':¬n=0:=by omega
  simp[Builtin.append_,run_underlying k1,run_underlying k2',Go.sizeOf,typeInfo,zeroValue,k5,k7,asInt,asIntOf,hw,hlt0,hb',hnz,hn',h63',h48',Question.forced,newRow,grownCap,Builtin.firstCells]
 have hz:RepCells g.F w (Builtin.zeroCells z.cells n++Builtin.zeroCells z.cells (grownCap w (0+n) 0 E-(0+n))).toList ((Builtin.zeroCells z.cells n).toList.map AV.lit++(Builtin.zeroCells z.cells (grownCap w (0+n) 0 E-(0+n))).toList.map AV.lit):=by
  rw[Array.toList_append];exact (zB7 k9 _).append (zB7 k9 _)
 have hcap:=grownCap_ge w (0+n) 0 E;obtain⟨g',q1,q2,q3⟩:=hR.newBlock (E:=E) hz (hdn d hd) (n:=0+n) (cap:=grownCap w (0+n) 0 E);have exec:(execOp ac.eval o).run P w = .ok (.value (.slice (some ⟨w.heap.size,0,none⟩) (0+n) (grownCap w (0+n) 0 E))) (w.drew.alloc (.cells (Builtin.zeroCells z.cells n++Builtin.zeroCells z.cells (grownCap w (0+n) 0 E-(0+n))) E)):=by
  obtain⟨cs,hex⟩:=yH (ρ:=ac.eval) ho hc;rw[hex,qK hxs,qM hts];simp only[builtin,List.map_toArray,List.map_cons,List.map_nil,hv,hv2,Sem.run_bind,hrun,Result.andThen_ok,Sem.run_pure]
 refine zU exec ?_;rw[hd];have e0:0+n=n:=Nat.zero_add n;rw[e0] at q1 q2 q3 hcap⊢;refine hK _ g' _ _ (h w.heap.size (grownCap w n 0 E) _ hcap ?_) (q1.heapTo q2 q3);simp only[List.length_append,List.length_map,Builtin.zeroCells,Array.length_toList,Array.size_map,Array.size_range,k8];rw[<-Nat.add_mul];congr 1;omega
end
end Fp
