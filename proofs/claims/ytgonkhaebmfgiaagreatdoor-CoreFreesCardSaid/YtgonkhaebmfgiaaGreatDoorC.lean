/- A part of the proof of a given statement: contracts of functions of the program, under no condition but those that each states. -/
import Derived.Test.YtgonkhaebmfgiaaGreatDoorB
import Derived.Test.YtgonkhaebmfgiaaGreatDoorFpE
set_option linter.unusedSimpArgs false
set_option linter.unusedVariables false
namespace Go.Proofs.YtgonkhaebmfgiaaGreatDoor
open Go Fp
set_option maxRecDepth 100000
set_option maxHeartbeats 8000000
theorem zHB:∀s∈qO,Low 24 s:=by
 have h:∀n:Nat,n<24->(lett n=⟨#[UInt8.ofNat (97+n)]⟩):=fun n hn=>by rw[lett,if_pos (by omega),Nat.mod_eq_of_lt (by omega)]
 intro s hs;unfold qO at hs;simp at hs;rcases hs with rfl|rfl|rfl|rfl
 ·exact⟨0,by decide,h 0 (by decide)⟩
 ·exact⟨1,by decide,h 1 (by decide)⟩
 ·exact⟨2,by decide,h 2 (by decide)⟩
 ·exact⟨23,by decide,h 23 (by decide)⟩
theorem z1A {t:Tp} (h:good t):LowT 24 t:=by
 induction t with
 | no=>trivial
 | mt n=>trivial
 | con s=>trivial
 | var s=>exact zHB s h
 | app a b iha ihb=>exact⟨iha h.1,ihb h.2⟩
 | all s a ih=>exact⟨zHB s h.1,ih h.2⟩
theorem mem_fv_app {a b:Tp} {x:ByteArray}:x∈fv (.app a b)↔x∈fv a∨x∈fv b:=by
 simp only[fv,mem_insAll,no];simp
theorem mem_fv_all {s:ByteArray} {a:Tp} {x:ByteArray}:x∈fv (.all s a)↔x∈fv a/\x≠s:=by
 simp only[fv,mem_insAll];simp
def Fo (ps:Env') (y x:ByteArray):Prop:=match look y ps with
 | none=>x=y
 | some u=>x∈fv u
theorem zZU {y:ByteArray} {ps:Env'} (h:y∉ps.map (·.1)):look y ps=none:=by
 induction ps with
 | nil=>rfl
 | cons p r ih =>
  obtain⟨s,t⟩:=p;simp only[List.map_cons,List.mem_cons,not_or] at h;simp only[look];rw[if_neg (fun e=>h.1 e.symm)];exact ih h.2
theorem zJ2 {y:ByteArray} {ps qs:Env'}:look y (ps++qs)=match look y ps with|none=>look y qs|some u=>some u:=by
 induction ps with
 | nil=>rfl
 | cons p r ih =>
  obtain⟨s,t⟩:=p;simp only[List.cons_append,look];split
  ·rfl
  ·exact ih
theorem zZK {s y:ByteArray} {own:List ByteArray} {ps:Env'} (h1:y≠s) (h2:y∈own):look y (kept s own ps)=look y ps:=by
 induction ps with
 | nil=>rfl
 | cons p r ih =>
  obtain⟨n,t⟩:=p;unfold kept at ih⊢;by_cases hn:n=y
  ·subst hn;rw[List.filter_cons,if_pos (by rw[yA h2,decide_eq_true (p:=n≠s) h1];rfl)];simp[look]
  ·rw[List.filter_cons];split
   ·simp only[look,if_neg hn];exact ih
   ·simp only[look,if_neg hn];exact ih
theorem zRK {s:ByteArray} {own:List ByteArray} {ps:Env'}:look s (kept s own ps)=none:=by
 apply zZU;intro hm;obtain⟨p,hp,e⟩:=List.mem_map.1 hm;have:=(List.mem_filter.1 hp).2;rw[decide_eq_false (p:=p.1≠s) (fun h=>h e)] at this;cases this
theorem z3E {M:Nat} (hM:1<=M) (t:Tp):∀ps:Env',(∀p∈ps,p.2.sz<=M)->(sub t ps).sz<=t.sz*M:=by
 induction t with
 | var v =>
  intro ps hp;simp only[sub,Tp.sz,Nat.one_mul];cases hl:look v ps with
  | none=>exact hM
  | some u=>exact hp _ (zIE hl)
 | app a b iha ihb =>
  intro ps hp;have h1:=iha ps hp;have h2:=ihb ps hp;simp only[sub,Tp.sz,Nat.add_mul,Nat.one_mul];omega
 | all s a ih =>
  intro ps hp;simp only[sub];split
  ·have h1:=ih (kept s (fv a) ps++[(s,.var (lett (ff (caught (kept s (fv a) ps)++fv a))))]) (fun p h=>by
    rcases List.mem_append.1 h with h|h
    ·exact hp p (qF h)
    ·simp at h;subst h;exact hM)
   simp only[Tp.sz,Nat.add_mul,Nat.one_mul];omega
  ·have h1:=ih (kept s (fv a) ps) (fun p h=>hp p (qF h));simp only[Tp.sz,Nat.add_mul,Nat.one_mul];omega
 | _=>intro ps hp;simp only[sub,Tp.sz,Nat.one_mul];exact hM
def rest (own:List ByteArray) (ps:Env'):List ByteArray:=own.filter fun x => !memb x (ps.map (·.1))
def pl (l:List ByteArray) (s:ByteArray):Int:=if memb s l then (l.length:Int)-1-ixI l.reverse s else -1
theorem zYD {n k:Nat} (h:k<n) (hn:n<9223372036854775808):IntKind.i64.wrap (IntKind.i64.wrap ((n:Int)-1)-(k:Int))=((n-1-k:Nat):Int):=by
 have e1:(n:Int)-1=((n-1:Nat):Int):=by omega
 rw[e1,yF (by omega),show ((n-1:Nat):Int)-(k:Int)=((n-1-k:Nat):Int) by omega,yF (by omega)]
theorem zRQ {l:List ByteArray} {s:ByteArray} (hl:l.length<9223372036854775807):zC Tryz.prog zN1 [.sl (eSs l),.lit (.string s)] (.lit (.int .i64 (pl l s))):=by
 refine zB ttok mixed Tryz.func129 rfl (by rfl) (Nat.le_of_ble_eq_true rfl) (by kernel_rfl) ?_;have hlen:(eSs l).length=l.length:=by simp[eSs]
 have hrl:l.reverse.length=l.length:=by simp
 refine⟨{k:Nat // k<=l.length/\∀j,j<k->l.reverse[j]?≠some s},fun k=>{vs:=[(0,.v (.sl (eSs l))),(1,.v (.lit (.string s))),(8,.v (.lit (.int .i64 ((eSs l).length:Nat)))),(9,.v (.lit (.int .i64 (k.1:Nat))))],ow:=[]},
  fun k=>l.length-k.1,⟨0,Nat.zero_le _,fun j hj=>absurd hj (by omega)⟩,⟨⟨rfl,rfl,rfl,rfl,trivial⟩,trivial,rfl⟩,?_⟩
 rintro⟨k,hk,hn⟩;refine⟨fun h=>?_,fun h=>?_⟩
 ·have h:k<l.length:=by simp[hlen] at h;omega
  have ew:IntKind.i64.wrap (IntKind.i64.wrap (((eSs l).length:Nat)-1)-(k:Int))=((l.length-1-k:Nat):Int):=by rw[hlen];exact zYD h (by omega)
  have hi:l.length-1-k<l.length:=by omega
  have hrev:l.reverse[k]'(by omega)=l[l.length-1-k]:=by simp[List.getElem_reverse]
  refine⟨.lit (.string l[l.length-1-k]),by rw[ew];omega,by rw[ew];exact zEK hi,rfl,?_⟩;refine⟨fun h2=>?_,fun h2=>?_⟩
  ·have h2:l[l.length-1-k]=s:=of_decide_eq_true h2;have hp:pl l s=((l.length-1-k:Nat):Int):=by
    rw[pl,yA (h2 ▸ List.getElem_mem hi),if_pos rfl,zIM (l:=l.reverse) (k:=k) (by omega) (by rw[hrev,h2]) hn];omega
   rw[hp,<-ew];exact rfl
  ·have h2:l[l.length-1-k]≠s:=of_decide_eq_false h2;refine⟨⟨k+1,h,zDF (l:=l.reverse) (by omega) (by rw[hrev];exact h2) hn⟩,(show l.length-(k+1)<l.length-k by omega),⟨rfl,rfl,rfl,?_,trivial⟩,trivial,rfl⟩;exact congrArg (fun n=>SV.v (AV.lit (Value.int .i64 n))) (wrap_succ (k:=k) (by omega))
 ·have h:k=l.length:=by simp[hlen] at h;omega
  subst h;have hp:pl l s = -1:=by
   rw[pl,y8 (fun hm=>qV (l:=l.reverse) (by rw[hrl];exact hn) (List.mem_reverse.2 hm))];rfl
  rw[hp];exact rfl
def smb:Tp->Tp->List ByteArray->List ByteArray->Bool
 | .all s a,.all r b,x,y=>smb a b (x++[s]) (y++[r])
 | .var s,.var r,x,y=>decide (pl x s=pl y r) && (decide (0<=pl x s) || decide (s=r))
 | .app a b,.app c d,x,y=>smb a c x y && smb b d x y
 | .con s,.con r,_,_=>decide (s=r)
 | .mt n,.mt m,_,_=>decide (n=m)
 | .no,.no,_,_=>true
 | _,_,_,_=>false
theorem zOC (l:List AV):List.drop (Int.toNat 0) (List.take (Int.toNat ((l.length:Nat):Int)) l)=l:=by simp
theorem z6Q (N:Nat):∀(a b:Tp) (x y:List ByteArray),a.sz<=N->x.length+N<=4000000000->y.length+N<=4000000000->zC Tryz.prog zQJ [eTy a,eTy b,.sl (eSs x),.sl (eSs y)] (.sb (smb a b x y)):=by
 induction N with
 | zero=>intro a b x y h;have:=zA7 a;omega
 | succ N ih =>
  intro a b x y hs hx hy;have hxl:(eSs x).length=x.length:=by simp[eSs]
  have hyl:(eSs y).length=y.length:=by simp[eSs]
  by_cases hform:a.form=b.form
  ·cases a<;>cases b<;>try (simp[Tp.form] at hform;done)
   ·refine zB ttok mixed Tryz.func86 rfl (by rfl) (Nat.le_of_ble_eq_true rfl) (by kernel_rfl) ?_;refine⟨fun _=>?_,fun h=>(by cases h)⟩;refine⟨fun _=>?_,fun h=>(by cases h)⟩;refine⟨fun h=>(by cases h),fun _=>?_⟩;refine⟨fun h=>(by cases h),fun _=>?_⟩;refine⟨fun h=>(by cases h),fun _=>?_⟩;refine⟨fun h=>(by simp at h),fun _=>?_⟩;refine⟨{k:Nat // k<=0},fun k=>{vs:=[(97,.v (.lit (.int .i64 0))),(98,.v (.lit (.int .i64 0)))],ow:=[]},fun _=>0,⟨0,Nat.le_refl _⟩,⟨⟨rfl,rfl,trivial⟩,trivial,rfl⟩,?_⟩;rintro⟨k,hk⟩;refine⟨fun h=>(by cases h),fun _=>?_⟩;exact rfl
   ·rename_i n m;refine zB ttok mixed Tryz.func86 rfl (by rfl) (Nat.le_of_ble_eq_true rfl) (by kernel_rfl) ?_;refine⟨fun _=>?_,fun h=>(by cases h)⟩;refine⟨fun h=>?_,fun h=>?_⟩
    ·have hnm:n=m:=Classical.byContradiction fun e=>by
      have h':(!decide (n=m))=false:=h;rw[decide_eq_false e] at h';cases h'
     subst hnm;have es:smb (.mt n) (.mt n) x y=true:=by simp[smb]
     rw[es];refine⟨fun h=>(by cases h),fun _=>?_⟩;refine⟨fun h=>(by cases h),fun _=>?_⟩;refine⟨fun h=>(by cases h),fun _=>?_⟩;refine⟨fun h=>(by simp at h),fun _=>?_⟩;refine⟨{k:Nat // k<=0},fun k=>{vs:=[(97,.v (.lit (.int .i64 0))),(98,.v (.lit (.int .i64 0)))],ow:=[]},fun _=>0,⟨0,Nat.le_refl _⟩,⟨⟨rfl,rfl,trivial⟩,trivial,rfl⟩,?_⟩;rintro⟨k,hk⟩;refine⟨fun h=>(by cases h),fun _=>?_⟩;exact rfl
    ·have es:smb (.mt n) (.mt m) x y=false:=by
      have h':(!decide (n=m))=true:=h;simpa[smb] using h'
     rw[es];exact rfl
   ·rename_i s r;refine zB ttok mixed Tryz.func86 rfl (by rfl) (Nat.le_of_ble_eq_true rfl) (by kernel_rfl) ?_;refine⟨fun _=>?_,fun h=>(by cases h)⟩;refine⟨fun _=>?_,fun h=>(by cases h)⟩;refine⟨fun h=>(by cases h),fun _=>?_⟩;refine⟨fun h=>(by cases h),fun _=>?_⟩;refine⟨fun _=>?_,fun h=>(by cases h)⟩;refine .inl ⟨_,zRQ (l:=x) (s:=s) (by omega),?_⟩;refine .inl ⟨_,zRQ (l:=y) (s:=r) (by omega),?_⟩;refine⟨fun h1=>?_,fun h1=>?_⟩
    ·refine⟨fun h2=>?_,fun h2=>?_⟩
     ·have es:smb (.var s) (.var r) x y=decide (s=r):=by
       simp only[smb];rw[h1,h2];rfl
      rw[es];exact rfl
     ·have es:smb (.var s) (.var r) x y=true:=by
       simp only[smb];rw[h1,h2];rfl
      rw[es];exact rfl
    ·have es:smb (.var s) (.var r) x y=false:=by
      simp only[smb];rw[h1];rfl
     rw[es];exact rfl
   ·rename_i s r;refine zB ttok mixed Tryz.func86 rfl (by rfl) (Nat.le_of_ble_eq_true rfl) (by kernel_rfl) ?_;refine⟨fun _=>?_,fun h=>(by cases h)⟩;refine⟨fun _=>?_,fun h=>(by cases h)⟩;refine⟨fun h=>(by cases h),fun _=>?_⟩;refine⟨fun h=>(by cases h),fun _=>?_⟩;refine⟨fun h=>(by cases h),fun _=>?_⟩;refine⟨fun h=>?_,fun h=>?_⟩
    ·have es:smb (.con s) (.con r) x y=false:=by
      have h':(!decide (s=r))=true:=h;simpa[smb] using h'
     rw[es];exact rfl
    ·have es:smb (.con s) (.con r) x y=true:=by
      have h':(!decide (s=r))=false:=h;simpa[smb] using h'
     rw[es];refine⟨{k:Nat // k<=0},fun k=>{vs:=[(97,.v (.lit (.int .i64 0))),(98,.v (.lit (.int .i64 0)))],ow:=[]},fun _=>0,⟨0,Nat.le_refl _⟩,⟨⟨rfl,rfl,trivial⟩,trivial,rfl⟩,?_⟩;rintro⟨k,hk⟩;refine⟨fun h=>(by cases h),fun _=>?_⟩;exact rfl
   ·rename_i a1 a2 b1 b2;simp only[Tp.sz] at hs;have i1:=ih a1 b1 x y (by omega) (by omega) (by omega);have i2:=ih a2 b2 x y (by omega) (by omega) (by omega);refine zB ttok mixed Tryz.func86 rfl (by rfl) (Nat.le_of_ble_eq_true rfl) (by kernel_rfl) ?_;refine⟨fun _=>?_,fun h=>(by cases h)⟩;refine⟨fun _=>?_,fun h=>(by cases h)⟩;refine⟨fun h=>(by cases h),fun _=>?_⟩;refine⟨fun h=>(by cases h),fun _=>?_⟩;refine⟨fun h=>(by cases h),fun _=>?_⟩;refine⟨fun h=>(by simp[Tp.nam] at h),fun _=>?_⟩;refine⟨{k:Nat // k=0∨(k=1/\smb a1 b1 x y=true)∨(k=2/\smb a1 b1 x y=true/\smb a2 b2 x y=true)},fun k=>{vs:=[(2,.v (.sl (eSs x))),(3,.v (.sl (eSs y))),(4,.box 0 (eTy (.app a1 a2))),(5,.box 0 (eTy (.app b1 b2))),(97,.v (.lit (.int .i64 2))),(98,.v (.lit (.int .i64 (k.1:Nat))))],ow:=[]},
     fun k=>2-k.1,⟨0,.inl rfl⟩,⟨⟨rfl,rfl,rfl,rfl,rfl,rfl,trivial⟩,trivial,rfl⟩,?_⟩
    rintro⟨k,rfl|⟨rfl,h1⟩|⟨rfl,h1,h2⟩⟩
    ·refine⟨fun _=>?_,fun h=>(by cases h)⟩;refine⟨eTy a1,Int.le_refl 0,rfl,rfl,?_⟩;refine⟨eTy b1,Int.le_refl 0,rfl,rfl,?_⟩;refine .inl ⟨_,i1,?_⟩;refine⟨fun h=>?_,fun h=>?_⟩
     ·have es:smb (.app a1 a2) (.app b1 b2) x y=false:=by
       have h':smb a1 b1 x y=false:=by simpa using h
       simp[smb,h']
      rw[es];exact rfl
     ·have h':smb a1 b1 x y=true:=by simpa using h
      exact⟨⟨1,.inr (.inl ⟨rfl,h'⟩)⟩,(show 2-1<2-0 by omega),⟨rfl,rfl,rfl,rfl,rfl,rfl,trivial⟩,trivial,rfl⟩
    ·refine⟨fun _=>?_,fun h=>(by cases h)⟩;refine⟨eTy a2,Int.natCast_nonneg 1,rfl,rfl,?_⟩;refine⟨eTy b2,Int.natCast_nonneg 1,rfl,rfl,?_⟩;refine .inl ⟨_,i2,?_⟩;refine⟨fun h=>?_,fun h=>?_⟩
     ·have es:smb (.app a1 a2) (.app b1 b2) x y=false:=by
       have h':smb a2 b2 x y=false:=by simpa using h
       simp[smb,h']
      rw[es];exact rfl
     ·have h':smb a2 b2 x y=true:=by simpa using h
      exact⟨⟨2,.inr (.inr ⟨rfl,h1,h'⟩)⟩,(show 2-2<2-1 by omega),⟨rfl,rfl,rfl,rfl,rfl,rfl,trivial⟩,trivial,rfl⟩
    ·refine⟨fun h=>(by cases h),fun _=>?_⟩;have es:smb (.app a1 a2) (.app b1 b2) x y=true:=by simp[smb,h1,h2]
     rw[es];exact rfl
   ·rename_i s a r b;simp only[Tp.sz] at hs;have i1:=ih a b (x++[s]) (y++[r]) (by omega) (by simp;omega) (by simp;omega);rw[<-zJ4,<-zJ4] at i1;have hfx:=zOC (eSs x);have hfy:=zOC (eSs y);rw[<-hfx,<-hfy] at i1;refine zB ttok mixed Tryz.func86 rfl (by rfl) (Nat.le_of_ble_eq_true rfl) (by kernel_rfl) ?_;refine⟨fun _=>?_,fun h=>(by cases h)⟩;refine⟨fun _=>?_,fun h=>(by cases h)⟩;refine⟨fun h=>(by cases h),fun _=>?_⟩;refine⟨fun _=>?_,fun h=>(by cases h)⟩;refine⟨_,by decide,rfl,rfl,?_⟩;refine⟨_,by decide,rfl,rfl,?_⟩;refine⟨by decide,by omega,Int.le_refl _,rfl,.inl rfl,?_⟩;refine⟨by rw[hfx,hxl];simp;omega,by rw[hfx];exact yI _,yI [_],?_⟩;refine⟨by decide,by omega,Int.le_refl _,rfl,.inl rfl,?_⟩;refine⟨by rw[hfy,hyl];simp;omega,by rw[hfy];exact yI _,yI [_],?_⟩;refine .inl ⟨_,i1,?_⟩;exact rfl
  ·have es:smb a b x y=false:=by cases a<;>cases b<;>first|rfl|exact absurd rfl hform
   rw[es];refine zB ttok mixed Tryz.func86 rfl (by rfl) (Nat.le_of_ble_eq_true rfl) (by kernel_rfl) ?_;refine⟨fun h=>?_,fun _=>?_⟩
   ·have h':(!decide (a.form=b.form))=false:=h;rw[decide_eq_false hform] at h';cases h'
   ·exact rfl
theorem zSK (a b:Tp) (h:a.sz<1000000000):zC Tryz.prog zP7 [eTy a,eTy b] (.sb (smb a b [] [])):=by
 refine zB ttok mixed Tryz.func38 rfl (by rfl) (Nat.le_of_ble_eq_true rfl) (by kernel_rfl) ?_;refine .inl ⟨_,z6Q a.sz a b [] [] (Nat.le_refl _) (by simp;omega) (by simp;omega),?_⟩;exact rfl
inductive Db where
 | no
 | mt (n:Int)
 | bv (i:Nat)
 | fr (s:ByteArray)
 | con (s:ByteArray)
 | app (a b:Db)
 | all (a:Db)
def ixN {α:Type} [DecidableEq α]:List α->α->Nat
 | [],_=>0
 | x::l,s=>if x=s then 0 else ixN l s+1
def db:Tp->List ByteArray->Db
 | .no,_ => .no
 | .mt n,_ => .mt n
 | .con s,_ => .con s
 | .var s,e=>if memb s e then .bv (ixN e s) else .fr s
 | .app a b,e => .app (db a e) (db b e)
 | .all s a,e => .all (db a (s::e))
def sb (σ:ByteArray->Db):Db->Db
 | .fr s=>σ s
 | .app a b => .app (sb σ a) (sb σ b)
 | .all a => .all (sb σ a)
 | d=>d
theorem zJS {α:Type} [DecidableEq α] {l:List α} {s:α} (h:s∈l):ixN l s<l.length:=by
 induction l with
 | nil=>cases h
 | cons x l ih =>
  simp only[ixN,List.length_cons];split
  ·omega
  ·rename_i hx;rcases List.mem_cons.1 h with e|e
   ·exact absurd e.symm hx
   ·have:=ih e;omega
theorem zUH {α:Type} [DecidableEq α] {l:List α} {s:α} (h:s∈l):ixI l s=(ixN l s:Nat):=by
 induction l with
 | nil=>cases h
 | cons x l ih =>
  simp only[ixN];split
  ·rename_i hx;subst hx;simp[ixI]
  ·rename_i hx;rcases List.mem_cons.1 h with e|e
   ·exact absurd e.symm hx
   ·rw[zSJ hx e,ih e];rfl
theorem z95 {x:List ByteArray} {s:ByteArray}:(s∈x->pl x s=(x.length:Int)-1-(ixN x.reverse s:Nat))/\(s∉x->pl x s = -1):=by
 constructor
 ·intro h;rw[pl,yA h,if_pos rfl,zUH (List.mem_reverse.2 h)]
 ·intro h;rw[pl,y8 h];rfl
theorem zLN {x:List ByteArray} {s:ByteArray}:memb s x.reverse=memb s x:=by
 by_cases h:s∈x
 ·rw[yA h,yA (List.mem_reverse.2 h)]
 ·rw[y8 h,y8 (fun e=>h (List.mem_reverse.1 e))]
theorem zbG:∀(a b:Tp) (x y:List ByteArray),x.length=y.length->(smb a b x y=true↔db a x.reverse=db b y.reverse):=by
 intro a;induction a with
 | no=>intro b x y h;cases b<;>simp[smb,db];split<;>simp
 | mt n=>intro b x y h;cases b<;>simp[smb,db];split<;>simp
 | con s=>intro b x y h;cases b<;>simp[smb,db];split<;>simp
 | var s =>
  intro b x y h;cases b with
  | var r =>
   obtain⟨p1,p2⟩:=z95 (x:=x) (s:=s);obtain⟨q1,q2⟩:=z95 (x:=y) (s:=r);simp only[smb,db,zLN];by_cases hs:s∈x
   ·have p1:=p1 hs;have l1:=zJS (List.mem_reverse.2 hs);rw[List.length_reverse] at l1;rw[yA hs,if_pos rfl];by_cases hr:r∈y
    ·have q1:=q1 hr;rw[yA hr,if_pos rfl];simp only[Bool.and_eq_true,Bool.or_eq_true,decide_eq_true_eq,Db.bv.injEq];omega
    ·have q2:=q2 hr;rw[y8 hr];simp only[Bool.and_eq_true,Bool.or_eq_true,decide_eq_true_eq,Bool.false_eq_true,if_false];constructor
     ·rintro⟨e,_⟩;omega
     ·intro e;cases e
   ·have p2:=p2 hs;rw[y8 hs];by_cases hr:r∈y
    ·have q1:=q1 hr;have l1:=zJS (List.mem_reverse.2 hr);rw[List.length_reverse] at l1;rw[yA hr];simp only[Bool.and_eq_true,Bool.or_eq_true,decide_eq_true_eq,Bool.false_eq_true,if_false,if_true];constructor
     ·rintro⟨e,_⟩;omega
     ·intro e;cases e
    ·have q2:=q2 hr;rw[y8 hr];simp only[Bool.and_eq_true,Bool.or_eq_true,decide_eq_true_eq,Bool.false_eq_true,if_false,Db.fr.injEq];constructor
     ·rintro⟨e,h1|h1⟩
      ·omega
      ·exact h1
     ·intro e;exact⟨by omega,.inr e⟩
  | _=>simp only[smb,db];split<;>simp
 | app a1 a2 ih1 ih2 =>
  intro b x y h;cases b with
  | app b1 b2=>simp only[smb,db,Bool.and_eq_true,ih1 b1 x y h,ih2 b2 x y h,Db.app.injEq]
  | var s=>simp only[smb,db];split<;>simp
  | _=>simp[smb,db]
 | all s a ih =>
  intro b x y h;cases b with
  | all r b =>
   have:=ih b (x++[s]) (y++[r]) (by simp[h]);simp only[List.reverse_append,List.reverse_cons,List.reverse_nil,List.nil_append,List.singleton_append] at this;simp only[smb,db,this,Db.all.injEq]
  | var s=>simp only[smb,db];split<;>simp
  | _=>simp[smb,db]
def wZ (y:ByteArray) (ps:Env'):Tp:=(look y ps).getD (.var y)
theorem zWE {α:Type} [DecidableEq α] {l e:List α} {s:α} (hl:s∈l):ixN (l++e) s=ixN l s:=by
 induction l with
 | nil=>cases hl
 | cons y l ih =>
  simp only[List.cons_append,ixN];split
  ·rfl
  ·rename_i hy;rcases List.mem_cons.1 hl with e1|e1
   ·exact absurd e1.symm hy
   ·rw[ih e1]
theorem zPN (t:Tp):∀(l e:List ByteArray),(∀x∈fv t,x∉l->x∉e)->db t (l++e)=db t l:=by
 induction t with
 | var s =>
  intro l e h;have h:=h s (by simp[fv]);simp only[db];by_cases hl:s∈l
  ·rw[yA hl,yA (List.mem_append_left _ hl),if_pos rfl,if_pos rfl];rw[zWE hl]
  ·rw[y8 hl,y8 (fun hm=>(List.mem_append.1 hm).elim hl (h hl))]
   rfl
 | app a b iha ihb =>
  intro l e h;simp only[db];rw[iha l e (fun x hx=>h x (mem_fv_app.2 (.inl hx))),ihb l e (fun x hx=>h x (mem_fv_app.2 (.inr hx)))]
 | all s a ih =>
  intro l e h;simp only[db];rw[<-List.cons_append,ih (s::l) e (fun x hx hn=>by
   simp only[List.mem_cons,not_or] at hn;exact h x (mem_fv_all.2 ⟨hx,hn.1⟩) hn.2)]
 | _=>intro l e h;rfl
theorem zE2 {α:Type} [DecidableEq α] {l:List α} {w s:α} (h:w≠s):ixN (w::l) s=ixN l s+1:=by simp[ixN,h]
theorem za3 (t:Tp):∀(ps:Env') (e e':List ByteArray) (σ:ByteArray->Db),
  (∀y∈fv t,(y∈e/\∃y',wZ y ps = .var y'/\y'∈e'/\ixN e' y'=ixN e y)∨(y∉e/\(∀x∈fv (wZ y ps),x∉e')/\σ y=db (wZ y ps) [])) ->
  db (sub t ps) e'=sb σ (db t e):=by
 induction t with
 | var s =>
  intro ps e e' σ h;have h:=h s (by simp[fv]);show db (wZ s ps) e'=_;rcases h with⟨h1,y',h2,h3,h4⟩|⟨h1,h2,h3⟩
  ·rw[h2];simp only[db];rw[yA h3,yA h1,if_pos rfl,if_pos rfl,h4];rfl
  ·have:=zPN (wZ s ps) [] e' (fun x hx _=>h2 x hx);rw[List.nil_append] at this;simp only[db];rw[y8 h1,this,<-h3]
   rfl
 | app a b iha ihb =>
  intro ps e e' σ h;simp only[sub,db,sb];rw[iha ps e e' σ (fun y hy=>h y (mem_fv_app.2 (.inl hy))),ihb ps e e' σ (fun y hy=>h y (mem_fv_app.2 (.inr hy)))]
 | all s a ih =>
  intro ps e e' σ h;obtain⟨q,hq⟩:∃q,q=kept s (fv a) ps:=⟨_,rfl⟩
  have hl:∀y,y∈fv a->y≠s->look y q=look y ps:=fun y h1 h2=>by rw[hq];exact zZK h2 h1
  have hs:look s q=none:=by rw[hq];exact zRK
  have hcau:∀y u x,look y q=some u->x∈fv u->x∈caught q:=fun y u x h1 h2=>List.mem_flatMap.2 ⟨_,zIE h1,h2⟩;have key:∀(w:ByteArray) (ps':Env'),wZ s ps' = .var w->(∀y,y∈fv a->y≠s->wZ y ps'=wZ y ps)->(∀y,y∈fv a->y≠s->w∉fv (wZ y ps)) ->
    db (sub a ps') (w::e')=sb σ (db a (s::e)):=fun w ps' k1 k2 k3=>by
   refine ih ps' (s::e) (w::e') σ fun y hy=>?_;by_cases hys:y=s
   ·subst hys;exact .inl ⟨by simp,w,k1,by simp,by simp[ixN]⟩
   ·have hw:=k3 y hy hys;rcases h y (mem_fv_all.2 ⟨hy,hys⟩) with⟨h1,y',h2,h3,h4⟩|⟨h1,h2,h3⟩
    ·rw[h2] at hw;have hne:w≠y':=fun e=>hw (by simp[fv,e]);refine .inl ⟨by simp[h1],y',by rw[k2 y hy hys,h2],by simp[h3],?_⟩;rw[zE2 hne,zE2 (Ne.symm hys),h4]
    ·refine .inr ⟨by simp[hys,h1],fun x hx=>?_,by rw[k2 y hy hys,h3]⟩;rw[k2 y hy hys] at hx;simp only[List.mem_cons,not_or];exact⟨fun e=>hw (e ▸ hx),h2 x hx⟩
  simp only[sub,<-hq];split
  ·obtain⟨z,hz⟩:∃z,z=lett (ff (caught q++fv a)):=⟨_,rfl⟩
   have hnew:z∉caught q++fv a:=hz ▸ zA6 _;simp only[List.mem_append,not_or] at hnew;rw[<-hz];simp only[db,sb];refine congrArg Db.all (key z (q++[(s,.var z)]) (by simp[wZ,zJ2,hs,look]) (fun y h1 h2=>?_) (fun y h1 h2 h3=>?_))
   ·unfold wZ;rw[zJ2,<-hl y h1 h2];cases look y q with
    | none=>simp[look,Ne.symm h2]
    | some u=>rfl
   ·unfold wZ at h3;rw[<-hl y h1 h2] at h3;cases hc:look y q with
    | none=>rw[hc] at h3;simp[fv] at h3;subst h3;exact hnew.2 h1
    | some u=>rw[hc] at h3;exact hnew.1 (hcau y u _ hc h3)
  ·rename_i hcap;have hns:s∉caught q:=fun h=>hcap (yA h);simp only[db,sb];refine congrArg Db.all (key s q (by simp[wZ,hs]) (fun y h1 h2=>by unfold wZ;rw[hl y h1 h2]) (fun y h1 h2 h3=>?_));unfold wZ at h3;rw[<-hl y h1 h2] at h3;cases hc:look y q with
   | none=>rw[hc] at h3;simp[fv] at h3;exact h2 h3.symm
   | some u=>rw[hc] at h3;exact hns (hcau y u _ hc h3)
 | _=>intro ps e e' σ h;rfl
theorem zJ5 (d:Db):sb .fr d=d:=by
 induction d with
 | app a b iha ihb=>simp only[sb,iha,ihb]
 | all a ih=>simp only[sb,ih]
 | _=>rfl
def Nm:Tp->Prop
 | .app a b=>Nm a/\Nm b
 | .all _ a=>Nm a
 | .con s=>s∈xX
 | .mt n => ∃k:Nat,n=(k:Int)/\k<10
 | .var _=>True
 | .no=>False
theorem zDV {t:Tp} (h:good t):Nm t:=by
 induction t with
 | no=>exact h
 | mt n=>exact h
 | con s=>exact h
 | var s=>trivial
 | app a b iha ihb=>exact⟨iha h.1,ihb h.2⟩
 | all s a ih=>exact ih h.2
theorem zaU (t:Tp):∀ps:Env',Nm t->(∀p∈ps,Nm p.2)->Nm (sub t ps):=by
 induction t with
 | var s =>
  intro ps _ h;simp only[sub];cases hl:look s ps with
  | none=>trivial
  | some u=>exact h _ (zIE hl)
 | app a b iha ihb=>exact fun ps h1 h=>⟨iha ps h1.1 h,ihb ps h1.2 h⟩
 | all s a ih =>
  intro ps h1 h;simp only[sub];split
  ·exact ih _ h1 (fun p hp=>by
    rcases List.mem_append.1 hp with hp|hp
    ·exact h p (qF hp)
    ·simp at hp;subst hp;trivial)
  ·exact ih _ h1 (fun p hp=>h p (qF hp))
 | _=>exact fun _ h _=>h
theorem z2S {K:Nat} {s:ByteArray} (h:Low K s) (hK:K<=2600):s.size<=3:=by
 obtain⟨n,hn,rfl⟩:=h;unfold lett;split
 ·rw[sz1];omega
 ·rw[ByteArray.size_append,sz1];have:=wE 2 (n / 26) (by omega) (by decide);omega
def nl:Tp->List ByteArray->ByteArray
 | .mt n,_=>⟨#[63]⟩++dcm n.toNat
 | .var s,x=>if memb s x then ⟨#[35]⟩++dcm (ixN x.reverse s) else ⟨#[39]⟩++s
 | .con s,_=>s
 | .all s a,x=>(⟨#[91]⟩++nl a (x++[s]))++⟨#[93]⟩
 | .app a b,x=>((((⟨#[40]⟩++nl a x)++⟨#[32]⟩)++nl b x)++⟨#[41]⟩)
 | .no,_ => .empty
theorem z7M {K:Nat} (hK:K<=2600) (t:Tp):∀x:List ByteArray,LowT K t->Nm t->x.length+t.sz<=1000000->(nl t x).size+3<=20*t.sz:=by
 induction t with
 | no=>intro x _ h;exact h.elim
 | mt n =>
  intro x _ h _;obtain⟨k,rfl,hk⟩:=h;have:=wE 1 k (by omega) (by decide);simp only[nl,ByteArray.size_append,sz1,Int.toNat_natCast,Tp.sz];omega
 | con s=>intro x _ h _;have:=zTJ s h;simp only[nl,Tp.sz];omega
 | var s =>
  intro x h _ hl;simp only[nl,Tp.sz] at hl⊢;split
  ·rename_i hm;have:=zJS (List.mem_reverse.2 (memb_iff.1 hm));rw[List.length_reverse] at this;have:=wE 6 (ixN x.reverse s) (by omega) (by decide);rw[ByteArray.size_append,sz1];omega
  ·have:=z2S h hK;rw[ByteArray.size_append,sz1];omega
 | app a b iha ihb =>
  intro x h1 h2 hl;simp only[Tp.sz] at hl;have:=iha x h1.1 h2.1 (by omega);have:=ihb x h1.2 h2.2 (by omega);simp only[nl,ByteArray.size_append,sz1,Tp.sz];omega
 | all s a ih =>
  intro x h1 h2 hl;simp only[Tp.sz] at hl;have:=ih (x++[s]) h1.2 h2 (by simp;omega);simp only[nl,ByteArray.size_append,sz1,Tp.sz];omega
theorem zHD {n:Int} (h0 : -1<=n) (h1:n<9223372036854775807):IntKind.i64.wrap n=n:=wrap_in (by unfold InR;omega)
def tk (c:UInt8):Bool:=(48<=c && c<=57) || (65<=c && c<=90) || (97<=c && c<=122)
abbrev by' (s:ByteArray):List UInt8:=s.data.toList
theorem xJ (a b:ByteArray):by' (a++b)=by' a++by' b:=zQX a b
theorem jO {a b:ByteArray} (h:by' a=by' b):a=b:=by
 cases a;cases b;simpa[by',Array.toList_inj] using h
theorem z1H:∀d:Fin 10,tk (UInt8.ofNat (48+d.val))=true:=by decide
theorem z5E:∀d:Fin 26,tk (UInt8.ofNat (97+d.val))=true:=by decide
theorem zA8 (n:Nat):∀c∈by' (dcm n),tk c=true:=by
 induction n using Nat.strongRecOn with
 | _ n ih =>
  intro c hc;by_cases h:n<10
  ·rw[wQ h] at hc;rw[List.mem_singleton.1 (show c∈[UInt8.ofNat (48+n)] from hc)];exact z1H ⟨n,h⟩
  ·rw[zDX h,xJ] at hc;rcases List.mem_append.1 hc with hc|hc
   ·exact ih (n / 10) (by omega) c hc
   ·rw[List.mem_singleton.1 (show c∈[UInt8.ofNat (48+n % 10)] from hc)];exact z1H ⟨n % 10,by omega⟩
theorem z7Z (n:Nat):∀c∈by' (lett n),tk c=true:=by
 intro c hc;unfold lett at hc;split at hc
 ·rw[List.mem_singleton.1 (show c∈[UInt8.ofNat (97+n % 26)] from hc)];exact z5E ⟨n % 26,by omega⟩
 ·rw[xJ] at hc;rcases List.mem_append.1 hc with hc|hc
  ·rw[List.mem_singleton.1 (show c∈[UInt8.ofNat (97+n % 26)] from hc)];exact z5E ⟨n % 26,by omega⟩
  ·exact zA8 _ c hc
theorem zFE {a b:Nat} (h:by' (dcm a)=by' (dcm b)):a=b:=by rw[<-zMC a,<-zMC b];exact congrArg digs h
def Ends (r:List UInt8):Prop := ∀c,r[0]? = some c->tk c=false
theorem wR {c:UInt8} {r:List UInt8} (h:tk c=false):Ends (c::r):=fun d hd=>by simp at hd;subst hd;exact h
theorem word:∀{l m r q:List UInt8},(∀c∈l,tk c=true)->(∀c∈m,tk c=true)->Ends r->Ends q->l++r=m++q->l=m/\r=q
 | [],[],r,q,_,_,_,_,h=>⟨rfl,h⟩
 | [],c::m,r,q,_,hm,hr,_,h=>by
  have h:r=c::(m++q):=h;subst h;have:=hr c (by simp);rw[hm c (by simp)] at this;cases this
 | c::l,[],r,q,hl,_,_,hq,h=>by
  have h:c::(l++r)=q:=h;subst h;have:=hq c (by simp);rw[hl c (by simp)] at this;cases this
 | c::l,d::m,r,q,hl,hm,hr,hq,h=>by
  simp only[List.cons_append,List.cons.injEq] at h;obtain⟨rfl,h⟩:=h;obtain⟨rfl,h2⟩:=word (fun x hx=>hl x (by simp[hx])) (fun x hx=>hm x (by simp[hx])) hr hq h;exact⟨rfl,h2⟩
def ser:Db->List UInt8
 | .mt n=>63::by' (dcm n.toNat)
 | .bv i=>35::by' (dcm i)
 | .fr s=>39::by' s
 | .con s=>by' s
 | .all a=>91::(ser a++[93])
 | .app a b=>40::(ser a++32::(ser b++[41]))
 | .no=>[]
def Vd:Db->Prop
 | .mt n => ∃k:Nat,n=(k:Int)/\k<10
 | .bv _=>True
 | .fr s => ∀c∈by' s,tk c=true
 | .con s=>s∈xX
 | .all a=>Vd a
 | .app a b=>Vd a/\Vd b
 | .no=>False
theorem z5S (t:Tp):∀x,by' (nl t x)=ser (db t x.reverse):=by
 induction t with
 | no=>intro x;rfl
 | mt n=>intro x;rw[nl,xJ];rfl
 | con s=>intro x;rfl
 | var s =>
  intro x;simp only[nl,db,zLN];split
  ·rw[xJ];rfl
  ·rw[xJ];rfl
 | app a b iha ihb =>
  intro x;simp only[nl,xJ,iha,ihb,db,ser];simp[by']
 | all s a ih =>
  intro x;simp only[nl,xJ,ih,db,ser,List.reverse_append,List.reverse_cons,List.reverse_nil,List.nil_append,List.singleton_append];simp[by']
theorem yY {s:ByteArray} (h:s∈xX):by' s=[73,110,116]∨by' s=[66,111,111,108]∨by' s=[76]∨by' s=[80]∨by' s=[70]∨by' s=[45,62]:=by
 unfold xX at h;simp at h;rcases h with rfl|rfl|rfl|rfl|rfl|rfl<;>simp[by']
theorem z0S {s u:ByteArray} (hs:s∈xX) (hu:u∈xX) {r q:List UInt8} (hr:Ends r) (hq:Ends q) (h:by' s++r=by' u++q):s=u/\r=q:=by
 have dash:∀{s:ByteArray} {l r q:List UInt8},by' s++r=l++q->by' s=[45,62]->l≠[]->l[0]?≠some 45->False:=fun {s l r q} h h1 h2 h3=>by
  rw[h1] at h;cases l with
  | nil=>exact h2 rfl
  | cons c l=>simp at h;exact h3 (by simp[h.1])
 by_cases h1:by' s=[45,62]
 ·by_cases h2:by' u=[45,62]
  ·rw[h1,h2] at h;exact⟨jO (h1.trans h2.symm),by simpa using h⟩
  ·refine (dash h h1 ?_ ?_).elim
   ·rcases yY hu with e|e|e|e|e|e<;>rw[e]<;>simp
   ·rcases yY hu with e|e|e|e|e|e<;>first|exact absurd e h2|(rw[e];simp)
 ·by_cases h2:by' u=[45,62]
  ·refine (dash h.symm h2 ?_ ?_).elim
   ·rcases yY hs with e|e|e|e|e|e<;>rw[e]<;>simp
   ·rcases yY hs with e|e|e|e|e|e<;>first|exact absurd e h1|(rw[e];simp)
  ·have w:∀{s:ByteArray},s∈xX->by' s≠[45,62]->∀c∈by' s,tk c=true:=fun {s} hs h1=>by
    rcases yY hs with e|e|e|e|e|e<;>first|exact absurd e h1|(rw[e];decide)
   obtain⟨p1,p2⟩:=word (w hs h1) (w hu h2) hr hq h;exact⟨jO p1,p2⟩
theorem zXY (d:Db):∀(e:Db) (r q:List UInt8),Vd d->Vd e->Ends r->Ends q->ser d++r=ser e++q->d=e/\r=q:=by
 induction d with
 | no=>intro e r q h;exact h.elim
 | mt n =>
  intro e r q hd he hr hq h;obtain⟨k,rfl,_⟩:=hd;cases e with
  | mt m =>
   obtain⟨j,rfl,_⟩:=he;simp only[ser,List.cons_append,List.cons.injEq,true_and,Int.toNat_natCast] at h;obtain⟨h1,h2⟩:=word (zA8 _) (zA8 _) hr hq h;exact⟨by rw[zFE h1],h2⟩
  | con s=>rcases yY he with e|e|e|e|e|e<;>simp[ser,e] at h
  | no=>exact he.elim
  | _=>simp[ser] at h
 | bv n =>
  intro e r q hd he hr hq h;cases e with
  | bv m =>
   simp only[ser,List.cons_append,List.cons.injEq,true_and] at h;obtain⟨h1,h2⟩:=word (zA8 _) (zA8 _) hr hq h;exact⟨by rw[zFE h1],h2⟩
  | con s=>rcases yY he with e|e|e|e|e|e<;>simp[ser,e] at h
  | no=>exact he.elim
  | _=>simp[ser] at h
 | fr s =>
  intro e r q hd he hr hq h;cases e with
  | fr u =>
   simp only[ser,List.cons_append,List.cons.injEq,true_and] at h;obtain⟨h1,h2⟩:=word hd he hr hq h;exact⟨by rw[jO h1],h2⟩
  | con s=>rcases yY he with e|e|e|e|e|e<;>simp[ser,e] at h
  | no=>exact he.elim
  | _=>simp[ser] at h
 | con s =>
  intro e r q hd he hr hq h;cases e with
  | con u =>
   obtain⟨rfl,h2⟩:=z0S hd he hr hq h;exact⟨rfl,h2⟩
  | no=>exact he.elim
  | _=>rcases yY hd with e|e|e|e|e|e<;>simp[ser,e] at h
 | all a ih =>
  intro e r q hd he hr hq h;cases e with
  | all b =>
   simp only[ser,List.cons_append,List.cons.injEq,true_and,List.append_assoc] at h;obtain⟨rfl,h2⟩:=ih b _ _ hd he (wR (by decide)) (wR (by decide)) h;exact⟨rfl,by simpa using h2⟩
  | con s=>rcases yY he with e|e|e|e|e|e<;>simp[ser,e] at h
  | no=>exact he.elim
  | _=>simp[ser] at h
 | app a b iha ihb =>
  intro e r q hd he hr hq h;cases e with
  | app c d =>
   simp only[ser,List.cons_append,List.cons.injEq,true_and,List.append_assoc] at h;obtain⟨rfl,h2⟩:=iha c _ _ hd.1 he.1 (wR (by decide)) (wR (by decide)) h;simp only[List.cons.injEq,true_and] at h2;obtain⟨rfl,h3⟩:=ihb d _ _ hd.2 he.2 (wR (by decide)) (wR (by decide)) h2;exact⟨rfl,by simpa using h3⟩
  | con s=>rcases yY he with e|e|e|e|e|e<;>simp[ser,e] at h
  | no=>exact he.elim
  | _=>simp[ser] at h
theorem z0K {K:Nat} (t:Tp):∀e,LowT K t->Nm t->Vd (db t e):=by
 induction t with
 | no=>exact fun _ _ h=>h
 | mt n=>exact fun _ _ h=>h
 | con s=>exact fun _ _ h=>h
 | var s =>
  intro e h _;simp only[db];split
  ·trivial
  ·obtain⟨n,_,rfl⟩:=h;exact z7Z n
 | app a b iha ihb=>exact fun e h1 h2=>⟨iha e h1.1 h2.1,ihb e h1.2 h2.2⟩
 | all s a ih=>exact fun e h1 h2=>ih _ h1.2 h2
end Go.Proofs.YtgonkhaebmfgiaaGreatDoor
