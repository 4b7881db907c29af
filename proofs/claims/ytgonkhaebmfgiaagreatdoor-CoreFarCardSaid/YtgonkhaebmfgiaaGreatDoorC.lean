/- A part of the proof of a given statement: contracts of functions of the program, under no condition but those that each states. -/
import Derived.Test.YtgonkhaebmfgiaaGreatDoorB
import Derived.Test.YtgonkhaebmfgiaaGreatDoorFpE
set_option linter.unusedSimpArgs false
set_option linter.unusedVariables false
namespace Go.Proofs.YtgonkhaebmfgiaaGreatDoor
open Go Fp
set_option maxRecDepth 100000
set_option maxHeartbeats 8000000
theorem zF9:∀s∈xW,Low 24 s:=by
 have h:∀n:Nat,n<24->(lett n=⟨#[UInt8.ofNat (97+n)]⟩):=fun n hn=>by rw[lett,if_pos (by omega),Nat.mod_eq_of_lt (by omega)]
 intro s hs;unfold xW at hs;simp at hs;rcases hs with rfl|rfl|rfl|rfl
 ·exact⟨0,by decide,h 0 (by decide)⟩
 ·exact⟨1,by decide,h 1 (by decide)⟩
 ·exact⟨2,by decide,h 2 (by decide)⟩
 ·exact⟨23,by decide,h 23 (by decide)⟩
theorem zRV {t:Tp} (h:good t):LowT 24 t:=by
 induction t with
 | no=>trivial
 | mt n=>trivial
 | con s=>trivial
 | var s=>exact zF9 s h
 | app a b iha ihb=>exact⟨iha h.1,ihb h.2⟩
 | all s a ih=>exact⟨zF9 s h.1,ih h.2⟩
theorem mem_fv_app {a b:Tp} {x:ByteArray}:x∈fv (.app a b)↔x∈fv a∨x∈fv b:=by
 simp only[fv,mem_insAll,no];simp
theorem mem_fv_all {s:ByteArray} {a:Tp} {x:ByteArray}:x∈fv (.all s a)↔x∈fv a/\x≠s:=by
 simp only[fv,mem_insAll];simp
def Fo (ps:Env') (y x:ByteArray):Prop:=match look y ps with
 | none=>x=y
 | some u=>x∈fv u
theorem zX2 {y:ByteArray} {ps:Env'} (h:y∉ps.map (·.1)):look y ps=none:=by
 induction ps with
 | nil=>rfl
 | cons p r ih =>
  obtain⟨s,t⟩:=p;simp only[List.map_cons,List.mem_cons,not_or] at h;simp only[look];rw[if_neg (fun e=>h.1 e.symm)];exact ih h.2
theorem zBO {y:ByteArray} {ps qs:Env'}:look y (ps++qs)=match look y ps with|none=>look y qs|some u=>some u:=by
 induction ps with
 | nil=>rfl
 | cons p r ih =>
  obtain⟨s,t⟩:=p;simp only[List.cons_append,look];split
  ·rfl
  ·exact ih
theorem zND {s y:ByteArray} {own:List ByteArray} {ps:Env'} (h1:y≠s) (h2:y∈own):look y (kept s own ps)=look y ps:=by
 induction ps with
 | nil=>rfl
 | cons p r ih =>
  obtain⟨n,t⟩:=p;unfold kept at ih⊢;by_cases hn:n=y
  ·subst hn;rw[List.filter_cons,if_pos (by rw[yE h2,decide_eq_true (p:=n≠s) h1];rfl)];simp[look]
  ·rw[List.filter_cons];split
   ·simp only[look,if_neg hn];exact ih
   ·simp only[look,if_neg hn];exact ih
theorem zI1 {s:ByteArray} {own:List ByteArray} {ps:Env'}:look s (kept s own ps)=none:=by
 apply zX2;intro hm;obtain⟨p,hp,e⟩:=List.mem_map.1 hm;have:=(List.mem_filter.1 hp).2;rw[decide_eq_false (p:=p.1≠s) (fun h=>h e)] at this;cases this
theorem zSY (t:Tp):∀(ps:Env') (x:ByteArray),x∈fv (sub t ps)↔∃y,y∈fv t/\Fo ps y x:=by
 induction t with
 | var v =>
  intro ps x;simp only[sub,fv,List.mem_singleton,exists_eq_left,Fo];cases look v ps<;>simp[fv]
 | app a b iha ihb =>
  intro ps x;simp only[sub,mem_fv_app,iha,ihb];constructor
  ·rintro (⟨y,h1,h2⟩|⟨y,h1,h2⟩)
   ·exact⟨y,.inl h1,h2⟩
   ·exact⟨y,.inr h1,h2⟩
  ·rintro⟨y,h1|h1,h2⟩
   ·exact .inl ⟨y,h1,h2⟩
   ·exact .inr ⟨y,h1,h2⟩
 | all s a ih =>
  intro ps x;obtain⟨q,hq⟩:∃q,q=kept s (fv a) ps:=⟨_,rfl⟩
  have hl:∀y,y∈fv a->y≠s->look y q=look y ps:=fun y h1 h2=>by rw[hq];exact zND h2 h1
  have hs:look s q=none:=by rw[hq];exact zI1
  have hcau:∀y u x,look y q=some u->x∈fv u->x∈caught q:=fun y u x h1 h2=>List.mem_flatMap.2 ⟨_,zB9 h1,h2⟩;simp only[sub,<-hq];split
  ·obtain⟨z,hz⟩:∃z,z=lett (ff (caught q++fv a)):=⟨_,rfl⟩
   have hnew:z∉caught q++fv a:=hz ▸ zDA _;rw[<-hz,mem_fv_all,ih];simp only[List.mem_append,not_or] at hnew;constructor
   ·rintro⟨⟨y,h1,h2⟩,h3⟩;unfold Fo at h2;rw[zBO] at h2;by_cases hy:y=s
    ·subst hy;rw[hs] at h2;simp[look,fv] at h2;exact absurd h2 h3
    ·refine⟨y,mem_fv_all.2 ⟨h1,hy⟩,?_⟩;unfold Fo;rw[<-hl y h1 hy];cases hc:look y q with
     | none=>rw[hc] at h2;simpa[look,Ne.symm hy] using h2
     | some u=>rw[hc] at h2;exact h2
   ·rintro⟨y,h1,h2⟩;obtain⟨h1,hy⟩:=mem_fv_all.1 h1;unfold Fo at h2;rw[<-hl y h1 hy] at h2;refine⟨⟨y,h1,?_⟩,?_⟩
    ·unfold Fo;rw[zBO];cases hc:look y q with
     | none=>rw[hc] at h2;simpa[look,Ne.symm hy] using h2
     | some u=>rw[hc] at h2;exact h2
    ·rintro rfl;cases hc:look y q with
     | none=>rw[hc] at h2;simp at h2;subst h2;exact hnew.2 h1
     | some u=>rw[hc] at h2;exact hnew.1 (hcau y u _ hc h2)
  ·rename_i hcap;have hns:s∉caught q:=fun h=>hcap (yE h);rw[mem_fv_all,ih];constructor
   ·rintro⟨⟨y,h1,h2⟩,h3⟩;by_cases hy:y=s
    ·subst hy;unfold Fo at h2;rw[hs] at h2;exact absurd h2 h3
    ·refine⟨y,mem_fv_all.2 ⟨h1,hy⟩,?_⟩;unfold Fo at h2⊢;rw[<-hl y h1 hy];exact h2
   ·rintro⟨y,h1,h2⟩;obtain⟨h1,hy⟩:=mem_fv_all.1 h1;unfold Fo at h2;rw[<-hl y h1 hy] at h2;refine⟨⟨y,h1,h2⟩,?_⟩;rintro rfl;cases hc:look y q with
    | none=>rw[hc] at h2;exact hy h2.symm
    | some u=>rw[hc] at h2;exact hns (hcau y u _ hc h2)
 | _=>intro ps x;simp[sub,fv]
theorem zK2 {M:Nat} (hM:1<=M) (t:Tp):∀ps:Env',(∀p∈ps,p.2.sz<=M)->(sub t ps).sz<=t.sz*M:=by
 induction t with
 | var v =>
  intro ps hp;simp only[sub,Tp.sz,Nat.one_mul];cases hl:look v ps with
  | none=>exact hM
  | some u=>exact hp _ (zB9 hl)
 | app a b iha ihb =>
  intro ps hp;have h1:=iha ps hp;have h2:=ihb ps hp;simp only[sub,Tp.sz,Nat.add_mul,Nat.one_mul];omega
 | all s a ih =>
  intro ps hp;simp only[sub];split
  ·have h1:=ih (kept s (fv a) ps++[(s,.var (lett (ff (caught (kept s (fv a) ps)++fv a))))]) (fun p h=>by
    rcases List.mem_append.1 h with h|h
    ·exact hp p (wZ h)
    ·simp at h;subst h;exact hM)
   simp only[Tp.sz,Nat.add_mul,Nat.one_mul];omega
  ·have h1:=ih (kept s (fv a) ps) (fun p h=>hp p (wZ h));simp only[Tp.sz,Nat.add_mul,Nat.one_mul];omega
 | _=>intro ps hp;simp only[sub,Tp.sz,Nat.one_mul];exact hM
def rest (own:List ByteArray) (ps:Env'):List ByteArray:=own.filter fun x => !memb x (ps.map (·.1))
def pl (l:List ByteArray) (s:ByteArray):Int:=if memb s l then (l.length:Int)-1-ixI l.reverse s else -1
theorem zW2 {n k:Nat} (h:k<n) (hn:n<9223372036854775808):IntKind.i64.wrap (IntKind.i64.wrap ((n:Int)-1)-(k:Int))=((n-1-k:Nat):Int):=by
 have e1:(n:Int)-1=((n-1:Nat):Int):=by omega
 rw[e1,yY (by omega),show ((n-1:Nat):Int)-(k:Int)=((n-1-k:Nat):Int) by omega,yY (by omega)]
theorem zPY {l:List ByteArray} {s:ByteArray} (hl:l.length<9223372036854775807):zF Tryz.prog zMH [.sl (eSs l),.lit (.string s)] (.lit (.int .i64 (pl l s))):=by
 refine zG ttok mixed Tryz.func129 rfl (by rfl) (Nat.le_of_ble_eq_true rfl) (by kernel_rfl) ?_;have hlen:(eSs l).length=l.length:=by simp[eSs]
 have hrl:l.reverse.length=l.length:=by simp
 refine⟨{k:Nat // k<=l.length/\∀j,j<k->l.reverse[j]?≠some s},fun k=>{vs:=[(0,.v (.sl (eSs l))),(1,.v (.lit (.string s))),(8,.v (.lit (.int .i64 ((eSs l).length:Nat)))),(9,.v (.lit (.int .i64 (k.1:Nat))))],ow:=[]},
  fun k=>l.length-k.1,⟨0,Nat.zero_le _,fun j hj=>absurd hj (by omega)⟩,⟨⟨rfl,rfl,rfl,rfl,trivial⟩,trivial,rfl⟩,?_⟩
 rintro⟨k,hk,hn⟩;refine⟨fun h=>?_,fun h=>?_⟩
 ·have h:k<l.length:=by simp[hlen] at h;omega
  have ew:IntKind.i64.wrap (IntKind.i64.wrap (((eSs l).length:Nat)-1)-(k:Int))=((l.length-1-k:Nat):Int):=by rw[hlen];exact zW2 h (by omega)
  have hi:l.length-1-k<l.length:=by omega
  have hrev:l.reverse[k]'(by omega)=l[l.length-1-k]:=by simp[List.getElem_reverse]
  refine⟨.lit (.string l[l.length-1-k]),by rw[ew];omega,by rw[ew];exact zRD hi,rfl,?_⟩;refine⟨fun h2=>?_,fun h2=>?_⟩
  ·have h2:l[l.length-1-k]=s:=of_decide_eq_true h2;have hp:pl l s=((l.length-1-k:Nat):Int):=by
    rw[pl,yE (h2 ▸ List.getElem_mem hi),if_pos rfl,zTJ (l:=l.reverse) (k:=k) (by omega) (by rw[hrev,h2]) hn];omega
   rw[hp,<-ew];exact rfl
  ·have h2:l[l.length-1-k]≠s:=of_decide_eq_false h2;refine⟨⟨k+1,h,zJN (l:=l.reverse) (by omega) (by rw[hrev];exact h2) hn⟩,(show l.length-(k+1)<l.length-k by omega),⟨rfl,rfl,rfl,?_,trivial⟩,trivial,rfl⟩;exact congrArg (fun n=>SV.v (AV.lit (Value.int .i64 n))) (wrap_succ (k:=k) (by omega))
 ·have h:k=l.length:=by simp[hlen] at h;omega
  subst h;have hp:pl l s = -1:=by
   rw[pl,xH (fun hm=>zDL (l:=l.reverse) (by rw[hrl];exact hn) (List.mem_reverse.2 hm))];rfl
  rw[hp];exact rfl
def smb:Tp->Tp->List ByteArray->List ByteArray->Bool
 | .all s a,.all r b,x,y=>smb a b (x++[s]) (y++[r])
 | .var s,.var r,x,y=>decide (pl x s=pl y r) && (decide (0<=pl x s) || decide (s=r))
 | .app a b,.app c d,x,y=>smb a c x y && smb b d x y
 | .con s,.con r,_,_=>decide (s=r)
 | .mt n,.mt m,_,_=>decide (n=m)
 | .no,.no,_,_=>true
 | _,_,_,_=>false
theorem zM1 (l:List AV):List.drop (Int.toNat 0) (List.take (Int.toNat ((l.length:Nat):Int)) l)=l:=by simp
theorem z3K (N:Nat):∀(a b:Tp) (x y:List ByteArray),a.sz<=N->x.length+N<=4000000000->y.length+N<=4000000000->zF Tryz.prog zOG [eTy a,eTy b,.sl (eSs x),.sl (eSs y)] (.sb (smb a b x y)):=by
 induction N with
 | zero=>intro a b x y h;have:=zA2 a;omega
 | succ N ih =>
  intro a b x y hs hx hy;have hxl:(eSs x).length=x.length:=by simp[eSs]
  have hyl:(eSs y).length=y.length:=by simp[eSs]
  by_cases hform:a.form=b.form
  ·cases a<;>cases b<;>try (simp[Tp.form] at hform;done)
   ·refine zG ttok mixed Tryz.func86 rfl (by rfl) (Nat.le_of_ble_eq_true rfl) (by kernel_rfl) ?_;refine⟨fun _=>?_,fun h=>(by cases h)⟩;refine⟨fun _=>?_,fun h=>(by cases h)⟩;refine⟨fun h=>(by cases h),fun _=>?_⟩;refine⟨fun h=>(by cases h),fun _=>?_⟩;refine⟨fun h=>(by cases h),fun _=>?_⟩;refine⟨fun h=>(by simp at h),fun _=>?_⟩;refine⟨{k:Nat // k<=0},fun k=>{vs:=[(97,.v (.lit (.int .i64 0))),(98,.v (.lit (.int .i64 0)))],ow:=[]},fun _=>0,⟨0,Nat.le_refl _⟩,⟨⟨rfl,rfl,trivial⟩,trivial,rfl⟩,?_⟩;rintro⟨k,hk⟩;refine⟨fun h=>(by cases h),fun _=>?_⟩;exact rfl
   ·rename_i n m;refine zG ttok mixed Tryz.func86 rfl (by rfl) (Nat.le_of_ble_eq_true rfl) (by kernel_rfl) ?_;refine⟨fun _=>?_,fun h=>(by cases h)⟩;refine⟨fun h=>?_,fun h=>?_⟩
    ·have hnm:n=m:=Classical.byContradiction fun e=>by
      have h':(!decide (n=m))=false:=h;rw[decide_eq_false e] at h';cases h'
     subst hnm;have es:smb (.mt n) (.mt n) x y=true:=by simp[smb]
     rw[es];refine⟨fun h=>(by cases h),fun _=>?_⟩;refine⟨fun h=>(by cases h),fun _=>?_⟩;refine⟨fun h=>(by cases h),fun _=>?_⟩;refine⟨fun h=>(by simp at h),fun _=>?_⟩;refine⟨{k:Nat // k<=0},fun k=>{vs:=[(97,.v (.lit (.int .i64 0))),(98,.v (.lit (.int .i64 0)))],ow:=[]},fun _=>0,⟨0,Nat.le_refl _⟩,⟨⟨rfl,rfl,trivial⟩,trivial,rfl⟩,?_⟩;rintro⟨k,hk⟩;refine⟨fun h=>(by cases h),fun _=>?_⟩;exact rfl
    ·have es:smb (.mt n) (.mt m) x y=false:=by
      have h':(!decide (n=m))=true:=h;simpa[smb] using h'
     rw[es];exact rfl
   ·rename_i s r;refine zG ttok mixed Tryz.func86 rfl (by rfl) (Nat.le_of_ble_eq_true rfl) (by kernel_rfl) ?_;refine⟨fun _=>?_,fun h=>(by cases h)⟩;refine⟨fun _=>?_,fun h=>(by cases h)⟩;refine⟨fun h=>(by cases h),fun _=>?_⟩;refine⟨fun h=>(by cases h),fun _=>?_⟩;refine⟨fun _=>?_,fun h=>(by cases h)⟩;refine .inl ⟨_,zPY (l:=x) (s:=s) (by omega),?_⟩;refine .inl ⟨_,zPY (l:=y) (s:=r) (by omega),?_⟩;refine⟨fun h1=>?_,fun h1=>?_⟩
    ·refine⟨fun h2=>?_,fun h2=>?_⟩
     ·have es:smb (.var s) (.var r) x y=decide (s=r):=by
       simp only[smb];rw[h1,h2];rfl
      rw[es];exact rfl
     ·have es:smb (.var s) (.var r) x y=true:=by
       simp only[smb];rw[h1,h2];rfl
      rw[es];exact rfl
    ·have es:smb (.var s) (.var r) x y=false:=by
      simp only[smb];rw[h1];rfl
     rw[es];exact rfl
   ·rename_i s r;refine zG ttok mixed Tryz.func86 rfl (by rfl) (Nat.le_of_ble_eq_true rfl) (by kernel_rfl) ?_;refine⟨fun _=>?_,fun h=>(by cases h)⟩;refine⟨fun _=>?_,fun h=>(by cases h)⟩;refine⟨fun h=>(by cases h),fun _=>?_⟩;refine⟨fun h=>(by cases h),fun _=>?_⟩;refine⟨fun h=>(by cases h),fun _=>?_⟩;refine⟨fun h=>?_,fun h=>?_⟩
    ·have es:smb (.con s) (.con r) x y=false:=by
      have h':(!decide (s=r))=true:=h;simpa[smb] using h'
     rw[es];exact rfl
    ·have es:smb (.con s) (.con r) x y=true:=by
      have h':(!decide (s=r))=false:=h;simpa[smb] using h'
     rw[es];refine⟨{k:Nat // k<=0},fun k=>{vs:=[(97,.v (.lit (.int .i64 0))),(98,.v (.lit (.int .i64 0)))],ow:=[]},fun _=>0,⟨0,Nat.le_refl _⟩,⟨⟨rfl,rfl,trivial⟩,trivial,rfl⟩,?_⟩;rintro⟨k,hk⟩;refine⟨fun h=>(by cases h),fun _=>?_⟩;exact rfl
   ·rename_i a1 a2 b1 b2;simp only[Tp.sz] at hs;have i1:=ih a1 b1 x y (by omega) (by omega) (by omega);have i2:=ih a2 b2 x y (by omega) (by omega) (by omega);refine zG ttok mixed Tryz.func86 rfl (by rfl) (Nat.le_of_ble_eq_true rfl) (by kernel_rfl) ?_;refine⟨fun _=>?_,fun h=>(by cases h)⟩;refine⟨fun _=>?_,fun h=>(by cases h)⟩;refine⟨fun h=>(by cases h),fun _=>?_⟩;refine⟨fun h=>(by cases h),fun _=>?_⟩;refine⟨fun h=>(by cases h),fun _=>?_⟩;refine⟨fun h=>(by simp[Tp.nam] at h),fun _=>?_⟩;refine⟨{k:Nat // k=0∨(k=1/\smb a1 b1 x y=true)∨(k=2/\smb a1 b1 x y=true/\smb a2 b2 x y=true)},fun k=>{vs:=[(2,.v (.sl (eSs x))),(3,.v (.sl (eSs y))),(4,.box 0 (eTy (.app a1 a2))),(5,.box 0 (eTy (.app b1 b2))),(97,.v (.lit (.int .i64 2))),(98,.v (.lit (.int .i64 (k.1:Nat))))],ow:=[]},
     fun k=>2-k.1,⟨0,.inl rfl⟩,⟨⟨rfl,rfl,rfl,rfl,rfl,rfl,trivial⟩,trivial,rfl⟩,?_⟩
    rintro⟨k,rfl|⟨rfl,h1⟩|⟨rfl,h1,h2⟩⟩
    ·refine⟨fun _=>?_,fun h=>(by cases h)⟩;refine⟨eTy a1,Int.le_refl 0,rfl,rfl,?_⟩;refine⟨eTy b1,Int.le_refl 0,rfl,rfl,?_⟩;refine .inl ⟨_,i1,?_⟩;refine⟨fun h=>?_,fun h=>?_⟩
     ·have es:smb (.app a1 a2) (.app b1 b2) x y=false:=by
       have h':smb a1 b1 x y=false:=by simpa using h
       simp[smb,h']
      rw[es];exact rfl
     ·have h':smb a1 b1 x y=true:=by simpa using h
      exact⟨⟨1,.inr (.inl ⟨rfl,h'⟩)⟩,(show 2-1<2-0 by omega),⟨rfl,rfl,rfl,rfl,rfl,rfl,trivial⟩,trivial,rfl⟩
    ·refine⟨fun _=>?_,fun h=>(by cases h)⟩;refine⟨eTy a2,Int.natCast_nonneg 1,rfl,rfl,?_⟩;refine⟨eTy b2,Int.natCast_nonneg 1,rfl,rfl,?_⟩;refine .inl ⟨_,i2,?_⟩;refine⟨fun h=>?_,fun h=>?_⟩
     ·have es:smb (.app a1 a2) (.app b1 b2) x y=false:=by
       have h':smb a2 b2 x y=false:=by simpa using h
       simp[smb,h']
      rw[es];exact rfl
     ·have h':smb a2 b2 x y=true:=by simpa using h
      exact⟨⟨2,.inr (.inr ⟨rfl,h1,h'⟩)⟩,(show 2-2<2-1 by omega),⟨rfl,rfl,rfl,rfl,rfl,rfl,trivial⟩,trivial,rfl⟩
    ·refine⟨fun h=>(by cases h),fun _=>?_⟩;have es:smb (.app a1 a2) (.app b1 b2) x y=true:=by simp[smb,h1,h2]
     rw[es];exact rfl
   ·rename_i s a r b;simp only[Tp.sz] at hs;have i1:=ih a b (x++[s]) (y++[r]) (by omega) (by simp;omega) (by simp;omega);rw[<-zR2,<-zR2] at i1;have hfx:=zM1 (eSs x);have hfy:=zM1 (eSs y);rw[<-hfx,<-hfy] at i1;refine zG ttok mixed Tryz.func86 rfl (by rfl) (Nat.le_of_ble_eq_true rfl) (by kernel_rfl) ?_;refine⟨fun _=>?_,fun h=>(by cases h)⟩;refine⟨fun _=>?_,fun h=>(by cases h)⟩;refine⟨fun h=>(by cases h),fun _=>?_⟩;refine⟨fun _=>?_,fun h=>(by cases h)⟩;refine⟨_,by decide,rfl,rfl,?_⟩;refine⟨_,by decide,rfl,rfl,?_⟩;refine⟨by decide,by omega,Int.le_refl _,rfl,.inl rfl,?_⟩;refine⟨by rw[hfx,hxl];simp;omega,by rw[hfx];exact xK _,xK [_],?_⟩;refine⟨by decide,by omega,Int.le_refl _,rfl,.inl rfl,?_⟩;refine⟨by rw[hfy,hyl];simp;omega,by rw[hfy];exact xK _,xK [_],?_⟩;refine .inl ⟨_,i1,?_⟩;exact rfl
  ·have es:smb a b x y=false:=by cases a<;>cases b<;>first|rfl|exact absurd rfl hform
   rw[es];refine zG ttok mixed Tryz.func86 rfl (by rfl) (Nat.le_of_ble_eq_true rfl) (by kernel_rfl) ?_;refine⟨fun h=>?_,fun _=>?_⟩
   ·have h':(!decide (a.form=b.form))=false:=h;rw[decide_eq_false hform] at h';cases h'
   ·exact rfl
theorem zLC (a b:Tp) (h:a.sz<1000000000):zF Tryz.prog zC1 [eTy a,eTy b] (.sb (smb a b [] [])):=by
 refine zG ttok mixed Tryz.func38 rfl (by rfl) (Nat.le_of_ble_eq_true rfl) (by kernel_rfl) ?_;refine .inl ⟨_,z3K a.sz a b [] [] (Nat.le_refl _) (by simp;omega) (by simp;omega),?_⟩;exact rfl
inductive Db where
 | no
 | mt (n:Int)
 | bv (i:Nat)
 | fr (s:ByteArray)
 | con (s:ByteArray)
 | app (a b:Db)
 | all (a:Db)
def ixN {α:Type} [DecidableEq α]:List α->α->Nat
 | [],_=>0
 | x::l,s=>if x=s then 0 else ixN l s+1
def db:Tp->List ByteArray->Db
 | .no,_ => .no
 | .mt n,_ => .mt n
 | .con s,_ => .con s
 | .var s,e=>if memb s e then .bv (ixN e s) else .fr s
 | .app a b,e => .app (db a e) (db b e)
 | .all s a,e => .all (db a (s::e))
def sb (σ:ByteArray->Db):Db->Db
 | .fr s=>σ s
 | .app a b => .app (sb σ a) (sb σ b)
 | .all a => .all (sb σ a)
 | d=>d
theorem z5W (σ τ:ByteArray->Db) (d:Db):sb τ (sb σ d)=sb (fun y=>sb τ (σ y)) d:=by
 induction d with
 | app a b iha ihb=>simp only[sb,iha,ihb]
 | all a ih=>simp only[sb,ih]
 | _=>rfl
theorem zPT {α:Type} [DecidableEq α] {l:List α} {s:α} (h:s∈l):ixN l s<l.length:=by
 induction l with
 | nil=>cases h
 | cons x l ih =>
  simp only[ixN,List.length_cons];split
  ·omega
  ·rename_i hx;rcases List.mem_cons.1 h with e|e
   ·exact absurd e.symm hx
   ·have:=ih e;omega
theorem z6Y {α:Type} [DecidableEq α] {l:List α} {s:α} (h:s∈l):ixI l s=(ixN l s:Nat):=by
 induction l with
 | nil=>cases h
 | cons x l ih =>
  simp only[ixN];split
  ·rename_i hx;subst hx;simp[ixI]
  ·rename_i hx;rcases List.mem_cons.1 h with e|e
   ·exact absurd e.symm hx
   ·rw[zRC hx e,ih e];rfl
theorem z5U {x:List ByteArray} {s:ByteArray}:(s∈x->pl x s=(x.length:Int)-1-(ixN x.reverse s:Nat))/\(s∉x->pl x s = -1):=by
 constructor
 ·intro h;rw[pl,yE h,if_pos rfl,z6Y (List.mem_reverse.2 h)]
 ·intro h;rw[pl,xH h];rfl
theorem z16 {x:List ByteArray} {s:ByteArray}:memb s x.reverse=memb s x:=by
 by_cases h:s∈x
 ·rw[yE h,yE (List.mem_reverse.2 h)]
 ·rw[xH h,xH (fun e=>h (List.mem_reverse.1 e))]
theorem zYD:∀(a b:Tp) (x y:List ByteArray),x.length=y.length->(smb a b x y=true↔db a x.reverse=db b y.reverse):=by
 intro a;induction a with
 | no=>intro b x y h;cases b<;>simp[smb,db];split<;>simp
 | mt n=>intro b x y h;cases b<;>simp[smb,db];split<;>simp
 | con s=>intro b x y h;cases b<;>simp[smb,db];split<;>simp
 | var s =>
  intro b x y h;cases b with
  | var r =>
   obtain⟨p1,p2⟩:=z5U (x:=x) (s:=s);obtain⟨q1,q2⟩:=z5U (x:=y) (s:=r);simp only[smb,db,z16];by_cases hs:s∈x
   ·have p1:=p1 hs;have l1:=zPT (List.mem_reverse.2 hs);rw[List.length_reverse] at l1;rw[yE hs,if_pos rfl];by_cases hr:r∈y
    ·have q1:=q1 hr;rw[yE hr,if_pos rfl];simp only[Bool.and_eq_true,Bool.or_eq_true,decide_eq_true_eq,Db.bv.injEq];omega
    ·have q2:=q2 hr;rw[xH hr];simp only[Bool.and_eq_true,Bool.or_eq_true,decide_eq_true_eq,Bool.false_eq_true,if_false];constructor
     ·rintro⟨e,_⟩;omega
     ·intro e;cases e
   ·have p2:=p2 hs;rw[xH hs];by_cases hr:r∈y
    ·have q1:=q1 hr;have l1:=zPT (List.mem_reverse.2 hr);rw[List.length_reverse] at l1;rw[yE hr];simp only[Bool.and_eq_true,Bool.or_eq_true,decide_eq_true_eq,Bool.false_eq_true,if_false,if_true];constructor
     ·rintro⟨e,_⟩;omega
     ·intro e;cases e
    ·have q2:=q2 hr;rw[xH hr];simp only[Bool.and_eq_true,Bool.or_eq_true,decide_eq_true_eq,Bool.false_eq_true,if_false,Db.fr.injEq];constructor
     ·rintro⟨e,h1|h1⟩
      ·omega
      ·exact h1
     ·intro e;exact⟨by omega,.inr e⟩
  | _=>simp only[smb,db];split<;>simp
 | app a1 a2 ih1 ih2 =>
  intro b x y h;cases b with
  | app b1 b2=>simp only[smb,db,Bool.and_eq_true,ih1 b1 x y h,ih2 b2 x y h,Db.app.injEq]
  | var s=>simp only[smb,db];split<;>simp
  | _=>simp[smb,db]
 | all s a ih =>
  intro b x y h;cases b with
  | all r b =>
   have:=ih b (x++[s]) (y++[r]) (by simp[h]);simp only[List.reverse_append,List.reverse_cons,List.reverse_nil,List.nil_append,List.singleton_append] at this;simp only[smb,db,this,Db.all.injEq]
  | var s=>simp only[smb,db];split<;>simp
  | _=>simp[smb,db]
theorem zYA {a b:Tp} (h:db a []=db b []):smb a b [] []=true:=(zYD a b [] [] rfl).2 h
def wS (y:ByteArray) (ps:Env'):Tp:=(look y ps).getD (.var y)
theorem zUX {α:Type} [DecidableEq α] {l e:List α} {s:α} (hl:s∈l):ixN (l++e) s=ixN l s:=by
 induction l with
 | nil=>cases hl
 | cons y l ih =>
  simp only[List.cons_append,ixN];split
  ·rfl
  ·rename_i hy;rcases List.mem_cons.1 hl with e1|e1
   ·exact absurd e1.symm hy
   ·rw[ih e1]
theorem zOD (t:Tp):∀(l e:List ByteArray),(∀x∈fv t,x∉l->x∉e)->db t (l++e)=db t l:=by
 induction t with
 | var s =>
  intro l e h;have h:=h s (by simp[fv]);simp only[db];by_cases hl:s∈l
  ·rw[yE hl,yE (List.mem_append_left _ hl),if_pos rfl,if_pos rfl];rw[zUX hl]
  ·rw[xH hl,xH (fun hm=>(List.mem_append.1 hm).elim hl (h hl))]
   rfl
 | app a b iha ihb =>
  intro l e h;simp only[db];rw[iha l e (fun x hx=>h x (mem_fv_app.2 (.inl hx))),ihb l e (fun x hx=>h x (mem_fv_app.2 (.inr hx)))]
 | all s a ih =>
  intro l e h;simp only[db];rw[<-List.cons_append,ih (s::l) e (fun x hx hn=>by
   simp only[List.mem_cons,not_or] at hn;exact h x (mem_fv_all.2 ⟨hx,hn.1⟩) hn.2)]
 | _=>intro l e h;rfl
theorem zEK {α:Type} [DecidableEq α] {l:List α} {w s:α} (h:w≠s):ixN (w::l) s=ixN l s+1:=by simp[ixN,h]
theorem z8B (t:Tp):∀(ps:Env') (e e':List ByteArray) (σ:ByteArray->Db),
  (∀y∈fv t,(y∈e/\∃y',wS y ps = .var y'/\y'∈e'/\ixN e' y'=ixN e y)∨(y∉e/\(∀x∈fv (wS y ps),x∉e')/\σ y=db (wS y ps) [])) ->
  db (sub t ps) e'=sb σ (db t e):=by
 induction t with
 | var s =>
  intro ps e e' σ h;have h:=h s (by simp[fv]);show db (wS s ps) e'=_;rcases h with⟨h1,y',h2,h3,h4⟩|⟨h1,h2,h3⟩
  ·rw[h2];simp only[db];rw[yE h3,yE h1,if_pos rfl,if_pos rfl,h4];rfl
  ·have:=zOD (wS s ps) [] e' (fun x hx _=>h2 x hx);rw[List.nil_append] at this;simp only[db];rw[xH h1,this,<-h3]
   rfl
 | app a b iha ihb =>
  intro ps e e' σ h;simp only[sub,db,sb];rw[iha ps e e' σ (fun y hy=>h y (mem_fv_app.2 (.inl hy))),ihb ps e e' σ (fun y hy=>h y (mem_fv_app.2 (.inr hy)))]
 | all s a ih =>
  intro ps e e' σ h;obtain⟨q,hq⟩:∃q,q=kept s (fv a) ps:=⟨_,rfl⟩
  have hl:∀y,y∈fv a->y≠s->look y q=look y ps:=fun y h1 h2=>by rw[hq];exact zND h2 h1
  have hs:look s q=none:=by rw[hq];exact zI1
  have hcau:∀y u x,look y q=some u->x∈fv u->x∈caught q:=fun y u x h1 h2=>List.mem_flatMap.2 ⟨_,zB9 h1,h2⟩;have key:∀(w:ByteArray) (ps':Env'),wS s ps' = .var w->(∀y,y∈fv a->y≠s->wS y ps'=wS y ps)->(∀y,y∈fv a->y≠s->w∉fv (wS y ps)) ->
    db (sub a ps') (w::e')=sb σ (db a (s::e)):=fun w ps' k1 k2 k3=>by
   refine ih ps' (s::e) (w::e') σ fun y hy=>?_;by_cases hys:y=s
   ·subst hys;exact .inl ⟨by simp,w,k1,by simp,by simp[ixN]⟩
   ·have hw:=k3 y hy hys;rcases h y (mem_fv_all.2 ⟨hy,hys⟩) with⟨h1,y',h2,h3,h4⟩|⟨h1,h2,h3⟩
    ·rw[h2] at hw;have hne:w≠y':=fun e=>hw (by simp[fv,e]);refine .inl ⟨by simp[h1],y',by rw[k2 y hy hys,h2],by simp[h3],?_⟩;rw[zEK hne,zEK (Ne.symm hys),h4]
    ·refine .inr ⟨by simp[hys,h1],fun x hx=>?_,by rw[k2 y hy hys,h3]⟩;rw[k2 y hy hys] at hx;simp only[List.mem_cons,not_or];exact⟨fun e=>hw (e ▸ hx),h2 x hx⟩
  simp only[sub,<-hq];split
  ·obtain⟨z,hz⟩:∃z,z=lett (ff (caught q++fv a)):=⟨_,rfl⟩
   have hnew:z∉caught q++fv a:=hz ▸ zDA _;simp only[List.mem_append,not_or] at hnew;rw[<-hz];simp only[db,sb];refine congrArg Db.all (key z (q++[(s,.var z)]) (by simp[wS,zBO,hs,look]) (fun y h1 h2=>?_) (fun y h1 h2 h3=>?_))
   ·unfold wS;rw[zBO,<-hl y h1 h2];cases look y q with
    | none=>simp[look,Ne.symm h2]
    | some u=>rfl
   ·unfold wS at h3;rw[<-hl y h1 h2] at h3;cases hc:look y q with
    | none=>rw[hc] at h3;simp[fv] at h3;subst h3;exact hnew.2 h1
    | some u=>rw[hc] at h3;exact hnew.1 (hcau y u _ hc h3)
  ·rename_i hcap;have hns:s∉caught q:=fun h=>hcap (yE h);simp only[db,sb];refine congrArg Db.all (key s q (by simp[wS,hs]) (fun y h1 h2=>by unfold wS;rw[hl y h1 h2]) (fun y h1 h2 h3=>?_));unfold wS at h3;rw[<-hl y h1 h2] at h3;cases hc:look y q with
   | none=>rw[hc] at h3;simp[fv] at h3;exact h2 h3.symm
   | some u=>rw[hc] at h3;exact hns (hcau y u _ hc h3)
 | _=>intro ps e e' σ h;rfl
theorem zCX (d:Db):sb .fr d=d:=by
 induction d with
 | app a b iha ihb=>simp only[sb,iha,ihb]
 | all a ih=>simp only[sb,ih]
 | _=>rfl
theorem zYH {D:Nat} (t:Tp):∀ps:Env',(∀p∈ps,dp p.2<=D)->dp (sub t ps)<=dp t+D:=by
 induction t with
 | var s =>
  intro ps h;simp only[sub];cases hl:look s ps with
  | none=>simp[dp]
  | some u=>have:dp u<=D:=h _ (zB9 hl);simp only[dp,Option.getD_some];omega
 | app a b iha ihb =>
  intro ps h;have h1:=iha ps h;have h2:=ihb ps h;simp only[sub,dp];omega
 | all s a ih =>
  intro ps h;simp only[sub];split
  ·have h3:=ih (kept s (fv a) ps++[(s,.var (lett (ff (caught (kept s (fv a) ps)++fv a))))]) (fun p hp=>by
    rcases List.mem_append.1 hp with hp|hp
    ·exact h p (wZ hp)
    ·simp at hp;subst hp;simp[dp])
   simp only[dp];omega
  ·have h3:=ih (kept s (fv a) ps) (fun p hp=>h p (wZ hp));simp only[dp];omega
 | _=>intro ps h;simp[sub,dp]
def nl:Tp->List ByteArray->ByteArray
 | .mt n,_=>⟨#[63]⟩++dcm n.toNat
 | .var s,x=>if memb s x then ⟨#[35]⟩++dcm (ixN x.reverse s) else ⟨#[39]⟩++s
 | .con s,_=>s
 | .all s a,x=>(⟨#[91]⟩++nl a (x++[s]))++⟨#[93]⟩
 | .app a b,x=>((((⟨#[40]⟩++nl a x)++⟨#[32]⟩)++nl b x)++⟨#[41]⟩)
 | .no,_ => .empty
def tk (c:UInt8):Bool:=(48<=c && c<=57) || (65<=c && c<=90) || (97<=c && c<=122)
end Go.Proofs.YtgonkhaebmfgiaaGreatDoor
