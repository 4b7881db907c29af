/- What is made, and what is put into it, has few names at each place. Plain. No condition. -/
import Derived.Test.YtgonkhaebmfgiaaGreatDoorW
import Derived.Test.YtgonkhaebmfgiaaGreatDoorT
set_option linter.unusedSimpArgs false
set_option linter.unusedVariables false
namespace Go.Proofs.YtgonkhaebmfgiaaGreatDoor
open Go Fp
set_option maxRecDepth 10000
set_option maxHeartbeats 4000000
set_option linter.unusedVariables false
theorem zOJ (t : Tp) : good t -> ∀ y ∈ fv t, y ∈ xZ := by
  induction t with
  | var s => intro h y hy; have : y = s := by simpa [fv] using hy
             rw [this]; exact h
  | app a b iha ihb => intro h y hy; exact (mem_fv_app.1 hy).elim (iha h.1 y) (ihb h.2 y)
  | all s a ih => intro h y hy; exact ih h.2 y (mem_fv_all.1 hy).1
  | _ => intro _ y hy; cases hy
theorem z9T (c:Cr):c.Pk->∀y∈c.tv,y∈xZ:=by
 induction c with
 | nil=>intro _ y hy;cases hy
 | node f n s t g ih =>
  intro h y hy;rcases mem_tv_node.1 hy with h1|⟨h1,_⟩
  ·rcases h.2.2.2.1 with h2|⟨h2,_⟩
   ·exact zOJ t h2 y h1
   ·rw[h2] at h1;cases h1
  ·exact ih h.2.2.2.2 y h1
 | kid p r ihp ih=>intro h y hy;exact (mem_tv_kid.1 hy).elim (ihp h.1 y) (ih h.2 y)
 | bind x t p r ihp ih =>
  intro h y hy;rcases mem_tv_bind.1 hy with h1|h1|h1
  ·exact zOJ t h.2.1 y h1
  ·exact ihp h.2.2.1 y h1
  ·exact ih h.2.2.2 y h1
 | alt f n s vs p r ihp ih=>intro h y hy;exact (mem_tv_alt.1 hy).elim (ihp h.2.2.2.2.1 y) (ih h.2.2.2.2.2 y)
def Gt (t:Tp):Prop:=LowT 2000 t/\t.sz<=376/\(fv t).length<=4
theorem Gt.ty5 {t:Tp} (h:Gt t):Ty5 t:=⟨h.1,by have:=h.2.1;omega,by have:=h.2.1;have:=h.2.2;have:=zZQ t;omega⟩
theorem Gt.of {t:Tp} (h:good t∨t = .no) (hl:LowT 2000 t) (hs:t.sz<=376):Gt t:=⟨hl,hs,by
 rcases h with h|rfl
 ·exact yY (fv t) xZ (jF t) (zOJ t h)
 ·decide⟩
theorem z9H (c:Cr):c.wt<=376->c.LowC 2000->c.Pk->c.TA Gt:=by
 induction c with
 | nil=>exact fun _ _ _=>trivial
 | node f n s t g ih=>intro h hl hp;simp only[Cr.wt] at h;exact⟨.of (hp.2.2.2.1.imp id (·.1)) hl.1 (by omega),ih (by omega) hl.2 hp.2.2.2.2⟩
 | kid p r ihp ih=>intro h hl hp;simp only[Cr.wt] at h;exact⟨ihp (by omega) hl.1 hp.1,ih (by omega) hl.2 hp.2⟩
 | bind x t p r ihp ih=>intro h hl hp;simp only[Cr.wt] at h;exact⟨.of (.inl hp.2.1) hl.1 (by omega),ihp (by omega) hl.2.1 hp.2.2.1,ih (by omega) hl.2.2 hp.2.2.2⟩
 | alt f n s vs p r ihp ih=>intro h hl hp;simp only[Cr.wt] at h;exact⟨ihp (by omega) hl.1 hp.2.2.2.2.1,ih (by omega) hl.2 hp.2.2.2.2.2⟩
structure Nw (c:Cr):Prop where
 fv:∀y∈c.fv,y∈W18
 tv:∀y∈c.tv,y∈xZ
theorem Nw.len {c:Cr} (h:Nw c):c.fv.length<=20/\c.tv.length<=4:=⟨yY _ W18 (zE4 c) h.fv,yY _ xZ (zCB c) h.tv⟩
theorem zON {c:Cr} (hs:Sm c) (hp:c.Pk) (hw:c.wt<=376) (hz:c.sz<=117):Wm c/\Nw c/\dpC c<=c.wt:=by
 have hn:Nw c:=⟨z8Y c hp,z9T c hp⟩
 obtain⟨h1,h2⟩:=hn.len;have h3:=z9E c hs.ok;have h4:=zFK c;rw[hs.n] at h3;simp only[if_true] at h3;exact⟨⟨hs.n,hs.ok,hs.gd.few,(z9H c hw hs.low hp).mono fun t h=>h.ty5,by omega,by omega,by omega,by omega⟩,hn,by omega⟩
theorem z6K (k:Nat):∀(c:Cr) (x:ByteArray) (b:Cr),Wm c->Wm b->c.sz<=k->(sbF k c x b).TA Ty5:=by
 induction k with
 | zero=>intro c x b h _ hk;have:=qE h.n;omega
 | succ k ih =>
  intro c x b h hb hk;have hn:=h.n;have hok:=h.ok;have hta:=h.ta;have hbv:=hb.vw;have hren:∀(rs:List (ByteArray×ByteArray)) (p:Cr),Wm p->p.sz<=k->Wm (rs.foldl (fun p q=>sbF k p q.1 (vr q.2)) p)/\(rs.foldl (fun p q=>sbF k p q.1 (vr q.2)) p).sz<=k:=by
   intro rs;induction rs with
   | nil=>exact fun p h1 h2=>⟨h1,h2⟩
   | cons q rs ihr=>intro p h1 h2;obtain⟨g1,g2⟩:=h1.sb k h2 q.1 q.2;exact ihr _ g1 (by show (sbF k p q.1 (vr q.2)).sz<=k;omega)
  have hput:∀(rs:List (ByteArray×ByteArray)) (p:Cr),Wm p->p.sz<=k->(sbF k (rs.foldl (fun p q=>sbF k p q.1 (vr q.2)) p) x b).TA Ty5:=fun rs p h1 h2=>by
   obtain⟨g1,g2⟩:=hren rs p h1 h2;exact ih _ x b g1 hb g2
  have hpart:=fun {d:Cr} {p:Pp} (hd:zU (zD c) p=some d)=>h.part hd;cases c with
  | node f n s t g =>
   obtain⟨hg,hgo⟩:=yB hok;have hk1:∀p∈g.kids,Wm p/\p.sz<=k:=fun p hp=>by
    obtain⟨j,hj,rfl⟩:=List.getElem_of_mem hp;obtain⟨h1,h2⟩:=hpart (p := .kid j) (d:=g.kids[j]) (List.getElem?_eq_getElem hj);exact⟨h1,by omega⟩
   have hk2:∀b∈g.binds,Wm b.2.2/\b.2.2.sz<=k:=fun b hb=>by
    obtain⟨j,hj,rfl⟩:=List.getElem_of_mem hb;obtain⟨h1,h2⟩:=hpart (p := .bind j) (d:=g.binds[j].2.2) (by show (g.binds[j]?).map _=_;rw[List.getElem?_eq_getElem hj];rfl);exact⟨h1,by omega⟩
   have hk3:∀a∈g.alts,Wm a.2.2/\a.2.2.sz<=k:=fun a ha=>by
    obtain⟨j,hj,rfl⟩:=List.getElem_of_mem ha;obtain⟨h1,h2⟩:=hpart (p := .alt j) (d:=g.alts[j].2.2) (by show (g.alts[j]?).map _=_;rw[List.getElem?_eq_getElem hj];rfl);exact⟨h1,by omega⟩
   have hbt:∀b∈g.binds,Ty5 b.2.1:=zVK g hta.2;have hα:∀a∈g.alts,(wI (fun rs p=>sbF k (rs.foldl (fun p q=>sbF k p q.1 (vr q.2)) p) x b) x b.fv a.2.1 a.2.2).2.TA Ty5:=fun a ha=>by
    unfold wI;split
    ·exact (hk3 a ha).1.ta
    ·exact hput _ _ (hk3 a ha).1 (hk3 a ha).2
   unfold sbF;split
   ·split
    ·exact hb.ta
    ·exact hta
   ·split
    ·rename_i h7;split
     ·split
      ·refine⟨hta.1,zD6 g hg hgo (fun p hp=>?_) (fun b' hb'=>?_) (fun a ha=>(hk3 a ha).1.ta)⟩
       ·obtain⟨h1,h2⟩:=hk1 p hp;have hgt:=zSV (l:=b.tv++g.tv) (m:=b.tv++(s::(Cr.node f n s t g).tv)) fun y hy=>by
         rcases List.mem_append.1 hy with hy|hy
         ·exact List.mem_append_left _ hy
         ·refine List.mem_append_right _ ?_;by_cases e:y=s
          ·rw[e];exact List.mem_cons_self
          ·exact List.mem_cons_of_mem _ (mem_tv_node.2 (.inr ⟨hy,fun e2=>e e2.2⟩))
        have hv:=h.vw;rw[List.length_append,List.length_cons] at hgt;have h3:=Wm.st k h1 s (lett (ff (b.tv++g.tv))) h2 ⟨_,by omega,rfl⟩;exact ih _ x b h3 hb (by rw[(wJ k p s _ h1.ok).1];exact h2)
       ·have e:f=8:=hok.2.2.2.2.1 fun e=>by rw[e] at hb';cases hb'
        omega
      ·exact⟨hta.1,zD6 g hg hgo (fun p hp=>ih _ x b (hk1 p hp).1 hb (hk1 p hp).2) (fun b' hb'=>⟨hbt b' hb',ih _ x b (hk2 b' hb').1 hb (hk2 b' hb').2⟩) (fun a ha=>(hk3 a ha).1.ta)⟩
     ·exact hta
    ·split
     ·exact⟨hta.1,zD6 g hg hgo (fun p hp=>(hk1 p hp).1.ta) (fun b' hb'=>⟨hbt b' hb',(hk2 b' hb').1.ta⟩) hα⟩
     ·exact⟨hta.1,zD6 g hg hgo (fun p hp=>hput _ _ (hk1 p hp).1 (hk1 p hp).2) (fun b' hb'=>⟨hbt b' hb',hput _ _ (hk2 b' hb').1 (hk2 b' hb').2⟩) hα⟩
  | _=>cases hn
theorem zZP {N:Nat} {c b:Cr} (x:ByteArray) (hc:Wm c) (hb:Wm b) (hk:c.sz<=N) (nc:Nw c) (nb:Nw b) (C B T U:Nat) (hz1:c.sz<=C) (hz2:b.sz<=B) (ht1:c.tn<=T) (ht2:b.tn<=U) (hd:dpC c+dpC b<=680) (h3:C+C*B<=10000) (h4:T+C*U<=60000) :
  Wm (sbF N c x b)/\Nw (sbF N c x b)/\(sbF N c x b).sz<=C+C*B/\dpC (sbF N c x b)<=dpC c+dpC b/\(sbF N c x b).tn<=T+C*U:=by
 obtain⟨q1,q2,_⟩:=wL N c x b hc.n hc.ok hb.n hb.ok;have hn:Nw (sbF N c x b):=⟨fun y hy=>by
  rcases (zLQ (zS2 N) hc.ok hc.n hb.ok hb.n hk y).1 hy with⟨_,h⟩|⟨_,h⟩
  ·exact nc.fv y h
  ·exact nb.fv y h,fun y hy=>by
  rcases z0Y hc.ok hc.n hb.ok hb.n hk y hy with h|⟨_,h⟩
  ·exact nc.tv y h
  ·exact nb.tv y h⟩
 obtain⟨l1,l2⟩:=hn.len;have hsz:=zUK (x:=x) hc.ok hc.n hb.ok hb.n hk;have hof:=z1C hc.ok x;have hm1:oft c x*b.sz<=C*B:=Nat.mul_le_mul (by omega) hz2;have htn:=z6R (dbc c [] []) x (dbc b [] []) (sgO x b) (if_pos rfl) (fun y hy=>if_neg hy);rw[<-zDJ hc.ok hc.n hb.ok hb.n hk,zOZ _ _ _ q2,zOZ _ _ _ hc.ok,zOZ _ _ _ hb.ok] at htn;have hm2:oft c x*b.tn<=C*U:=Nat.mul_le_mul (by omega) ht2;unfold oft at hm2;have hdp:=zO4 N c x b;refine⟨⟨q1,q2,zI8 N c x b hc.few hb.few,z6K N c x b hc hb hk,by omega,by omega,by omega,by omega⟩,hn,by omega,hdp,by omega⟩
theorem zXK {N:Nat} {c a b:Cr} {x y:ByteArray} (hc:Wm c) (ha:Wm a) (hb:Wm b) (hxy:x≠y) (hx:x∉b.fv) (k1:c.sz<=N) (k2:a.sz<=N) (k3:(sbF N c x a).sz<=N) (k4:(sbF N c y b).sz<=N) :
  dbc (sbF N (sbF N c x a) y b) [] []=dbc (sbF N (sbF N c y b) x (sbF N a y b)) [] []:=by
 obtain⟨q1,q2,_⟩:=wL N c x a hc.n hc.ok ha.n ha.ok;obtain⟨r1,r2,_⟩:=wL N c y b hc.n hc.ok hb.n hb.ok;obtain⟨s1,s2,_⟩:=wL N a y b ha.n ha.ok hb.n hb.ok;rw[zDJ q2 q1 hb.ok hb.n k3,zDJ hc.ok hc.n ha.ok ha.n k1,zDJ r2 r1 s2 s1 k4,zDJ hc.ok hc.n hb.ok hb.n k1,zUD,zUD]
 congr 1
 funext v
 unfold sgO;by_cases h1:v=x
 ·subst h1;rw[if_pos rfl,if_neg hxy];show _=(if v=v then _ else _);rw[if_pos rfl,zDJ ha.ok ha.n hb.ok hb.n k2]
  rfl
 ·by_cases h2:v=y
  ·subst h2;rw[if_neg h1,if_pos rfl];show (if v=v then _ else _)=_;rw[if_pos rfl];refine (zZO _ x _ (fun z hz=>if_neg hz) ?_).symm;have h3:=zCA b [] [] x;cases h4:yF (dbc b [] []) x with
   | zero=>rfl
   | succ k=>exact absurd (h3.1 (by omega)).1 hx
  ·rw[if_neg h1,if_neg h2];show (if v=y then _ else _)=(if v=x then _ else _);rw[if_neg h1,if_neg h2]
set_option maxHeartbeats 16000000
theorem zO2 {l0 l1 l2:List Int} {n m:Int} (hn:InR n) (hm:InR m) (hl0:l0.length<9223372036854775808) (hr0:∀x∈l0,InR x) (hl1:l1.length<9223372036854775808) (hr1:∀x∈l1,InR x) (hl2:l2.length<9223372036854775808) (hr2:∀x∈l2,InR x) :
  zF Tryz.prog 7 [.agg [.lit (.int .i64 n),.lit (.int .i64 m)],.sl (eIs l0),.agg [.sl (eIs l1),.sl (eIs l2)]] (.sb true):=by
 obtain⟨x,_,hX⟩:=zHB hn;obtain⟨y,_,hY⟩:=zHB hm;have tk:∀{l:List Int} {k:Nat},l.length<9223372036854775808->(l.take k).length<9223372036854775808:=fun h=>by rw[List.length_take];omega
 obtain⟨c,sc,pc,⟨wc,zc,_⟩,hC⟩:=zF5 (l:=l0.take 40) (tk hl0) (fun x hx=>hr0 x (List.mem_of_mem_take hx));obtain⟨a,sa,pa,⟨wa,_,za⟩,hA⟩:=zF5 (l:=l1.take 14) (tk hl1) (fun x hx=>hr1 x (List.mem_of_mem_take hx));obtain⟨b,sb,pb,⟨wb,_,zb⟩,hB⟩:=zF5 (l:=l2.take 14) (tk hl2) (fun x hx=>hr2 x (List.mem_of_mem_take hx));have c40:((l0.take 40).take 60).length<=40:=by simp only[List.length_take];omega
 have a14:((l1.take 14).take 60).length<=14:=by simp only[List.length_take];omega
 have b14:((l2.take 14).take 60).length<=14:=by simp only[List.length_take];omega
 obtain⟨mc,nc,dc⟩:=zON sc pc (by omega) zc;obtain⟨ma,na,da⟩:=zON sa pa (by omega) (by omega);obtain⟨mb,nb,db'⟩:=zON sb pb (by omega) (by omega);have tc:=zFK c;have ta:=zFK a;have tb:=zFK b;obtain⟨m1,n1,z1,d1,t1⟩:=zZP (N:=10000) x mc ma (by omega) nc na 117 57 376 246 zc (by omega) (by omega) (by omega) (by omega) (by decide) (by decide);obtain⟨m2,n2,z2,d2,t2⟩:=zZP (N:=10000) y mc mb (by omega) nc nb 117 57 376 246 zc (by omega) (by omega) (by omega) (by omega) (by decide) (by decide);obtain⟨m3,n3,z3,d3,t3⟩:=zZP (N:=10000) y ma mb (by omega) na nb 57 57 246 246 (by omega) (by omega) (by omega) (by omega) (by omega) (by decide) (by decide);have u1:=zAV 10000 c x a mc mc.sz ma;have u2:=zAV 10000 (sbF 10000 c x a) y b m1 m1.sz mb;have u3:=zAV 10000 c y b mc mc.sz mb;have u4:=zAV 10000 a y b ma ma.sz mb;have u5:=zAV 10000 (sbF 10000 c y b) x (sbF 10000 a y b) m2 m2.sz m3;have u0:=zAV 10000 c x (vr x) mc mc.sz (z5I x);have v0c:c.V0:=zY6 c pc;have v0a:a.V0:=zY6 a pa;have v0b:b.V0:=zY6 b pb;have tzc:c.TZ:=z0M c (by omega);have tza:a.TZ:=z0M a (by omega);have tzb:b.TZ:=z0M b (by omega);have hSame:x≠y->x∉b.fv->zF Tryz.prog zBM [eC (sbF 10000 (sbF 10000 c x a) y b),eC (sbF 10000 (sbF 10000 c y b) x (sbF 10000 a y b))] (.sb true):=fun hxy hx=>by
  have hlaw:=zXK (N:=10000) mc ma mb hxy hx mc.sz ma.sz m1.sz m2.sz;obtain⟨p1,p2,_⟩:=wL 10000 (sbF 10000 c x a) y b m1.n m1.ok mb.n mb.ok;obtain⟨q1,q2,_⟩:=wL 10000 (sbF 10000 c y b) x (sbF 10000 a y b) m2.n m2.ok m3.n m3.ok;have psz:=zUK (x:=y) m1.ok m1.n mb.ok mb.n m1.sz;have pof:=z1C m1.ok y;have pm:oft (sbF 10000 c x a) y*b.sz<=(117+117*57)*57:=Nat.mul_le_mul (by omega) (by omega);have hsz:(sbF 10000 (sbF 10000 c x a) y b).sz=(sbF 10000 (sbF 10000 c y b) x (sbF 10000 a y b)).sz:=by rw[<-zEP _ [] [] p2,<-zEP _ [] [] q2,hlaw]
  have dp:=zO4 10000 (sbF 10000 c x a) y b;refine z5B ⟨p1,p2,zI8 _ _ _ _ m1.few mb.few,by omega,zHZ _ _ _ _ (zHZ _ _ _ _ v0c v0a) v0b,zHE _ _ _ _ (zHE _ _ _ _ tzc tza) tzb⟩
   ⟨q1,q2,zI8 _ _ _ _ m2.few m3.few,by omega,zHZ _ _ _ _ (zHZ _ _ _ _ v0c v0b) (zHZ _ _ _ _ v0a v0b),zHE _ _ _ _ (zHE _ _ _ _ tzc tzb) (zHE _ _ _ _ tza tzb)⟩ (by omega) (by simpa using hlaw)
 have hSame0:zF Tryz.prog zBM [eC (sbF 10000 c x (vr x)),eC c] (.sb true):=by
  obtain⟨g1,g2⟩:=mc.sb 10000 mc.sz x x;refine z5B ⟨g1.n,g1.ok,g1.few,by omega,zHZ _ _ _ _ v0c ⟨fun _=>rfl,trivial⟩,zHE _ _ _ _ tzc ⟨by decide,trivial⟩⟩ ⟨mc.n,mc.ok,mc.few,by omega,v0c,tzc⟩ (by have:=zO4 10000 c x (vr x);have h0:dpC (vr x)=0:=rfl;omega) ?_;have:dbc (sbF 10000 c x (vr x)) [] []=dbc c [] []:=by
   rw[zDJ mc.ok mc.n (zBK _) rfl mc.sz];have e:sgO x (vr x)=DC.fr:=by
    funext v
    unfold sgO;split
    ·rename_i h;rw[h];exact zFR x
    ·rfl
   rw[e,zOE]
  simpa using this
 have hFr:=wZ mb.n mb.ok mb.few (by omega);have hfl:=zBY b;have hHas:=zZ4 (l:=b.fv) (s:=x) (by omega);clear sc sa sb pc pa pb m1 m2 m3 n1 n2 n3;generalize sbF 10000 (sbF 10000 c x a) y b=p at u2 hSame;generalize sbF 10000 (sbF 10000 c y b) x (sbF 10000 a y b)=q at u5 hSame;generalize sbF 10000 c x a=c1 at u1 u2;generalize sbF 10000 c y b=c2 at u3 u5;generalize sbF 10000 a y b=a2 at u4 u5;generalize sbF 10000 c x (vr x)=c0 at u0 hSame0;refine jX ttok mixed Tryz.func7 rfl (by rfl) (Nat.le_of_ble_eq_true rfl) (by kernel_rfl) ?_;refine Wsem.seq ttok mixed ?_;refine Wsem.cut {vs:=[(1,.v (.sl (eIs l0))),(3,.box 0 (.agg [.lit (.int .i64 n),.lit (.int .i64 m)])),(5,.box 0 (.agg [.sl (eIs l1),.sl (eIs l2)]))]} ⟨⟨rfl,rfl,rfl,trivial⟩,trivial,rfl⟩ ?_;refine Wsem.shut 3 rfl ?_;refine Wsem.shut 5 rfl ?_;refine Wsem.cut {vs:=[(1,.v (.sl (eIs l0))),(3,.v (.ptr [.lit (.int .i64 n),.lit (.int .i64 m)])),(5,.v (.ptr [.sl (eIs l1),.sl (eIs l2)]))]} ⟨⟨rfl,rfl,rfl,trivial⟩,trivial,rfl⟩ ?_;refine Wsem.seqS (Wsem.regionIx ttok rfl rfl rfl Tryz.underlying53 Tryz.sizeOf3 (by decide) (by decide) rfl ?_);refine .inl ⟨_,hX,?_⟩;refine Wsem.seqS (Wsem.regionIx ttok rfl rfl rfl Tryz.underlying53 Tryz.sizeOf3 (by decide) (by decide) rfl ?_);refine .inl ⟨_,hY,?_⟩;refine Wsem.seq ttok mixed ?_;refine .inl ⟨_,zJQ (n:=40) hl0 (by decide),?_⟩;refine .inl ⟨_,hC,?_⟩;refine Wsem.seqS (Wsem.regionIx ttok rfl rfl rfl Tryz.underlying54 Tryz.sizeOf22 (by decide) (by decide) rfl ?_)
 refine .inl ⟨_,zJQ (n:=14) hl1 (by decide),?_⟩;refine .inl ⟨_,hA,?_⟩;refine Wsem.seqS (Wsem.regionIx ttok rfl rfl rfl Tryz.underlying54 Tryz.sizeOf22 (by decide) (by decide) rfl ?_);refine .inl ⟨_,zJQ (n:=14) hl2 (by decide),?_⟩;refine .inl ⟨_,hB,?_⟩;refine Wsem.cut {vs:=[(7,.v (str x)),(8,.v (str y)),(9,.box 0 (eC c)),(10,.box 0 (eC a)),(11,.box 0 (eC b))]} ⟨⟨rfl,rfl,rfl,rfl,rfl,trivial⟩,trivial,rfl⟩ ?_;have done:x≠y->x∉b.fv->Wsem Tryz.prog (qO (qO (qO (qO (qO (qO (qO (bodyC Tryz.f7)))))))) (mkC {vs:=[(7,.v (str x)),(8,.v (str y)),(9,.box 0 (eC c)),(10,.box 0 (eC a)),(11,.box 0 (eC b))]})
   (fun c2=>zDS tt Tryz.f7.results.toList (.sb true) (den c2)) (fun _ _=>False) (fun c2=>zDS tt Tryz.f7.results.toList (.sb true) (den c2)):=fun hxy hx=>by
  refine Wsem.seq ttok mixed ?_;refine .inl ⟨_,u1,?_⟩;refine .inl ⟨_,u2,?_⟩;refine⟨by kernel_rfl,?_⟩;refine Wsem.cut {vs:=[(7,.v (str x)),(8,.v (str y)),(9,.box 0 (eC c)),(10,.box 0 (eC a)),(11,.box 0 (eC b)),(12,.box 0 (eC p))]} ⟨⟨rfl,rfl,rfl,rfl,rfl,rfl,trivial⟩,trivial,rfl⟩ ?_;refine Wsem.seq ttok mixed ?_;refine .inl ⟨_,u3,?_⟩;refine .inl ⟨_,u4,?_⟩;refine .inl ⟨_,u5,?_⟩;refine⟨by kernel_rfl,?_⟩;refine Wsem.cut {vs:=[(12,.box 0 (eC p)),(13,.box 0 (eC q))]} ⟨⟨rfl,rfl,trivial⟩,trivial,rfl⟩ ?_;refine Wsem.of ttok mixed ?_;refine .inl ⟨_,hSame hxy hx,?_⟩;refine⟨fun _=>?_,fun h=>absurd h (by decide)⟩;refine .inl ⟨_,zKK,?_⟩;exact rfl
 refine Wsem.seq ttok mixed ?_;refine⟨fun h=>?_,fun h=>?_⟩
 ·have hxy:x≠y:=of_decide_eq_false h;refine .inl ⟨_,hFr,?_⟩;refine .inl ⟨_,hHas,?_⟩;refine⟨fun h2=>?_,fun h2=>?_⟩
  ·refine .inl ⟨_,zA3 x,?_⟩;refine .inl ⟨_,u0,?_⟩;refine .inl ⟨_,hSame0,?_⟩;refine⟨fun _=>?_,fun h=>absurd h (by decide)⟩;refine .inl ⟨_,zKK,?_⟩;refine⟨by kernel_rfl,?_⟩;exact rfl
  ·have hx:x∉b.fv:=fun hm=>by rw[memb_iff.2 hm] at h2;cases h2
   refine Wsem.cut _ ?_ (done hxy hx);exact⟨⟨rfl,rfl,rfl,rfl,rfl,trivial⟩,trivial,rfl⟩
 ·refine .inl ⟨_,zA3 x,?_⟩;refine .inl ⟨_,u0,?_⟩;refine .inl ⟨_,hSame0,?_⟩;refine⟨fun _=>?_,fun h=>absurd h (by decide)⟩;refine .inl ⟨_,zKK,?_⟩;refine⟨by kernel_rfl,?_⟩;exact rfl
end Go.Proofs.YtgonkhaebmfgiaaGreatDoor
