/- same: from the types on. No condition but on lengths. -/
import Derived.Test.YtdmbahepaglcbaaGreatDoorX
import Derived.Test.YtdmbahepaglcbaaGreatDoorO
import Derived.Test.YtdmbahepaglcbaaGreatDoorB
set_option linter.unusedSimpArgs false
set_option linter.unusedVariables false
namespace Go.Proofs.YtdmbahepaglcbaaGreatDoor
open Go Fp
set_option maxRecDepth 10000
set_option maxHeartbeats 16000000
set_option linter.unusedVariables false
section
variable {φ:Cr->Cr} {τ:Tp->Tp} {ν:ByteArray->ByteArray} {α:List ByteArray->Cr->List ByteArray×Cr}
end
def zb:Db->Nat
 | .app a b=>1+zb a+zb b
 | .all a=>1+zb a
 | _=>1
theorem zG3 (t:Tp):∀e,zb (db t e)=t.sz:=by
 induction t with
 | app a b iha ihb=>intro e;simp only[db,zb,Tp.sz,iha,ihb]
 | all s a ih=>intro e;simp only[db,zb,Tp.sz,ih]
 | var s=>intro e;simp only[db,Tp.sz];split<;>rfl
 | _=>intro e;rfl
section
variable {c b:Cr} {x:ByteArray} (hc:Sm c) (hb:Sm b)
include hc hb
end
set_option linter.unusedSimpArgs false
def GdD (K:Nat):Db->Prop
 | .no=>False
 | .mt n => ∃k:Nat,n=(k:Int)/\k<10
 | .bv _=>True
 | .fr s=>s.size<=K
 | .con s=>s.size<=K
 | .app a b=>GdD K a/\GdD K b
 | .all a=>GdD K a
theorem zU6 (x:Db):1<=zb x:=by cases x<;>simp only[zb]<;>omega
theorem zdU (own:List ByteArray) (x:Db):∀k,zb (mnD own k x)=zb x:=by
 induction x with
 | bv i=>intro k;simp only[mnD];split<;>rfl
 | app a b iha ihb=>intro k;simp only[mnD,zb,iha,ihb]
 | all a ih=>intro k;simp only[mnD,zb,ih]
 | _=>intro k;rfl
theorem zd9 {K:Nat} {own:List ByteArray} (ho:∀o∈own,o.size<=K) (x:Db):∀k,GdD K x->GdD K (mnD own k x):=by
 induction x with
 | bv i =>
  intro k _;simp only[mnD];split
  ·trivial
  ·show (own.getD (i-k) .empty).size<=K;rw[List.getD_eq_getElem?_getD];cases h:own[i-k]? with
   | none=>exact Nat.zero_le _
   | some o=>exact ho o (List.mem_of_getElem? h)
 | app a b iha ihb=>intro k h;exact⟨iha k h.1,ihb k h.2⟩
 | all a ih=>intro k h;exact ih (k+1) h
 | _=>intro k h;exact h
theorem zdR (u x:Db):∀k,zb (inD u k x)<=zb x*zb u:=by
 have hu:=zU6 u;induction x with
 | bv i=>intro k;simp only[inD];split<;>simp only[zb,Nat.one_mul]<;>omega
 | app a b iha ihb =>
  intro k;have h1:=iha k;have h2:=ihb k;simp only[inD,zb,Nat.add_mul,Nat.one_mul];omega
 | all a ih =>
  intro k;have h1:=ih (k+1);simp only[inD,zb,Nat.add_mul,Nat.one_mul];omega
 | _=>intro k;simp only[inD,zb,Nat.one_mul];omega
theorem zd8 {K:Nat} {u:Db} (hu:GdD K u) (x:Db):∀k,GdD K x->GdD K (inD u k x):=by
 induction x with
 | bv i=>intro k _;simp only[inD];split;exact hu;trivial
 | app a b iha ihb=>intro k h;exact⟨iha k h.1,ihb k h.2⟩
 | all a ih=>intro k h;exact ih (k+1) h
 | _=>intro k h;exact h
theorem zeS (o:ByteArray) (x:Db):∀k,zb (abD o k x)=zb x:=by
 induction x with
 | fr s=>intro k;simp only[abD];split<;>rfl
 | app a b iha ihb=>intro k;simp only[abD,zb,iha,ihb]
 | all a ih=>intro k;simp only[abD,zb,ih]
 | _=>intro k;rfl
theorem zeG {K:Nat} (o:ByteArray) (x:Db):∀k,GdD K x->GdD K (abD o k x):=by
 induction x with
 | fr s=>intro k h;simp only[abD];split;trivial;exact h
 | app a b iha ihb=>intro k h;exact⟨iha k h.1,ihb k h.2⟩
 | all a ih=>intro k h;exact ih (k+1) h
 | _=>intro k h;exact h
theorem zZL {s:ByteArray} (h:s∈xY):s.size<=20:=by
 simp only[xY,List.mem_cons,List.not_mem_nil,or_false] at h;rcases h with rfl|rfl|rfl|rfl<;>decide
theorem zZC {s:ByteArray} (h:s∈jD):s.size<=20:=by
 simp only[jD,List.mem_cons,List.not_mem_nil,or_false] at h;rcases h with rfl|rfl|rfl|rfl|rfl|rfl<;>decide
theorem zX3 (t:Tp):∀e,good t->GdD 20 (db t e):=by
 induction t with
 | no=>intro e h;exact h
 | mt n=>intro e h;exact h
 | con s=>intro e h;exact zZC h
 | var s =>
  intro e h;rcases qN s e with⟨_,h2⟩|⟨_,h2⟩<;>rw[h2]
  ·trivial
  ·exact zZL h
 | app a b iha ihb=>intro e h;exact⟨iha e h.1,ihb e h.2⟩
 | all s a ih=>intro e h;exact ih _ h.2
theorem zTK {x p q:Db} (h:zCM x=some (p,q)):x=fnD p q:=by
 unfold zCM at h;split at h
 ·split at h
  ·rename_i s a b hs;cases h
   rw[hs]
  ·cases h
 ·cases h
theorem zYA (a:Nat):a+1<=2 ^ (a / 32+5):=by
 have h1:a / 32<2 ^ (a / 32):=Nat.lt_two_pow_self;rw[Nat.pow_add];have:a=32*(a / 32)+a % 32:=(Nat.div_add_mod a 32).symm;have:=Nat.mod_lt a (show 0<32 by decide);omega
theorem grow (a m M k:Nat) (hM:1+a+m<=M) (hk:0<k):(a+1)*2 ^ (m / 32+5*(k-1))<=2 ^ (M / 32+5*k):=by
 refine Nat.le_trans (Nat.mul_le_mul_right _ (zYA a)) ?_;rw[<-Nat.pow_add];refine Nat.pow_le_pow_right (by decide) ?_;have:a / 32+m / 32<=M / 32:=by omega
 omega
theorem za0 {d:Nat} (h:d<100):(jM d).size<=8:=by
 have:=xP 2 d (by omega) (by decide);unfold jM;rw[ByteArray.size_append];show 1+_<=8;omega
theorem zZX {s:ByteArray} {r:Tp} (h:zCG s=some r):r = .con xU∨r = .con zDG:=by
 unfold zCG at h;split at h
 ·cases h;exact .inl rfl
 ·split at h
  ·cases h;exact .inr rfl
  ·cases h
structure WB (S:Nat) (W:DW):Prop where
 bn:∀x∈W.bn,GdD 20 x/\zb x<=S
 nm:∀s x,W.nm s=some x->GdD 20 x/\zb x<=S
 fs:∀f∈W.fs,GdD 20 (db f.t [])/\f.t.sz<=20
 own:∀o∈W.own,o.size<=20
theorem WB.mono {S S':Nat} {W:DW} (h:WB S W) (hs:S<=S'):WB S' W:=⟨fun x hx=>⟨(h.bn x hx).1,Nat.le_trans (h.bn x hx).2 hs⟩,fun s x hx=>⟨(h.nm s x hx).1,Nat.le_trans (h.nm s x hx).2 hs⟩,h.fs,h.own⟩
theorem WB.mores {S:Nat} {W:DW} (h:WB S W) {l:List Db} (hl:∀x∈l,GdD 20 x/\zb x<=S):WB S (W.mores l) :=
 ⟨fun x hx=>(List.mem_append.1 hx).elim (fun q=>hl x (List.mem_reverse.1 q)) (h.bn x),h.nm,h.fs,h.own⟩
theorem WB.all {S:Nat} {W:DW} (h:WB S W) (hd:W.deep<100):WB S W.all :=
 ⟨h.bn,h.nm,h.fs,fun o ho=>by
  rcases List.mem_cons.1 ho with rfl|ho
  ·have:=za0 (d:=W.deep) hd;omega
  ·exact h.own o ho⟩
abbrev IHs (N:Nat):Prop := ∀c:Cr,c.sz<=N->c.isN=true->c.Ok->c.Pk->∀k,c.Dk k->∀(e d:List ByteArray) (W:DW) (S:Nat),32<=S->W.deep+k<=90->WB S W->∀T,tyD (dbc c e d) W=some T->GdD 20 T/\zb T<=S*2 ^ (c.wt / 32+5*k)
theorem Pk.kid {g:Cr} (h:g.isN=false) (ho:g.Ok) (hk:g.Pk):∀p∈g.kids,p.Pk:=by
 induction g with
 | nil=>intro p hp;cases hp
 | node=>cases h
 | kid q r _ ih =>
  intro p hp;rcases List.mem_cons.1 hp with rfl|hp
  ·exact hk.1
  ·exact ih ho.2.1 ho.2.2.2 hk.2 p hp
 | bind x t q r _ ih=>intro p hp;exact ih ho.2.1 ho.2.2.2.2 hk.2.2.2 p hp
 | alt f n s vs q r _ ih=>intro p hp;exact ih ho.2.1 ho.2.2.2.2.2.2 hk.2.2.2.2.2 p hp
theorem Pk.bindT {g:Cr} (h:g.isN=false) (ho:g.Ok) (hk:g.Pk):∀b∈g.binds,good b.2.1:=by
 induction g with
 | nil=>intro p hp;cases hp
 | node=>cases h
 | kid q r _ ih=>intro p hp;exact ih ho.2.1 ho.2.2.2 hk.2 p hp
 | bind x t q r _ ih =>
  intro p hp;rcases List.mem_cons.1 hp with rfl|hp
  ·exact hk.2.1
  ·exact ih ho.2.1 ho.2.2.2.2 hk.2.2.2 p hp
 | alt f n s vs q r _ ih=>intro p hp;exact ih ho.2.1 ho.2.2.2.2.2.2 hk.2.2.2.2.2 p hp
theorem zRH (S n:Nat):S<=S*2 ^ n:=Nat.le_mul_of_pos_right S (Nat.two_pow_pos n)
theorem z4G:GdD 20 (.con xU):=Nat.le_of_ble_eq_true rfl
theorem z9Y:GdD 20 (.con zDG):=Nat.le_of_ble_eq_true rfl
theorem z8J:GdD 20 (.con arrow):=Nat.le_of_ble_eq_true rfl
theorem z5B (N:Nat):IHs N:=by
 induction N with
 | zero=>intro c hs hn;cases c<;>simp[Cr.isN,Cr.sz] at hn hs
 | succ N ih =>
  intro c hs hn ho hp k hk e d W S hS hde hW T hT;have hlen:∀x,GdD 20 x/\zb x<=S->GdD 20 x/\zb x<=S*2 ^ (c.wt / 32+5*k):=fun x h=>⟨h.1,Nat.le_trans h.2 (zRH _ _)⟩
  cases c with
  | node f n s t g =>
   obtain⟨l1,l2⟩:=zN ho;simp only[Cr.sz] at hs;have hgd:f=5∨f=6∨f=9∨f=11->good t:=fun hf=>hp.2.2.2.1.resolve_right (by omega);have hmn:∀t:Tp,good t->GdD 20 (W.mean (db t d))/\zb (W.mean (db t d))=t.sz:=fun t ht=>⟨zd9 hW.own _ _ (zX3 t d ht),by show zb (mnD _ _ _)=_;rw[zdU,zG3]⟩
   by_cases h1:f=1
   ·subst h1;have he:dbc (.node 1 n s t g) e d=if memb s e then .bv (ixN e s) else .fr s:=rfl
    rw[he] at hT;split at hT
    ·exact hlen T (hW.bn T (List.mem_of_getElem? hT))
    ·exact hlen T (hW.nm s T hT)
   have hz1:∀{p:Cr},p∈g.kids->p.sz<=N:=fun {p} hpm=>by
    have:=zBF hpm;rw[l1] at this;simp only[Bool.false_eq_true,if_false] at this;omega
   have hk0:g.kids≠[]->0<k:=fun h=>hk.1.resolve_left fun q=>h (by rw[q];rfl);rw[zDD h1] at hT;unfold zA2 at hT;by_cases h2:f=2
   ·rw[if_pos h2] at hT;obtain⟨fd,q1,q2⟩:=Option.map_eq_some_iff.1 hT;have:=hW.fs fd (List.mem_of_find?_eq_some q1);rw[<-q2];exact hlen _ ⟨this.1,by rw[zG3];omega⟩
   rw[if_neg h2] at hT;by_cases h3:f=3
   ·rw[if_pos h3] at hT;cases hT;exact hlen _ ⟨z4G,by simp only[zb];omega⟩
   rw[if_neg h3] at hT;by_cases h4:f=4
   ·subst h4;rw[if_pos rfl,qX l1 l2] at hT;obtain⟨p,q,rfl⟩:=zQ8 l1 l2 ho.2.2.2.1 (jI ho (by decide)) (zBB ho (by decide));simp only[Cr.kids,List.map_cons,List.map_nil] at hT;have hkp:=hk0 (by simp[Cr.kids]);rw[if_neg (by decide)] at hT;cases ha:tyD (dbc p ((Cr.node 4 n s t (.kid p (.kid q .nil))).names0.reverse++e) d) W with
    | none=>rw[ha] at hT;cases hT
    | some x =>
     rw[ha] at hT;simp only at hT;obtain⟨i1,i2⟩:=ih p (hz1 (by simp[Cr.kids])) ho.2.2.2.2.2.2.2.1 ho.2.2.2.2.2.2.2.2.2.1 hp.2.2.2.2.1 (k-1) hk.2.1 _ _ W S hS (by omega) hW x ha;split at hT
     ·cases hT
     ·split at hT
      ·cases hT
      ·rename_i a b hab;split at hT
       ·cases hT
        have:=zTK hab;subst this;refine⟨i1.2,?_⟩;have h5:=grow t.sz p.wt (Cr.node 4 n s t (.kid p (.kid q .nil))).wt k (by simp only[Cr.wt];omega) hkp;have h6:zb T<=zb (fnD a T):=by simp only[zb];omega
        refine Nat.le_trans h6 (Nat.le_trans i2 (Nat.mul_le_mul_left S (Nat.le_trans ?_ h5)));exact Nat.le_mul_of_pos_left _ (Nat.succ_pos _)
       ·cases hT
   rw[if_neg h4] at hT;by_cases h5:f=5
   ·subst h5;rw[if_pos rfl,qX l1 l2] at hT;obtain⟨p,rfl,hp1,hp2⟩:=qR l1 l2 ho.2.2.2.1 (jI ho (by decide)) (zBB ho (by decide));simp only[Cr.kids,List.map_cons,List.map_nil] at hT;have hkp:=hk0 (by simp[Cr.kids]);rw[if_neg (by decide)] at hT;obtain⟨u,q1,q2⟩:=Option.map_eq_some_iff.1 hT;obtain⟨m1,m2⟩:=hmn t (hgd (.inl rfl));have ha:1<=t.sz:=by rw[<-m2];exact zU6 _
    obtain⟨i1,i2⟩:=ih p (hz1 (by simp[Cr.kids])) hp1 hp2 hp.2.2.2.2.1 (k-1) hk.2.1 _ _ _ (max S t.sz) (by omega) (by show W.deep+(k-1)<=90;omega) ((hW.mono (Nat.le_max_left S t.sz)).mores (fun x hx=>by rw[List.mem_singleton.1 hx];exact⟨m1,by omega⟩)) u q1;subst q2;refine⟨⟨⟨z8J,m1⟩,i1⟩,?_⟩;have hgr:=grow t.sz p.wt (Cr.node 5 n s t (.kid p .nil)).wt k (by simp only[Cr.wt];omega) hkp;refine Nat.le_trans ?_ (Nat.mul_le_mul_left S hgr);have hF:1<=2 ^ (p.wt / 32+5*(k-1)):=Nat.two_pow_pos _;obtain⟨F,hFe⟩:∃F,F=2 ^ (p.wt / 32+5*(k-1)):=⟨_,rfl⟩
    rw[<-hFe] at i2 hF⊢;simp only[zb];rw[m2];have e1:S*((t.sz+1)*F)=t.sz*(S*F)+S*F:=by rw[Nat.add_mul,Nat.one_mul,Nat.mul_add,Nat.mul_left_comm]
    rw[e1];have x1:32*F<=S*F:=Nat.mul_le_mul_right F hS;rcases Nat.le_total t.sz S with hle|hle
    ·rw[Nat.max_eq_left hle] at i2;have x2:t.sz*32<=t.sz*(S*F):=Nat.mul_le_mul_left _ (by omega);omega
    ·rw[Nat.max_eq_right hle] at i2;have x2:t.sz*(32*F)<=t.sz*(S*F):=Nat.mul_le_mul_left _ x1;have x3:t.sz*(32*F)=32*(t.sz*F):=Nat.mul_left_comm _ _ _;have x4:t.sz*1<=t.sz*F:=Nat.mul_le_mul_left _ hF;omega
   rw[if_neg h5] at hT;by_cases h6:f=6
   ·subst h6;rw[if_pos rfl,qX l1 l2] at hT;obtain⟨p,rfl,hp1,hp2⟩:=qR l1 l2 ho.2.2.2.1 (jI ho (by decide)) (zBB ho (by decide));simp only[Cr.kids,List.map_cons,List.map_nil] at hT;have hkp:=hk0 (by simp[Cr.kids]);rw[if_neg (by decide)] at hT;cases ha:tyD (dbc p ((Cr.node 6 n s t (.kid p .nil)).names0.reverse++e) d) W with
    | none=>rw[ha] at hT;cases hT
    | some x =>
     rw[ha] at hT;obtain⟨m1,m2⟩:=hmn t (hgd (.inr (.inl rfl)));obtain⟨i1,i2⟩:=ih p (hz1 (by simp[Cr.kids])) hp1 hp2 hp.2.2.2.2.1 (k-1) hk.2.1 _ _ W S hS (by omega) hW x ha;cases x with
     | all x =>
      simp only at hT;cases hT
      refine⟨zd8 m1 x 0 i1,?_⟩;have hgr:=grow t.sz p.wt (Cr.node 6 n s t (.kid p .nil)).wt k (by simp only[Cr.wt];omega) hkp;refine Nat.le_trans (zdR _ x 0) (Nat.le_trans ?_ (Nat.mul_le_mul_left S hgr));rw[m2];simp only[zb] at i2;have x1:zb x*t.sz<=(S*2 ^ (p.wt / 32+5*(k-1)))*(t.sz+1):=Nat.mul_le_mul (by omega) (Nat.le_succ _);rw[Nat.mul_comm (t.sz+1),<-Nat.mul_assoc];exact x1
     | _=>simp only at hT;cases hT
   rw[if_neg h6] at hT;by_cases h7:f=7
   ·subst h7;rw[if_pos rfl,qX l1 l2] at hT;obtain⟨p,rfl,hp1,hp2⟩:=qR l1 l2 ho.2.2.2.1 (jI ho (by decide)) (zBB ho (by decide));simp only[Cr.kids,List.map_cons,List.map_nil] at hT;have hkp:=hk0 (by simp[Cr.kids]);obtain⟨u,q1,q2⟩:=Option.map_eq_some_iff.1 hT;obtain⟨i1,i2⟩:=ih p (hz1 (by simp[Cr.kids])) hp1 hp2 hp.2.2.2.2.1 (k-1) hk.2.1 _ _ W.all S hS (by show W.deep+1+(k-1)<=90;omega) (hW.all (by omega)) u q1;subst q2;refine⟨zeG _ u 0 i1,?_⟩;have ha:1<=t.sz:=by rw[<-zG3 t []];exact zU6 _
    have hgr:=grow t.sz p.wt (Cr.node 7 n s t (.kid p .nil)).wt k (by simp only[Cr.wt];omega) hkp;refine Nat.le_trans ?_ (Nat.mul_le_mul_left S hgr);simp only[zb];rw[zeS];have x0:1<=S*2 ^ (p.wt / 32+5*(k-1)):=Nat.le_trans (by omega) (zRH S _);have x1:S*2 ^ (p.wt / 32+5*(k-1))*2<=S*2 ^ (p.wt / 32+5*(k-1))*(t.sz+1):=Nat.mul_le_mul_left _ (by omega);rw[Nat.mul_comm (t.sz+1),<-Nat.mul_assoc];omega
   rw[if_neg h7] at hT;by_cases h8:f=8
   ·subst h8;rw[if_pos rfl,qX l1 l2,zX6 l1 l2] at hT;obtain⟨p,hkd⟩:∃p,g.kids=[p]:=zHQ ho.2.2.2.1;have hpm:p∈g.kids:=by rw[hkd];simp
    have hkp:=hk0 (by rw[hkd];simp);rw[hkd,if_neg (by decide)] at hT;simp only[List.map_cons,List.map_nil] at hT;split at hT
    ·obtain⟨i1,i2⟩:=ih p (hz1 hpm) (l2.kid hpm).1 (l2.kid hpm).2 (Pk.kid l1 l2 hp.2.2.2.2 p hpm) (k-1) (Dk.kid l1 l2 hk.2 p hpm) _ _ _ (max S (aB g)) (by omega) (by show W.deep+(k-1)<=90;omega) ((hW.mono (Nat.le_max_left S (aB g))).mores (fun x hx=>by
      rw[List.map_map] at hx;obtain⟨c,hc,rfl⟩:=List.mem_map.1 hx;have:=(zQN l1 l2 c hc).2;obtain⟨m1,m2⟩:=hmn c.2.1 (Pk.bindT l1 l2 hp.2.2.2.2 c hc);exact⟨m1,by show zb (W.mean (db c.2.1 d))<=_;rw[m2];omega⟩)) T hT
     refine⟨i1,?_⟩;have hw:=zc4 l1 l2 p hpm;have hgr:=grow (aB g) p.wt (Cr.node 8 n s t g).wt k (by simp only[Cr.wt];omega) hkp;refine Nat.le_trans (Nat.le_trans i2 ?_) (Nat.mul_le_mul_left S hgr);rw[<-Nat.mul_assoc];refine Nat.mul_le_mul_right _ ?_;have x1:S*1<=S*(aB g+1):=Nat.mul_le_mul_left _ (by omega);have x2:1*(aB g+1)<=S*(aB g+1):=Nat.mul_le_mul_right _ (by omega);omega
    ·cases hT
   rw[if_neg h8] at hT;by_cases h9:f=9
   ·subst h9;rw[if_pos rfl,qX l1 l2,zXC l1 l2] at hT;obtain⟨p,hkd⟩:∃p,g.kids=[p]:=zHQ ho.2.2.2.1;have hkp:=hk0 (by rw[hkd];simp);rw[hkd,if_neg (by decide)] at hT;simp only[List.map_cons,List.map_nil] at hT;obtain⟨m1,m2⟩:=hmn t (hgd (.inr (.inr (.inl rfl))));have hgr:=grow t.sz 0 (Cr.node 9 n s t g).wt k (by simp only[Cr.wt];omega) hkp;have x1:t.sz+1<=(t.sz+1)*2 ^ (0 / 32+5*(k-1)):=zRH _ _;split at hT
    ·cases hT
    ·split at hT
     ·cases hT
      refine⟨m1,?_⟩;rw[m2];exact Nat.le_trans (by omega) (Nat.le_trans (Nat.le_trans x1 hgr) (Nat.le_mul_of_pos_left _ (by omega)))
     ·cases hT
   rw[if_neg h9] at hT;by_cases h10:f=10
   ·rw[if_pos h10] at hT;have hone:GdD 20 T/\zb T=1:=by
     split at hT
     ·split at hT
      ·obtain⟨r,q1,q2⟩:=Option.map_eq_some_iff.1 hT;subst q2;rcases zZX q1 with rfl|rfl
       ·exact⟨z4G,rfl⟩
       ·exact⟨z9Y,rfl⟩
      ·cases hT
     ·cases hT
    exact hlen T ⟨hone.1,by rw[hone.2];omega⟩
   rw[if_neg h10] at hT;by_cases h11:f=11
   ·subst h11;rw[if_pos rfl,if_neg (by decide)] at hT;cases hT
    obtain⟨m1,m2⟩:=hmn t (hgd (.inr (.inr (.inr rfl))));refine⟨m1,?_⟩;rw[m2];have h1:=zYA t.sz;rw[Nat.pow_add,Nat.mul_comm] at h1;have h2:2 ^ (t.sz / 32)<=2 ^ ((Cr.node 11 n s t g).wt / 32+5*k):=Nat.pow_le_pow_right (by decide) (by simp only[Cr.wt];omega);have h3:2 ^ 5*2 ^ (t.sz / 32)<=S*2 ^ ((Cr.node 11 n s t g).wt / 32+5*k):=Nat.mul_le_mul hS h2;omega
   ·rw[if_neg h11] at hT;cases hT
  | _=>cases hn
theorem z8O {c:Cr} (hn:c.isN=true) (ho:c.Ok):c.kids.length=Cr.nk c.f:=by
 cases c with
 | node f n s t g=>exact ho.2.2.2.1
 | _=>cases hn
theorem zCA {c:Cr} (hn:c.isN=true) (ho:c.Ok):zF Tryz.prog zIE [eC c] (.sb false):=by
 have hk:=z8O hn ho;have hl:(c.e3 0).length=Cr.nk c.f:=by rw[zFU,hk]
 refine yX ttok mixed Tryz.func81 rfl (by rfl) (Nat.le_of_ble_eq_true rfl) (by kernel_rfl) ?_;refine Wsem.seq ttok mixed ?_;refine Wsem.seq ttok mixed ?_;refine Wsem.cut {vs:=[(1,.box 0 (eC c)),(3,sv (Cr.nk c.f:Nat))]} ⟨⟨rfl,svc (by rw[hl]),trivial⟩,trivial,rfl⟩ ?_;refine Wsem.seq ttok mixed ?_;refine⟨fun h4=>?_,fun h4=>?_⟩
 ·have h4:¬c.f=4:=of_decide_eq_false h4;refine⟨fun h10=>?_,fun h10=>?_⟩
  ·have h10:c.f=10:=of_decide_eq_true h10;rw[show Cr.nk c.f=2 by rw[h10];rfl];exact rfl
  ·have h10:¬c.f=10:=of_decide_eq_false h10;refine Wsem.cut {vs:=[(1,.box 0 (eC c)),(3,sv (Cr.nk c.f:Nat))]} ⟨⟨rfl,rfl,trivial⟩,trivial,rfl⟩ ?_;have yes:(c.f=5∨c.f=6∨c.f=7∨c.f=8∨c.f=9)->Cr.nk c.f=1:=fun h=>by unfold Cr.nk;rw[if_neg (by omega),if_pos h]
   have tail:∀b:Bool,(b=true->Cr.nk c.f=1)->Wsem Tryz.prog (sn4 (bodyC Tryz.f81)) (mkC {vs:=[(3,sv (Cr.nk c.f:Nat)),(4,.v (.sb b))]}) (fun c2=>zOG tt Tryz.f81.results.toList (.sb false) (den c2)) (fun _ _=>False) (fun c2=>zOG tt Tryz.f81.results.toList (.sb false) (den c2)):=by
    intro b hb;refine Wsem.of ttok mixed ?_;refine⟨fun h=>?_,fun h=>?_⟩
    ·rw[hb h];exact rfl
    ·exact rfl
   refine Wsem.seq ttok mixed ?_;refine⟨fun h5=>?_,fun h5=>?_⟩
   ·refine⟨fun h6=>?_,fun h6=>?_⟩
    ·refine⟨fun h7=>?_,fun h7=>?_⟩
     ·refine⟨fun h8=>?_,fun h8=>?_⟩
      ·refine Wsem.cut _ ?_ (tail (decide (c.f=9)) fun h=>yes (.inr (.inr (.inr (.inr (of_decide_eq_true h))))));exact⟨⟨rfl,rfl,trivial⟩,trivial,rfl⟩
      ·refine Wsem.cut _ ?_ (tail true fun _=>yes (.inr (.inr (.inr (.inl (of_decide_eq_true h8))))));exact⟨⟨rfl,rfl,trivial⟩,trivial,rfl⟩
     ·refine Wsem.cut _ ?_ (tail true fun _=>yes (.inr (.inr (.inl (of_decide_eq_true h7)))));exact⟨⟨rfl,rfl,trivial⟩,trivial,rfl⟩
    ·refine Wsem.cut _ ?_ (tail true fun _=>yes (.inr (.inl (of_decide_eq_true h6))));exact⟨⟨rfl,rfl,trivial⟩,trivial,rfl⟩
   ·refine Wsem.cut _ ?_ (tail true fun _=>yes (.inl (of_decide_eq_true h5)));exact⟨⟨rfl,rfl,trivial⟩,trivial,rfl⟩
 ·have h4:c.f=4:=of_decide_eq_true h4;rw[show Cr.nk c.f=2 by rw[h4];rfl];exact rfl
abbrev zZV (l g out:List ByteArray):Prop:=CallsG Tryz.prog (fnv zHK) [] [.sl (eSs l),.sl (eSs g),.sl (eSs out)] [0,0,2] fun r o h=>r = .sl (eSs (zC (fun y=>memb y g) out l))/\o=2/\h=[]
theorem zNA (l g out:List ByteArray) (ho:out.length<=2000000) (hl:l.length<=2000000) (hg:g.length<=2000000):zZV l g out:=by
 refine xM ttok mixed Tryz.func146 rfl (by rfl) (by rfl) (Nat.le_of_ble_eq_true rfl) (Nat.le_of_ble_eq_true rfl) (by kernel_rfl) ?_;refine⟨{k:Nat // k<=l.length},fun k=>{vs:=[(0,.v (.sl (eSs l))),(1,.v (.sl (eSs g))),(2,.v (.sl (eSs (zC (fun y=>memb y g) out (l.take k.1))))),(7,sv (k.1:Nat))],ow:=[(2,0,2)]},
  fun k=>l.length-k.1,⟨0,Nat.zero_le _⟩,⟨⟨rfl,rfl,rfl,rfl,trivial⟩,⟨rfl,trivial⟩,rfl⟩,?_⟩
 rintro⟨k,hk⟩;have hlen:=zM (fun y=>memb y g) (l.take k) out;have hlk:(l.take k).length<=l.length:=by simp;omega
 refine⟨fun h=>?_,fun h=>?_⟩
 ·have h:k<l.length:=by have h:=of_decide_eq_true h;rw[zB5] at h;simp only at h;omega
  have e1:=zKD (p:=fun y=>memb y g) (out:=out) h;refine⟨_,by omega,zEK h,rfl,?_⟩;refine .inl ⟨_,wK (l:=g) (s:=l[k]) (by omega),?_⟩;refine⟨fun h1=>?_,fun h1=>?_⟩
  ·have h1:memb l[k] g=false:=by simpa using h1
   refine⟨_,by omega,zEK h,rfl,?_⟩;refine .inl ⟨_,wK (l:=zC (fun y=>memb y g) out (l.take k)) (s:=l[k]) (by omega),?_⟩;refine⟨fun h2=>?_,fun h2=>?_⟩
   ·have h2:memb l[k] (zC (fun y=>memb y g) out (l.take k))=false:=by simpa using h2
    refine⟨_,by omega,zEK h,rfl,?_⟩;refine⟨by show (eSs (zC (fun y=>memb y g) out (l.take k))).length+1<=_;rw[zB5];omega,yP _,jF rfl,?_⟩;refine⟨⟨k+1,h⟩,by simp;omega,⟨rfl,rfl,?_,svc (wrap_succ (k:=k) (by omega)),trivial⟩,⟨rfl,trivial⟩,rfl⟩;show SV.v (AV.sl (eSs (zC (fun y=>memb y g) out (l.take k))++[str l[k]]))=SV.v (AV.sl (eSs (zC (fun y=>memb y g) out (l.take (k+1)))));rw[e1,zKT h2 h1];simp[eSs]
   ·have h2:memb l[k] (zC (fun y=>memb y g) out (l.take k))=true:=by simpa using h2
    refine⟨⟨k+1,h⟩,by simp;omega,⟨rfl,rfl,?_,svc (wrap_succ (k:=k) (by omega)),trivial⟩,⟨rfl,trivial⟩,rfl⟩;show SV.v (AV.sl (eSs (zC (fun y=>memb y g) out (l.take k))))=SV.v (AV.sl (eSs (zC (fun y=>memb y g) out (l.take (k+1)))));rw[e1,zIH (.inl h2)]
  ·have h1:memb l[k] g=true:=by simpa using h1
   refine⟨⟨k+1,h⟩,by simp;omega,⟨rfl,rfl,?_,svc (wrap_succ (k:=k) (by omega)),trivial⟩,⟨rfl,trivial⟩,rfl⟩;show SV.v (AV.sl (eSs (zC (fun y=>memb y g) out (l.take k))))=SV.v (AV.sl (eSs (zC (fun y=>memb y g) out (l.take (k+1)))));rw[e1,zIH (.inr h1)]
 ·have h:k=l.length:=by have h:=of_decide_eq_false h;rw[zB5] at h;simp only at h;omega
  subst h;rw[List.take_length];exact⟨rfl,rfl,rfl⟩
theorem zJO (l:List ByteArray) (hl:l.length<1000000000) (hff:ff l<2599):zF Tryz.prog zGL [.sl (eSs l)] (str (lett (ff l))):=by
 refine zG ttok mixed Tryz.func85 rfl (by rfl) (Nat.le_of_ble_eq_true rfl) (by kernel_rfl) ?_;refine⟨{k:Nat // k<=ff l},fun k=>{vs:=[(0,.v (.sl (eSs l))),(3,sv (k.1:Nat))]},fun k=>ff l-k.1,⟨0,Nat.zero_le _⟩,⟨⟨rfl,rfl,trivial⟩,trivial,rfl⟩,?_⟩;rintro⟨k,hk⟩;refine .inl ⟨_,zA0 (n:=k) (by omega),?_⟩;refine .inl ⟨_,wK (l:=l) (s:=lett k) (by omega),?_⟩;refine⟨fun h=>?_,fun h=>?_⟩
 ·have hne:¬k=ff l:=fun he=>zBA l (he ▸ memb_iff.1 h);exact⟨⟨k+1,by omega⟩,by simp;omega,⟨rfl,svc (wrap_succ (k:=k) (by omega)),trivial⟩,trivial,rfl⟩
 ·have he:k=ff l:=by
   by_cases hlt:k<ff l
   ·have:=memb_iff.2 (zGV l k hlt);rw[this] at h;cases h
   ·omega
  subst he;refine .inl ⟨_,zA0 (n:=ff l) (by omega),?_⟩;exact rfl
theorem z5Q {c:Cr} {x z:ByteArray} (hn:c.isN=true) (ho:c.Ok) (hs:c.sz<=590) (hz:z∉c.fv) (e d:List ByteArray):dbc (sbF 590 c x (vr z)) (z::e) d=dbc c (x::e) d:=by
 rw[z3K 590 c x (vr z) (x::e) (z::e) d .fr ho hn (zIC _) rfl hs ?_,zNO];intro y hy;unfold wF;by_cases h:x=y
 ·refine .inl ⟨by rw[h];exact List.mem_cons_self,z,by rw[if_pos h],List.mem_cons_self,?_⟩;subst h;simp[ixN]
 ·have hzy:z≠y:=fun h2=>hz (h2 ▸ hy);by_cases he:y∈e
  ·refine .inl ⟨List.mem_cons_of_mem _ he,y,by rw[if_neg h],List.mem_cons_of_mem _ he,?_⟩;rw[zBC hzy,zBC h]
  ·refine .inr ⟨fun hm=>(List.mem_cons.1 hm).elim (fun h2=>h h2.symm) he,?_,?_,?_⟩
   ·rw[if_neg h,zJ5];intro w hw;rw[List.mem_singleton.1 hw];exact fun hm=>(List.mem_cons.1 hm).elim (fun h2=>hzy h2.symm) he
   ·rw[if_neg h,z1W];exact fun w hw=>absurd hw List.not_mem_nil
   ·rw[if_neg h,zGZ]
end Go.Proofs.YtdmbahepaglcbaaGreatDoor
