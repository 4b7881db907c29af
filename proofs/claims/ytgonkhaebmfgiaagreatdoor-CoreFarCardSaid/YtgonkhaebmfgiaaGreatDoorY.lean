/- A type put into core of few names, and ahead of or behind a name. Plain. No condition. -/
import Derived.Test.YtgonkhaebmfgiaaGreatDoorX
set_option linter.unusedSimpArgs false
set_option linter.unusedVariables false
namespace Go.Proofs.YtgonkhaebmfgiaaGreatDoor
open Go Fp
set_option maxRecDepth 10000
set_option maxHeartbeats 4000000
set_option linter.unusedVariables false
theorem z6H {R R':Tp->Prop} (k:Nat):∀(c:Cr) (v:ByteArray) (t:Tp),Wm c->c.TA R->c.sz<=k->(fvT t).length<=700->(∀u,R u->R' u)->(∀u,R u->R' (sub u [(v,t)]))->(∀u s z,Low 2000 z->R u->R (sub u [(s,.var z)]))->(stF k c v t).TA R':=by
 induction k with
 | zero=>intro c v t h _ hk;have:=wL h.n;omega
 | succ k ih =>
  intro c v t h hta hk ht h0 h1 h2;have hpart:=fun {d:Cr} {p:Pp} (hd:zU (zD c) p=some d)=>h.part hd;by_cases h7:c.f=7
  ·obtain⟨n,s,q,rfl⟩:=zUF h.ok h.n h7;obtain⟨hq,hqs⟩:=h.part (p := .kid 0) (d:=q) rfl;have hqk:q.sz<=k:=by omega
   have hqv:=hq.vw;have hqr:q.TA R:=hta.2.1;simp only[stF,if_true];split
   ·exact hta.mono h0
   ·split
    ·have hsub:=zK3 (l:=fvT t++(Cr.kid q .nil).tv) (m:=fvT t++q.tv) fun x hx=>by
      rcases List.mem_append.1 hx with hx|hx
      ·exact List.mem_append_left _ hx
      ·rcases mem_tv_kid.1 hx with hx|hx
       ·exact List.mem_append_right _ hx
       ·cases hx
     rw[List.length_append] at hsub;have hz:Low 2000 (lett (ff (fvT t++(Cr.kid q .nil).tv))):=⟨_,by omega,rfl⟩
     have w1:=Wm.st k hq s _ hqk hz;have w2:(stF k q s (.var (lett (ff (fvT t++(Cr.kid q .nil).tv))))).TA R:=by
      have key:∀(k:Nat) (c:Cr) (s z:ByteArray),Wm c->c.TA R->c.sz<=k->Low 2000 z->(stF k c s (.var z)).TA R:=by
       intro k;induction k with
       | zero=>intro c s z h _ hk;have:=wL h.n;omega
       | succ k ih =>
        intro c s z h hta hk hz;have hpart:=fun {d:Cr} {p:Pp} (hd:zU (zD c) p=some d)=>h.part hd;by_cases h7:c.f=7
        ·obtain⟨n,s',q,rfl⟩:=zUF h.ok h.n h7;obtain⟨hq,hqs⟩:=h.part (p := .kid 0) (d:=q) rfl;have hqk:q.sz<=k:=by omega
         have hqv:=hq.vw;simp only[stF,if_true];split
         ·exact hta
         ·split
          ·have hsub:=zK3 (l:=fvT (.var z)++(Cr.kid q .nil).tv) (m:=z::q.tv) fun x hx=>by
            rcases List.mem_append.1 hx with hx|hx
            ·have:x=z:=by simpa[fvT,fv] using hx
             rw[this];exact List.mem_cons_self
            ·rcases mem_tv_kid.1 hx with hx|hx
             ·exact List.mem_cons_of_mem _ hx
             ·cases hx
           rw[List.length_cons] at hsub;have hz2:Low 2000 (lett (ff (fvT (.var z)++(Cr.kid q .nil).tv))):=⟨_,by omega,rfl⟩
           exact⟨hta.1,ih _ s z (Wm.st k hq s' _ hqk hz2) (ih q s' _ hq hta.2.1 hqk hz2) (by rw[(xA k q s' _ hq.ok).1];exact hqk) hz,trivial⟩
          ·exact⟨hta.1,ih q s z hq hta.2.1 hqk hz,trivial⟩
        ·have hn:=h.n;have hok:=h.ok;cases c with
         | node f n y ty g =>
          have h7:¬f=7:=h7;obtain⟨hg,hgo⟩:=zY hok;obtain⟨k1,k2,k3⟩:=zKQ g hta.2;have e:stF (k+1) (.node f n y ty g) s (.var z) = .node f n y (sub ty [(s,.var z)]) (zZ (fun p=>stF k p s (.var z)) (fun u=>sub u [(s,.var z)]) id (fun vs p=>(vs,stF k p s (.var z))) g):=by simp only[stF];rw[if_neg h7]
          rw[e];refine⟨h2 _ s z hz hta.1,zBB g hg hgo (fun p hp=>?_) (fun b hb=>⟨h2 _ s z hz (zJQ g hta.2 b hb),?_⟩) (fun a ha=>?_)⟩
          ·obtain⟨j,hj,rfl⟩:=List.getElem_of_mem hp;obtain⟨h1,h2⟩:=hpart (p := .kid j) (d:=g.kids[j]) (List.getElem?_eq_getElem hj);exact ih _ s z h1 (k1 _ hp) (by omega) hz
          ·obtain⟨j,hj,rfl⟩:=List.getElem_of_mem hb;obtain⟨h1,h2⟩:=hpart (p := .bind j) (d:=g.binds[j].2.2) (by show (g.binds[j]?).map _=_;rw[List.getElem?_eq_getElem hj];rfl);exact ih _ s z h1 (k2 _ hb) (by omega) hz
          ·obtain⟨j,hj,rfl⟩:=List.getElem_of_mem ha;obtain⟨h1,h2⟩:=hpart (p := .alt j) (d:=g.alts[j].2.2) (by show (g.alts[j]?).map _=_;rw[List.getElem?_eq_getElem hj];rfl);exact ih _ s z h1 (k3 _ ha) (by omega) hz
         | _=>cases hn
      exact key k q s _ hq hqr hqk hz
     exact⟨h0 _ hta.1,ih _ v t w1 w2 (by rw[(xA k q s _ hq.ok).1];exact hqk) ht h0 h1 h2,trivial⟩
    ·exact⟨h0 _ hta.1,ih q v t hq hqr hqk ht h0 h1 h2,trivial⟩
  ·have hn:=h.n;have hok:=h.ok;cases c with
   | node f n y ty g =>
    have h7:¬f=7:=h7;obtain⟨hg,hgo⟩:=zY hok;obtain⟨k1,k2,k3⟩:=zKQ g hta.2;have e:stF (k+1) (.node f n y ty g) v t = .node f n y (sub ty [(v,t)]) (zZ (fun p=>stF k p v t) (fun u=>sub u [(v,t)]) id (fun vs p=>(vs,stF k p v t)) g):=by simp only[stF];rw[if_neg h7]
    rw[e];refine⟨h1 _ hta.1,zBB g hg hgo (fun p hp=>?_) (fun b hb=>⟨h1 _ (zJQ g hta.2 b hb),?_⟩) (fun a ha=>?_)⟩
    ·obtain⟨j,hj,rfl⟩:=List.getElem_of_mem hp;obtain⟨q1,q2⟩:=hpart (p := .kid j) (d:=g.kids[j]) (List.getElem?_eq_getElem hj);exact ih _ v t q1 (k1 _ hp) (by omega) ht h0 h1 h2
    ·obtain⟨j,hj,rfl⟩:=List.getElem_of_mem hb;obtain⟨q1,q2⟩:=hpart (p := .bind j) (d:=g.binds[j].2.2) (by show (g.binds[j]?).map _=_;rw[List.getElem?_eq_getElem hj];rfl);exact ih _ v t q1 (k2 _ hb) (by omega) ht h0 h1 h2
    ·obtain⟨j,hj,rfl⟩:=List.getElem_of_mem ha;obtain⟨q1,q2⟩:=hpart (p := .alt j) (d:=g.alts[j].2.2) (by show (g.alts[j]?).map _=_;rw[List.getElem?_eq_getElem hj];rfl);exact ih _ v t q1 (k3 _ ha) (by omega) ht h0 h1 h2
   | _=>cases hn
theorem zLW {M:Nat} (hM:1<=M) {φ:Cr->Cr} {τ:Tp->Tp} {ν:ByteArray->ByteArray} {α:List ByteArray->Cr->List ByteArray×Cr} (hφ:∀p:Cr,(φ p).tn<=p.tn*M) (hτ:∀t:Tp,(τ t).sz<=t.sz*M) (hα:∀(vs:List ByteArray) (p:Cr),(α vs p).2.tn<=p.tn*M) (g:Cr):(zZ φ τ ν α g).tn<=g.tn*M:=by
 induction g with
 | nil=>exact Nat.zero_le _
 | node f n s t g _=>exact Nat.le_mul_of_pos_right _ hM
 | kid p r _ ih=>have:=hφ p;simp only[zZ,Cr.tn,Nat.add_mul];omega
 | bind x t p r _ ih=>have:=hφ p;have:=hτ t;simp only[zZ,Cr.tn,Nat.add_mul];omega
 | alt f n s vs p r _ ih=>have:=hα vs p;simp only[zZ,Cr.tn,Nat.add_mul];omega
theorem z6T {M:Nat} (hM:1<=M) (k:Nat):∀(c:Cr) (v:ByteArray) (t:Tp),t.sz<=M->(stF k c v t).tn<=c.tn*M:=by
 have up:∀n:Nat,n<=n*M:=fun n=>Nat.le_mul_of_pos_right n hM;induction k with
 | zero=>intro c v t _;cases c<;>exact up _
 | succ k ih =>
  intro c v t ht;have hs:∀u:Tp,(sub u [(v,t)]).sz<=u.sz*M:=fun u=>zK2 hM u [(v,t)] (fun p hp=>by rw[List.mem_singleton.1 hp];exact ht);cases c with
  | node f n s ty g =>
   have e:(Cr.node f n s ty g).tn*M=ty.sz*M+g.tn*M:=Nat.add_mul _ _ _;rw[e];unfold stF;split
   ·split
    ·exact Nat.add_le_add (up _) (up _)
    ·split
     ·exact Nat.add_le_add (up _) (zLW hM (τ:=id) (ν:=id) (α:=Prod.mk) (fun p=>Nat.le_trans (ih _ _ _ ht) (Nat.mul_le_mul_right M (zT5 k _ _ _))) (fun t=>up _) (fun vs p=>up _) g)
     ·exact Nat.add_le_add (up _) (zLW hM (τ:=id) (ν:=id) (α:=Prod.mk) (fun p=>ih _ _ _ ht) (fun t=>up _) (fun vs p=>up _) g)
   ·exact Nat.add_le_add (hs _) (zLW hM (fun p=>ih _ _ _ ht) hs (fun vs p=>ih _ _ _ ht) g)
  | _=>exact up _
theorem Gt.ren {u:Tp} (h:Gt u) (s:ByteArray) {z:ByteArray} (hz:Low 2000 z):Gt (sub u [(s,.var z)]):=by
 obtain⟨h1,h2,h3⟩:=h;refine⟨(Ty5.ren (Gt.ty5 ⟨h1,h2,h3⟩) s hz).1,Nat.le_trans (zLA u s z) h2,Nat.le_trans (zG2 (l:=fv u) (s:=s) (z:=z) (wY _) fun x hx=>?_) h3⟩;rcases zOF hx with h|⟨h4,h5⟩
 ·exact .inl h
 ·exact .inr ⟨h4,by simpa[fv] using h5⟩
theorem Gt.put {u t:Tp} (h:Gt u) (ht:Gt t) (hts:t.sz<=81) (v:ByteArray):Ty5 (sub u [(v,t)]):=by
 obtain⟨h1,h2,h3⟩:=h;obtain⟨k1,k2,k3⟩:=ht;have d1:=zR8 u;have d2:=zR8 t;have hd:=zYH (D:=81) u [(v,t)] (fun p hp=>by rw[List.mem_singleton.1 hp];show dp t<=81;omega);have hs:=zK2 (M:=81) (by decide) u [(v,t)] (fun p hp=>by rw[List.mem_singleton.1 hp];exact hts);have hs2:=Nat.mul_le_mul_right 81 h2;have hf:=zO4 (l:=fv (sub u [(v,t)])) (a:=fv u) (b:=fv t) (wY _) fun x hx=>by
  rcases zOF hx with h|h
  ·exact .inl h.2
  ·exact .inr h.2
 refine⟨zP9 u _ h1 (fun p hp=>by rw[List.mem_singleton.1 hp];exact k1) ?_,by omega,by omega⟩;have e:(caught [(v,t)]).length=(fv t).length:=by simp[caught]
 rw[e];omega
theorem z5P {N:Nat} {c:Cr} (v:ByteArray) {t:Tp} (hc:Wm c) (nc:Nw c) (hg:c.TA Gt) (hk:c.sz<=N) (ht:Gt t) (hts:t.sz<=81) (hgood:∀y∈fv t,y∈xW) (htn:c.tn<=700) (hdc:dpC c<=690) :
  Wm (stF N c v t)/\Nw (stF N c v t):=by
 obtain⟨a1,a2,a3⟩:=xA N c v t hc.ok;have hd:=zLM N c v t;have hn:Nw (stF N c v t):=⟨fun y hy=>nc.fv y (by rw[a2] at hy;exact hy),fun y hy=>by
  rcases zTV hc.ok hc.n hk y hy with h|h
  ·exact nc.tv y h.2
  ·exact hgood y h.2⟩
 obtain⟨l1,l2⟩:=hn.len;have hfw:=hc.fw;have hvw:=hc.vw;have h1:=z6T (M:=81) (by decide) N c v t hts;have h2:=Nat.mul_le_mul_right 81 htn;have hta:=z6H (R:=Gt) (R':=Ty5) N c v t hc hg hk (by have:=ht.2.2;show (fv t).length<=700;omega) (fun u hu=>hu.ty5) (fun u hu=>hu.put ht hts v) (fun u s z hz hu=>hu.ren s hz);exact⟨⟨(zAU N c v t).trans hc.n,a3,zG1 N c v t hc.few,hta,by rw[a1];exact hc.sz,by omega,by rw[a2];omega,by omega⟩,hn⟩
theorem z7U {R:Tp->Prop} (hr:∀u s z,R u->R (sub u [(s,.var z)])) (h0:R .no) (k:Nat):∀(c:Cr) (x:ByteArray) (b:Cr),c.TA R->b.TA R->(sbF k c x b).TA R:=by
 induction k with
 | zero=>intro c x b h hb;cases c<;>exact h
 | succ k ih =>
  intro c x b h hb;have hren:=zCI (k:=k) (Q:=Cr.TA R) (fun c x z h=>ih c x (vr z) h ⟨h0,trivial⟩);cases c with
  | node f n s ty g =>
   have hα:∀(vs:List ByteArray) (p:Cr),p.TA R->(wE (fun rs p=>sbF k (rs.foldl (fun p q=>sbF k p q.1 (vr q.2)) p) x b) x b.fv vs p).2.TA R:=by
    intro vs p h2;unfold wE;split
    ·exact h2
    ·exact ih _ _ _ (hren _ _ h2) hb
   unfold sbF;split
   ·split
    ·exact hb
    ·exact h
   ·split
    ·split
     ·split
      ·exact⟨h.1,jX (fun _ h=>h) (fun p hp=>ih _ _ _ (zY0 k _ _ _ R R (fun _ h=>h) (fun u hu=>hr u _ _ hu) hr hp) hb) (fun t h=>h) (fun vs p h2=>h2) g h.2⟩
      ·exact⟨h.1,jX (fun _ h=>h) (fun p hp=>ih _ _ _ hp hb) (fun t h=>h) (fun vs p h2=>h2) g h.2⟩
     ·exact h
    ·split
     ·exact⟨h.1,jX (fun _ h=>h) (fun p hp=>hp) (fun t h=>h) hα g h.2⟩
     ·exact⟨h.1,jX (fun _ h=>h) (fun p hp=>ih _ _ _ (hren _ _ hp) hb) (fun t h=>h) hα g h.2⟩
  | _=>exact h
theorem z2R {N:Nat} {c b:Cr} {x v:ByteArray} {t:Tp} (hc:Wm c) (hb:Wm b) (k1:c.sz<=N) (k2:b.sz<=N) (k3:(sbF N c x b).sz<=N) (k4:(stF N c v t).sz<=N) :
  dbc (stF N (sbF N c x b) v t) [] []=dbc (sbF N (stF N c v t) x (stF N b v t)) [] []:=by
 obtain⟨q1,q2,_⟩:=qK N c x b hc.n hc.ok hb.n hb.ok;obtain⟨_,_,r3⟩:=xA N c v t hc.ok;obtain⟨_,_,s3⟩:=xA N b v t hb.ok;rw[zPA q2 q1 k3,zLO hc.ok hc.n hb.ok hb.n k1,zLO r3 ((zAU N c v t).trans hc.n) s3 ((zAU N b v t).trans hb.n) k4,zPA hc.ok hc.n k1,zUU,zUU]
 congr 1
 ·funext y
  unfold sgO;by_cases h1:y=x
  ·subst h1;rw[if_pos rfl];show _=(if y=y then _ else _);rw[if_pos rfl,zPA hb.ok hb.n k2]
  ·rw[if_neg h1];show DC.fr y=(if y=x then _ else _);rw[if_neg h1]
 ·funext y
  show tgO v t y=sb .fr (tgO v t y);rw[zCX]
set_option maxHeartbeats 16000000
theorem zP5 {l:List Int} {k:Nat} (hk:l.length<=k) (hk2:k<=24) (hr:∀x∈l,InR x):∃t:Tp,zF Tryz.prog zG6 [.sl (eIs l)] (eTy t)/\good t/\t.sz<=8*k+1:=by
 obtain⟨t,rest,h1,h2,h3,h4,h5⟩:=zZI (l.take 24).length (l.take 24) 0 true rfl (by simp;omega) (fun x hx=>hr x (List.mem_of_mem_take hx)) (by simp;omega);refine⟨t,?_,h4,by rw[List.length_take] at h5;omega⟩;refine zG ttok mixed Tryz.func20 rfl (by rfl) (Nat.le_of_ble_eq_true rfl) (by kernel_rfl) ?_;refine .inl ⟨_,zEY (n:=24) (by omega) (by decide),?_⟩;refine .inl ⟨_,h1,?_⟩;exact rfl
abbrev nXx:ByteArray:=⟨#[120]⟩
theorem zSX {l0 l1 l2:List Int} {n m:Int} (hl0:l0.length<9223372036854775808) (hr0:∀x∈l0,InR x) (hn:InR n) (hm:InR m) (hl1:l1.length<9223372036854775808) (hr1:∀x∈l1,InR x) (hl2:l2.length<9223372036854775808) (hr2:∀x∈l2,InR x) :
  zF Tryz.prog 8 [.sl (eIs l0),.agg [.lit (.int .i64 n),.lit (.int .i64 m)],.agg [.sl (eIs l1),.sl (eIs l2)]] (.sb true):=by
 obtain⟨x,_,hX⟩:=zO9 hn;obtain⟨v,hv4,hV⟩:=zJH hm;have tk:∀{l:List Int} {k:Nat},l.length<9223372036854775808->(l.take k).length<9223372036854775808:=fun h=>by rw[List.length_take];omega
 obtain⟨c,sc,pc,⟨wc,zc,_⟩,hC⟩:=zJ8 (l:=l0.take 40) (tk hl0) (fun x hx=>hr0 x (List.mem_of_mem_take hx));obtain⟨b,sb,pb,⟨wb,_,zb⟩,hB⟩:=zJ8 (l:=l1.take 14) (tk hl1) (fun x hx=>hr1 x (List.mem_of_mem_take hx));obtain⟨t,hT,gt,zt⟩:=zP5 (l:=l2.take 10) (k:=10) (by simp only[List.length_take];omega) (by decide) (fun x hx=>hr2 x (List.mem_of_mem_take hx));obtain⟨u,hU,gu,zu⟩:=zP5 (l:=l0.take 12) (k:=12) (by simp only[List.length_take];omega) (by decide) (fun x hx=>hr0 x (List.mem_of_mem_take hx));have c40:((l0.take 40).take 60).length<=40:=by simp only[List.length_take];omega
 have b14:((l1.take 14).take 60).length<=14:=by simp only[List.length_take];omega
 obtain⟨mc,nc,dc⟩:=zVG sc pc (by omega) zc;obtain⟨mb,nb,db'⟩:=zVG sb pb (by omega) (by omega);have tc:=zGM c;have tb:=zGM b;have lt:LowT 2000 t:=(zRV gt).mono (by decide);have lu:LowT 2000 u:=(zRV gu).mono (by decide);have Gtt:Gt t := .of (.inl gt) lt (by omega);have Gtu:Gt u := .of (.inl gu) lu (by omega);have gc:=z1Y c (by omega) sc.low pc;have gb:=z1Y b (by omega) sb.low pb;obtain⟨m1,n1,z1,d1,t1⟩:=z8Z (N:=10000) x mc mb (by omega) nc nb 117 57 376 246 zc (by omega) (by omega) (by omega) (by omega) (by decide) (by decide);obtain⟨m2,n2⟩:=z5P (N:=10000) v mc nc gc mc.sz Gtt (by omega) (zGI t gt) (by omega) (by omega);obtain⟨m3,n3⟩:=z5P (N:=10000) v mb nb gb mb.sz Gtt (by omega) (zGI t gt) (by omega) (by omega);have u1:=zM4 10000 c x b mc mc.sz mb;have u2:=qJ 10000 (sbF 10000 c x b) v t m1 m1.sz lt (by omega);have u3:=qJ 10000 c v t mc mc.sz lt (by omega);have u4:=qJ 10000 b v t mb mb.sz lt (by omega);have u5:=zM4 10000 (stF 10000 c v t) x (stF 10000 b v t) m2 m2.sz m3;have v0c:c.V0:=z5H c pc;have v0b:b.V0:=z5H b pb;have rr:∀(u:Tp) (s z:ByteArray),u.sz<=376->(sub u [(s,.var z)]).sz<=376:=fun u s z h=>Nat.le_trans (zLA u s z) h;have tac:c.TA (fun u=>u.sz<=376):=gc.mono fun u h=>h.2.1;have tab:b.TA (fun u=>u.sz<=376):=gb.mono fun u h=>h.2.1
 have tz:∀(c:Cr),c.TA (fun u=>u.sz<=376)->(stF 10000 c v t).TZ:=fun c h=>(z8W _).2 (zY0 10000 c v t (fun u=>u.sz<=376) (fun u=>u.sz<900000) (fun u h=>by omega) (fun u h=>by
  have h3:=zK2 (M:=81) (by decide) u [(v,t)] (fun p hp=>by rw[List.mem_singleton.1 hp];exact zt);have h4:=Nat.mul_le_mul_right 81 h;omega) rr h)
 have hSame:zF Tryz.prog zD7 [eC (stF 10000 (sbF 10000 c x b) v t),eC (sbF 10000 (stF 10000 c v t) x (stF 10000 b v t))] (.sb true):=by
  have hlaw:=z2R (N:=10000) (x:=x) (v:=v) (t:=t) mc mb mc.sz mb.sz m1.sz m2.sz;obtain⟨p1,_,p3⟩:=xA 10000 (sbF 10000 c x b) v t m1.ok;obtain⟨q1,q2,_⟩:=qK 10000 (stF 10000 c v t) x (stF 10000 b v t) m2.n m2.ok m3.n m3.ok;have hsz:(stF 10000 (sbF 10000 c x b) v t).sz=(sbF 10000 (stF 10000 c v t) x (stF 10000 b v t)).sz:=by rw[<-zFB _ [] [] p3,<-zFB _ [] [] q2,hlaw]
  have dp:=zLM 10000 (sbF 10000 c x b) v t;refine z9T ⟨(zAU _ _ _ _).trans m1.n,p3,zG1 _ _ _ _ m1.few,by omega,zPQ _ _ _ _ (zZV _ _ _ _ v0c v0b),tz _ (z7U rr (by decide) _ _ _ _ tac tab)⟩
   ⟨q1,q2,zPE _ _ _ _ m2.few m3.few,by omega,zZV _ _ _ _ (zPQ _ _ _ _ v0c) (zPQ _ _ _ _ v0b),z6D _ _ _ _ (tz c tac) (tz b tab)⟩ (by omega) (by simpa using hlaw)
 have mL:Wm (zCN nXx u (vr nXx)):=by
  have h1:=zB4 (zCN nXx u (vr nXx));have h2:=wQ (zCN nXx u (vr nXx));have h3:=z7K nXx u (vr nXx);have h4:dpC (vr nXx)=0:=rfl;have h5:(zCN nXx u (vr nXx)).sz=2:=rfl;have h6:(zCN nXx u (vr nXx)).tn=u.sz+(Tp.no.sz+0+0):=rfl;have h7:Tp.no.sz=1:=rfl;exact⟨rfl,z1H rfl (zBT _),⟨trivial,trivial⟩,⟨Gtu.ty5,⟨zSC,trivial⟩,trivial⟩,by omega,by omega,by omega,by omega⟩
 have hL:=zQH (s:=nXx) (t:=u) (c:=vr nXx) Gtu.ty5.s (zRO nXx).own;have hSt:=qJ 10000 (zCN nXx u (vr nXx)) v t mL mL.sz lt (by omega);have hft:(stF 10000 (zCN nXx u (vr nXx)) v t).t=sub u [(v,t)]:=rfl;have hSu:zF Tryz.prog zFR [eTy u,.sl [str v],.sl [eTy t]] (eTy (sub u [(v,t)])):=zK4 u.sz u (Nat.le_refl _) 2000 [(v,t)] (z1K lu (by omega) lt (by omega));have hus:=zK2 (M:=81) (by decide) u [(v,t)] (fun p hp=>by rw[List.mem_singleton.1 hp];exact zt);have hus2:=Nat.mul_le_mul_right 81 zu;have hTs:zF Tryz.prog zC1 [eTy (sub u [(v,t)]),eTy (sub u [(v,t)])] (.sb true):=by
  have h:=zLC (sub u [(v,t)]) (sub u [(v,t)]) (by omega);rw[zYA rfl] at h;exact h
 have hTs':(f:Cr)->f.t=sub u [(v,t)]->zF Tryz.prog zC1 [eTy f.t,eTy (sub u [(v,t)])] (.sb true):=fun f h=>by rw[h];exact hTs
 clear mc mb m1 m2 m3 nc nb n1 n2 n3 mL;generalize stF 10000 (sbF 10000 c x b) v t=p at u2 hSame;generalize sbF 10000 (stF 10000 c v t) x (stF 10000 b v t)=q at u5 hSame;generalize sbF 10000 c x b=c1 at u1 u2;generalize stF 10000 c v t=c2 at u3 u5;generalize stF 10000 b v t=b2 at u4 u5;generalize stF 10000 (zCN nXx u (vr nXx)) v t=f at hSt hft;refine zAA ttok mixed Tryz.func8 rfl (by rfl) (Nat.le_of_ble_eq_true rfl) (by kernel_rfl) ?_;refine Wsem.seq ttok mixed ?_;refine Wsem.cut {vs:=[(0,.v (.sl (eIs l0))),(4,.box 0 (.agg [.lit (.int .i64 n),.lit (.int .i64 m)])),(5,.box 0 (.agg [.sl (eIs l1),.sl (eIs l2)]))]} ⟨⟨rfl,rfl,rfl,trivial⟩,trivial,rfl⟩ ?_;refine Wsem.shut 4 rfl ?_;refine Wsem.shut 5 rfl ?_;refine Wsem.cut {vs:=[(0,.v (.sl (eIs l0))),(4,.v (.ptr [.lit (.int .i64 n),.lit (.int .i64 m)])),(5,.v (.ptr [.sl (eIs l1),.sl (eIs l2)]))]} ⟨⟨rfl,rfl,rfl,trivial⟩,trivial,rfl⟩ ?_;refine Wsem.seq ttok mixed ?_;refine .inl ⟨_,zEY (n:=40) hl0 (by decide),?_⟩;refine .inl ⟨_,hC,?_⟩;refine Wsem.seqS (Wsem.regionIx ttok rfl rfl rfl Tryz.underlying54 Tryz.sizeOf22 (by decide) (by decide) rfl ?_);refine .inl ⟨_,zEY (n:=14) hl1 (by decide),?_⟩;refine .inl ⟨_,hB,?_⟩;refine Wsem.seqS (Wsem.regionIx ttok rfl rfl rfl Tryz.underlying54 Tryz.sizeOf22 (by decide) (by decide) rfl ?_);refine .inl ⟨_,zEY (n:=10) hl2 (by decide),?_⟩;refine .inl ⟨_,hT,?_⟩;refine Wsem.seqS (Wsem.regionIx ttok rfl rfl rfl Tryz.underlying53 Tryz.sizeOf3 (by decide) (by decide) rfl ?_)
 refine .inl ⟨_,hX,?_⟩;refine Wsem.seqS (Wsem.regionIx ttok rfl rfl rfl Tryz.underlying53 Tryz.sizeOf3 (by decide) (by decide) rfl ?_);refine .inl ⟨_,hV,?_⟩;refine Wsem.cut {vs:=[(0,.v (.sl (eIs l0))),(7,.box 0 (eC c)),(8,.box 0 (eC b)),(9,.box 0 (eTy t)),(10,.v (str x)),(11,.v (str v))]} ⟨⟨rfl,rfl,rfl,rfl,rfl,rfl,trivial⟩,trivial,rfl⟩ ?_;refine Wsem.seq ttok mixed ?_;refine .inl ⟨_,u1,?_⟩;refine .inl ⟨_,u2,?_⟩;refine⟨by kernel_rfl,?_⟩;refine Wsem.cut {vs:=[(0,.v (.sl (eIs l0))),(7,.box 0 (eC c)),(8,.box 0 (eC b)),(9,.box 0 (eTy t)),(10,.v (str x)),(11,.v (str v)),(12,.box 0 (eC p))]} ⟨⟨rfl,rfl,rfl,rfl,rfl,rfl,rfl,trivial⟩,trivial,rfl⟩ ?_;refine Wsem.seq ttok mixed ?_;refine .inl ⟨_,u3,?_⟩;refine .inl ⟨_,u4,?_⟩;refine .inl ⟨_,u5,?_⟩;refine⟨by kernel_rfl,?_⟩;refine Wsem.cut {vs:=[(0,.v (.sl (eIs l0))),(9,.box 0 (eTy t)),(11,.v (str v)),(12,.box 0 (eC p)),(13,.box 0 (eC q))]} ⟨⟨rfl,rfl,rfl,rfl,rfl,trivial⟩,trivial,rfl⟩ ?_;refine Wsem.seq ttok mixed ?_;refine .inl ⟨_,hSame,?_⟩;refine⟨fun h=>absurd h (by decide),fun _=>?_⟩;refine Wsem.cut {vs:=[(0,.v (.sl (eIs l0))),(9,.box 0 (eTy t)),(11,.v (str v))]} ⟨⟨rfl,rfl,rfl,trivial⟩,trivial,rfl⟩ ?_;refine Wsem.seq ttok mixed ?_;refine .inl ⟨_,zEY (n:=12) hl0 (by decide),?_⟩;refine .inl ⟨_,hU,?_⟩;refine Wsem.seq ttok mixed ?_;refine .inl ⟨_,zB8 nX,?_⟩;refine .inl ⟨_,hL,?_⟩;refine .inl ⟨_,hSt,?_⟩;refine⟨by kernel_rfl,?_⟩
 refine Wsem.cut {vs:=[(9,.box 0 (eTy t)),(11,.v (str v)),(14,.box 0 (eTy u)),(15,.box 0 (eC f))]} ⟨⟨rfl,rfl,rfl,rfl,trivial⟩,trivial,rfl⟩ ?_;refine Wsem.of ttok mixed ?_;refine .inl ⟨_,hSu,?_⟩;refine .inl ⟨_,hTs' f hft,?_⟩;refine⟨fun _=>?_,fun h=>absurd h (by decide)⟩;refine .inl ⟨_,z01,?_⟩;refine⟨by kernel_rfl,?_⟩;exact rfl
end Go.Proofs.YtgonkhaebmfgiaaGreatDoor
