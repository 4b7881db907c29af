/- SubstType: the parts, one after the other. No condition but on the parts. -/
import Derived.Test.YtgonkhaebmfgiaaGreatDoorH
set_option linter.unusedSimpArgs false
set_option linter.unusedVariables false
namespace Go.Proofs.YtgonkhaebmfgiaaGreatDoor
open Go Fp
set_option maxRecDepth 10000
set_option maxHeartbeats 16000000
set_option linter.unusedVariables false
theorem zS5 {x:Nd} {k j:Nat} {G:List Pn×List Pp} {p:Pp} (hG:(zS x)[k]? = some G) (hp:G.2[j]? = some p):p∉((zS x).take k).flatMap (·.2)++G.2.take j:=by
 have hk:=(List.getElem?_eq_some_iff.1 hG)
 obtain⟨hk1,hk2⟩:=hk;obtain⟨hj1,hj2⟩:=List.getElem?_eq_some_iff.1 hp;have e1:zS x=(zS x).take k++G::(zS x).drop (k+1):=by
  rw[<-hk2,<-List.drop_eq_getElem_cons hk1,List.take_append_drop]
 have e2:G.2=G.2.take j++p::G.2.drop (j+1):=by
  rw[<-hj2,<-List.drop_eq_getElem_cons hj1,List.take_append_drop]
 have hn:=zET x;unfold zMQ at hn;rw[e1,List.flatMap_append,List.flatMap_cons,e2,List.append_assoc,<-List.append_assoc] at hn;intro hm;exact (List.nodup_append.1 hn).2.2 p hm p (by simp) rfl
theorem zUW {x:Nd} {k:Nat} {G:List Pn×List Pp} (hG:(zS x)[k]? = some G):((zS x).take (k+1)).flatMap (·.2)=((zS x).take k).flatMap (·.2)++G.2:=by
 obtain⟨hk1,hk2⟩:=List.getElem?_eq_some_iff.1 hG;rw[List.take_succ_eq_append_getElem hk1,List.flatMap_append,hk2];simp
theorem z4A {ad:Ad} {x:Nd} (hok:AdOk ad x) (hk:x.ks.length<=100000) (hb:x.bs.length<=100000) (ha:x.ls.length<=100000) (hv:∀a∈x.ls,a.2.1.length<=1000000) (v:ByteArray) (t:Tp) (φ:Cr->Cr)
  (ih:∀(p:Pp) (d:Cr),zX x p=some d->zF Tryz.prog xB [eC d,str v,eTy t] (eC (φ d))) (post:AV->Nat->List (Nat×HO)->Prop) (hpost:AdOk ad (zEG φ x)->post (.agg (yN ad (zEG φ x))) 0 (HP ad (zEG φ x))) :
  Wsem Tryz.prog (zAX (zAX (sn4 (bodyC Tryz.f22)))) (mkC {vs:=[(4,.v (.ptr [str v])),(5,.v (.ptr (eTy t).cells)),(6,.box 0 eZ),(7,.v (pt ad.b0 0))],hp:=HP ad x})
   (fun c2=>yP tt Tryz.f22.results.toList post (den c2)) (fun _ _=>False) (fun c2=>yP tt Tryz.f22.results.toList post (den c2)):=by
 have hgl := @zKE x;refine Wsem.seq ttok mixed ?_;refine .inr (.inr (.inl ⟨List.range (HP ad x).length,HP ad x,.sl (mG ad x),xX _,List.nodup_range,zE2 hok (by omega) (by omega) (by omega) hv,?_⟩));refine⟨{k:Nat // k<=(zS x).length},fun k=>{vs:=[(4,.v (.ptr [str v])),(5,.v (.ptr (eTy t).cells)),(6,.box 0 eZ),(7,.v (pt ad.b0 0)),(60,.v (.sl ((zS x).map (eGp ad)))),(61,sv ((zS x).length:Nat)),(62,sv (k.1:Nat))],hp:=HP ad (updP φ (((zS x).take k.1).flatMap (·.2)) x)},
  fun k=>(zS x).length-k.1,⟨0,Nat.zero_le _⟩,⟨⟨rfl,rfl,rfl,rfl,?_,?_,rfl,trivial⟩,trivial,rfl⟩,?_⟩
 ·show SV.v (.sl (mG ad x))=_;rw[zLF hok]
 ·show sv _=sv _;rw[zLF hok];simp
 rintro⟨k,hkk⟩;refine⟨fun h=>?_,fun h=>?_⟩
 ·have h:k<(zS x).length:=by have h:=of_decide_eq_true h;simp only at h;omega
  have hg:=List.getElem?_eq_getElem h;have hgm:=List.getElem_mem h;have hg2:=zMM hgm;have hg3:=zH4 _ hgm;generalize (zS x)[k]=G at hg hgm hg2 hg3;refine⟨_,by omega,by show ((zS x).map (eGp ad))[(k:Int).toNat]? = _;rw[show (k:Int).toNat=k from rfl,List.getElem?_map,hg];rfl,rfl,?_⟩;refine⟨{j:Nat // j<=G.2.length},fun j=>{vs:=[(4,.v (.ptr [str v])),(5,.v (.ptr (eTy t).cells)),(6,.box 0 eZ),(7,.v (pt ad.b0 0)),(60,.v (.sl ((zS x).map (eGp ad)))),(61,sv ((zS x).length:Nat)),(62,sv (k:Nat)),(67,.v (.sl (G.2.map (ptP ad)))),(68,sv (G.2.length:Nat)),(69,sv (j.1:Nat))],hp:=HP ad (updP φ (((zS x).take k).flatMap (·.2)++G.2.take j.1) x)},
   fun j=>G.2.length-j.1,⟨0,Nat.zero_le _⟩,⟨⟨rfl,rfl,rfl,rfl,rfl,rfl,rfl,rfl,?_,rfl,trivial⟩,trivial,?_⟩,?_⟩
  ·show sv _=sv _;simp
  ·show HP ad (updP φ _ x)=HP ad (updP φ (_++[]) x);rw[List.append_nil]
  rintro⟨j,hjj⟩;refine⟨fun h2=>?_,fun h2=>?_⟩
  ·have h2:j<G.2.length:=by have h:=of_decide_eq_true h2;simp only at h;omega
   have hp:=List.getElem?_eq_getElem h2;obtain⟨d,hd⟩:=hg3 _ (List.getElem_mem h2);have hnin:=zS5 hg hp;have hts:G.2.take (j+1)=G.2.take j++[G.2[j]]:=List.take_succ_eq_append_getElem h2;generalize G.2[j]=p at hp hd hnin hts;have hd2:zX (updP φ (((zS x).take k).flatMap (·.2)++G.2.take j) x) p=some d:=by rw[zBZ hnin];exact hd
   have hsn:updP φ (((zS x).take k).flatMap (·.2)++G.2.take (j+1)) x=zBC (updP φ (((zS x).take k).flatMap (·.2)++G.2.take j) x) p (φ d):=by
    rw[hts,<-List.append_assoc,zHL,hd2]
   obtain⟨i,l,r1,r2,r3,r4⟩:=zA2 (hok.updP (φ:=φ) (ps:=((zS x).take k).flatMap (·.2)++G.2.take j)) hd2;refine⟨_,by omega,by show (G.2.map (ptP ad))[(j:Int).toNat]? = _;rw[show (j:Int).toNat=j from rfl,List.getElem?_map,hp];rfl,rfl,?_⟩;refine⟨i,l,r1,r2,?_⟩;refine .inr (.inl ⟨eC (φ d),by rw[r3];exact ih p d hd,?_⟩);refine⟨rfl,i,l,r1,r2,?_⟩;refine⟨by kernel_rfl,?_⟩;refine⟨⟨j+1,h2⟩,by simp;omega,⟨rfl,rfl,rfl,rfl,rfl,rfl,rfl,rfl,rfl,svc (wrap_succ (k:=j) (by omega)),trivial⟩,trivial,?_⟩;show (HP ad (updP φ (((zS x).take k).flatMap (·.2)++G.2.take j) x)).set i ((adP ad p).1,HO.cells (setAt l (adP ad p).2 (eC (φ d)).cells))=HP ad (updP φ (((zS x).take k).flatMap (·.2)++G.2.take (j+1)) x);rw[(r4 _).1,hsn]
  ·have h2:j=G.2.length:=by have h:=of_decide_eq_false h2;simp only at h;omega
   subst h2;refine⟨⟨k+1,h⟩,by simp;omega,⟨rfl,rfl,rfl,rfl,rfl,rfl,svc (wrap_succ (k:=k) (by omega)),trivial⟩,trivial,?_⟩;show HP ad (updP φ (((zS x).take k).flatMap (·.2)++G.2.take G.2.length) x)=HP ad (updP φ (((zS x).take (k+1)).flatMap (·.2)) x);rw[List.take_length,zUW hg]
 ·have h:k=(zS x).length:=by have h:=of_decide_eq_false h;simp only at h;omega
  subst h;have hall:updP φ (((zS x).take (zS x).length).flatMap (·.2)) x=zEG φ x:=by rw[List.take_length];exact zYU
  have hokX:AdOk ad (zEG φ x):=by rw[<-hall];exact hok.updP
  refine Wsem.cut {vs:=[(6,.box 0 eZ),(7,.v (pt ad.b0 0))],hp:=HP ad (zEG φ x)} ⟨⟨rfl,rfl,trivial⟩,trivial,by rw[<-hall];rfl⟩ ?_;refine Wsem.seq ttok mixed ?_;refine⟨(hM ad (zEG φ x)).length,yN ad (zEG φ x),(zJY hokX).1,by show 0+10<=10;decide,?_⟩;refine Wsem.of ttok mixed ?_;exact hpost hokX
def tyN (τ:Tp->Tp) (x:Nd):Nd:={x with t:=τ x.t,bs:=x.bs.map fun b=>(b.1,τ b.2.1,b.2.2)}
def tyB (τ:Tp->Tp) (k:Nat) (x:Nd):Nd:={x with t:=τ x.t,bs:=(x.bs.take k).map (fun b=>(b.1,τ b.2.1,b.2.2))++x.bs.drop k}
theorem zTD {τ:Tp->Tp} {x:Nd}:tyB τ x.bs.length x=tyN τ x:=by simp[tyB,tyN]
theorem zR9 {τ:Tp->Tp} {k:Nat} {x:Nd} (h:k<=x.bs.length):(tyB τ k x).bs.length=x.bs.length:=by simp[tyB];omega
theorem zWA {τ:Tp->Tp} {k:Nat} {x:Nd} (h:k<x.bs.length):zIY (tyB τ k x) k (τ x.bs[k].2.1)=tyB τ (k+1) x:=by
 have hg0:=zC6 (f:=fun b:Bdg=>(b.1,τ b.2.1,b.2.2)) h;have hm:zIY (tyB τ k x) k (τ x.bs[k].2.1)={tyB τ k x with bs:=(tyB τ k x).bs.set k (x.bs[k].1,τ x.bs[k].2.1,x.bs[k].2.2)}:=by
  unfold zIY;rw[yV (show (tyB τ k x).bs[k]? = some x.bs[k] from hg0)]
 have hs:=take_set (f:=fun b:Bdg=>(b.1,τ b.2.1,b.2.2)) h;rw[hm];unfold tyB;simp only[];rw[<-hs]
theorem zZA {τ:Tp->Tp} {x:Nd} {p:Pp}:zX (tyN τ x) p=zX x p:=by
 cases p with
 | kid j=>rfl
 | alt j=>rfl
 | bind j =>
  show ((x.bs.map _)[j]?).map _=(x.bs[j]?).map _;rw[List.getElem?_map];cases x.bs[j]?<;>rfl
theorem zQG {τ:Tp->Tp} {k:Nat} {x:Nd} {ad:Ad} (hok:AdOk ad x) (h:k<=x.bs.length):AdOk ad (tyB τ k x):=⟨hok.k,by rw[zR9 h];exact hok.b,hok.a,hok.len,hok.vs⟩
theorem zR1 {ad:Ad} {x:Nd} (hok:AdOk ad x) (hk:x.ks.length<=100000) (hb:x.bs.length<=100000) (ha:x.ls.length<=100000) (hv:∀a∈x.ls,a.2.1.length<=1000000) (v:ByteArray) (t:Tp) (φ:Cr->Cr)
  (ih:∀(p:Pp) (d:Cr),zX x p=some d->zF Tryz.prog xB [eC d,str v,eTy t] (eC (φ d))) (h1:Fit 2000 x.t [(v,t)]) (h2:∀b∈x.bs,Fit 2000 b.2.1 [(v,t)]) (post:AV->Nat->List (Nat×HO)->Prop) (hpost:AdOk ad (zEG φ (tyN (fun u=>sub u [(v,t)]) x))->post (.agg (yN ad (zEG φ (tyN (fun u=>sub u [(v,t)]) x)))) 0 (HP ad (zEG φ (tyN (fun u=>sub u [(v,t)]) x)))) :
  Wsem Tryz.prog (zAX (zAX (zAX (bodyC Tryz.f22)))) (mkC {vs:=[(4,.box 0 (str v)),(5,.box 0 (eTy t)),(6,.box 0 eZ),(7,.v (pt ad.b0 0))],hp:=HP ad x})
   (fun c2=>yP tt Tryz.f22.results.toList post (den c2)) (fun _ _=>False) (fun c2=>yP tt Tryz.f22.results.toList post (den c2)):=by
 obtain⟨τ,hτ⟩:∃τ:Tp->Tp,τ=fun u=>sub u [(v,t)]:=⟨_,rfl⟩
 rw[<-hτ] at hpost;refine Wsem.seq ttok mixed ?_;refine .inl ?_;refine Wsem.seq ttok mixed ?_;obtain⟨y1,y2,y3⟩:=z5B hok;refine⟨(hM ad x).length,yN ad x,y1,by show 0+3+4<=10;decide,?_⟩;refine .inl ⟨_,zXD h1,?_⟩;refine⟨rfl,(hM ad x).length,yN ad x,y1,by show 0+3+4<=10;decide,?_⟩;refine Wsem.cut {vs:=[(4,.v (.ptr [str v])),(5,.v (.ptr (eTy t).cells)),(6,.box 0 eZ),(7,.v (pt ad.b0 0)),(8,.v (.fn (.func 64) [] [.ptr [str v],.ptr (eTy t).cells]))],hp:=HP ad (tyB τ 0 x)} ⟨⟨rfl,rfl,rfl,rfl,rfl,trivial⟩,trivial,?_⟩ ?_
 ·show (HP ad x).set (hM ad x).length (ad.b0,HO.cells (setAt (yN ad x) 3 (eTy (sub x.t [(v,t)])).cells))=_;rw[(y3 _).1];have:tyB τ 0 x=z0J x (sub x.t [(v,t)]):=by simp[tyB,z0J,hτ]
  rw[this]
 refine Wsem.seq ttok mixed ?_;refine⟨(hM ad (tyB τ 0 x)).length,yN ad (tyB τ 0 x),_,(zJY (zQG hok (Nat.zero_le _))).1,rfl,?_⟩;refine⟨{k:Nat // k<=x.bs.length},fun k=>{vs:=[(4,.v (.ptr [str v])),(5,.v (.ptr (eTy t).cells)),(6,.box 0 eZ),(7,.v (pt ad.b0 0)),(8,.v (.fn (.func 64) [] [.ptr [str v],.ptr (eTy t).cells])),(42,sv (x.bs.length:Nat)),(43,sv (k.1:Nat))],hp:=HP ad (tyB τ k.1 x)},
  fun k=>x.bs.length-k.1,⟨0,Nat.zero_le _⟩,⟨⟨rfl,rfl,rfl,rfl,rfl,?_,rfl,trivial⟩,trivial,rfl⟩,?_⟩
 ·show sv _=sv _;simp[tyB]
 rintro⟨k,hkk⟩;refine⟨fun h=>?_,fun h=>?_⟩
 ·have h:k<x.bs.length:=by have h:=of_decide_eq_true h;simp only at h;omega
  have hokk:=zQG (τ:=τ) hok hkk;have hlen:=zR9 (τ:=τ) hkk;have hB0:=hokk.b.at (by omega);have hb8:(yN ad (tyB τ k x))[8]? = some (.lit (.slice (some ⟨ad.b.no,0,none⟩) (tyB τ k x).bs.length ad.b.cap)):=by show some (slA ad.b (tyB τ k x).bs.length)=_;unfold slA;rw[hB0]
  have hgb:(tyB τ k x).bs[k]? = some x.bs[k]:=zC6 (f:=fun b:Bdg=>(b.1,τ b.2.1,b.2.2)) h;have hf2:=h2 _ (List.getElem_mem h);have hst:=zWA (τ:=τ) h;obtain⟨i,l,r1,r2,r3,r4⟩:=z2F hokk hgb;generalize x.bs[k]=B at hgb hf2 hst r3;refine⟨_,_,_,(zJY hokk).1,hb8,?_⟩;refine⟨_,_,_,(zJY hokk).1,hb8,?_⟩;refine⟨by omega,by show (k:Int)<_;rw[hlen];omega,?_⟩;refine⟨i,l,r1,r2,?_⟩;refine .inr ⟨eTy (sub B.2.1 [(v,t)]),by show zF Tryz.prog 64 [.agg ((l.drop (0+k*15+1)).take 4),_,_] _;rw[r3];exact zXD hf2,?_⟩;refine⟨by omega,by show (k:Int)<_;rw[hlen];omega,?_⟩;refine⟨rfl,i,l,r1,r2,?_⟩;refine⟨by kernel_rfl,?_⟩;refine⟨⟨k+1,h⟩,by simp;omega,⟨rfl,rfl,rfl,rfl,rfl,rfl,svc (wrap_succ (k:=k) (by omega)),trivial⟩,trivial,?_⟩;show (HP ad (tyB τ k x)).set i (ad.b.no,HO.cells (setAt l (0+k*15+1) (eTy (sub B.2.1 [(v,t)])).cells))=HP ad (tyB τ (k+1) x);rw[(r4 _).1,<-hst,hτ]
 ·have h:k=x.bs.length:=by have h:=of_decide_eq_false h;simp only at h;omega
  subst h;have hokN:AdOk ad (tyN τ x):=by rw[<-zTD];exact zQG hok (Nat.le_refl _)
  refine Wsem.cut _ ?_ (z4A (ad:=ad) (x:=tyN τ x) hokN hk (by simpa[tyN] using hb) ha hv v t φ (fun p d hd=>ih p d (by rw[zZA] at hd;exact hd)) post hpost);refine⟨⟨rfl,rfl,rfl,rfl,trivial⟩,trivial,?_⟩;show HP ad (tyB τ x.bs.length x)=_;rw[zTD]
def Gives (c:Cr) (r:AV) (o:Nat) (h:List (Nat×HO)):Prop:=o=0/\∃(ad:Ad) (X:Nd),AdOk ad X/\X.cr=c/\r = .agg (yN ad X)/\h=HP ad X
theorem Gives.shut {f:Nat} {args:List AV} {c:Cr} (hc:CallsG Tryz.prog (fnv f) [] args [] (Gives c)):zF Tryz.prog f args (eC c):=by
 refine (hc.less0 (post':=fun r o h=>o=0/\∃(ad:Ad) (X:Nd),AdOk ad X/\X.cr=c/\r = .agg (yN ad X)/\h=hM ad X) fun r o h hp=>?_).pure fun r o hp hpo=>?_
 ·obtain⟨rfl,ad,X,h1,h2,rfl,rfl⟩:=hp;exact⟨hM ad X,_,rfl,rfl,ad,X,h1,h2,rfl,rfl⟩
 ·obtain⟨rfl,ad,X,h1,h2,rfl,rfl⟩:=hpo;have:=h1.frz (h:=hM ad X) fun e he=>he;rw[h2] at this;exact⟨this,rfl⟩
theorem z2B {u t:Tp} {v:ByteArray} (h1:LowT 2000 u) (h2:u.sz<=590) (h3:LowT 2000 t) (h4:t.sz<=590):Fit 2000 u [(v,t)]:=by
 have:=z1M u;exact⟨h1,fun p hp=>by simp at hp;subst hp;exact h3,by omega,by simp;omega,by omega,fun p hp=>by simp at hp;subst hp;simp only;omega⟩
theorem zYJ {c:Cr} {X:Nd} (hn:c.isN=true) (ho:c.Ok) (h:zJ c=X):X.cr=c:=by rw[<-h];exact zTE hn ho
theorem z0X {N:Nat} {c:Cr} {v:ByteArray} {t:Tp} (hn:c.isN=true) (ho:c.Ok) (h7:¬c.f=7):(zEG (fun p=>stF N p v t) (tyN (fun u=>sub u [(v,t)]) (zJ c))).cr=stF (N+1) c v t:=by
 have hall:=zEE (N+1) c v t ho;cases c with
 | node f n s ty g =>
  have h7:¬f=7:=h7;obtain⟨hg,hgo⟩:=xQ ho;have e:stF (N+1) (.node f n s ty g) v t = .node f n s (sub ty [(v,t)]) (yQ (fun p=>stF N p v t) (fun u=>sub u [(v,t)]) id (fun vs p=>(vs,stF N p v t)) g):=by simp only[stF];rw[if_neg h7]
  refine zYJ (by rw[e];rfl) hall.2.2 ?_;rw[e];show Nd.mk f n s (sub ty [(v,t)]) (yQ _ _ _ _ g).kids (yQ _ _ _ _ g).binds (yQ _ _ _ _ g).alts=_;rw[zBM hg hgo,jG hg hgo,zGH hg hgo];simp[zEG,tyN,zJ,Cr.kids,Cr.binds,Cr.alts,Cr.t,Cr.f,Cr.n,Cr.s,Function.comp_def]
 | _=>cases hn
theorem z5M {c:Cr} (ho:c.Ok) (hn:c.isN=true) (h7:c.f=7):∃n s q,c = .node 7 n s .no (.kid q .nil):=by
 cases c with
 | node f n s t g =>
  have h7:f=7:=h7;subst h7;obtain⟨h1,h2,h3,h4,h5,h6,_,h8⟩:=ho;have ht:=h3 rfl;subst ht;have hb:g.binds=[]:=by
   cases hb:g.binds with
   | nil=>rfl
   | cons a l=>have:=h5 (by rw[hb];exact List.cons_ne_nil _ _);exact absurd this (by decide)
  have ha:g.alts=[]:=by
   cases hb:g.alts with
   | nil=>rfl
   | cons a l=>have:=h6 (by rw[hb];exact List.cons_ne_nil _ _);exact absurd this (by decide)
  have hk:g.kids.length=1:=h4;cases g with
  | nil=>exact absurd hk (by decide)
  | node=>cases h1
  | bind=>exact absurd hb (List.cons_ne_nil _ _)
  | alt=>exact absurd ha (List.cons_ne_nil _ _)
  | kid q r =>
   have hr:r.isN=false:=h8.2.1;cases r with
   | nil=>exact⟨n,s,q,rfl⟩
   | node=>cases hr
   | kid=>simp[Cr.kids] at hk
   | bind=>exact absurd hb (List.cons_ne_nil _ _)
   | alt=>exact absurd ha (List.cons_ne_nil _ _)
 | _=>cases hn
theorem zZ3 {N:Nat} {n:Int} {s v:ByteArray} {t:Tp} {q:Cr} (hs:¬s=v) (hv:v∈q.tv) (ho:(Cr.node 7 n s .no (.kid q .nil)).Ok) :
  (zEG (fun p=>stF N p v t) (tyN (fun u=>sub u [(v,t)]) (clX N (fvT t) q (zJ (.node 7 n s .no (.kid q .nil)))))).cr=stF (N+1) (.node 7 n s .no (.kid q .nil)) v t:=by
 have hall:=zEE (N+1) (.node 7 n s .no (.kid q .nil)) v t ho;have htv:(Cr.kid q .nil).tv=q.tv:=rfl;have hno:¬(s=v∨v∉(Cr.kid q .nil).tv):=fun h=>h.elim hs fun h=>h (by rw[htv];exact hv);by_cases hm:s∈fvT t
 ·have e:stF (N+1) (.node 7 n s .no (.kid q .nil)) v t = .node 7 n (lett (ff (fvT t++q.tv))) .no (.kid (stF N (stF N q s (.var (lett (ff (fvT t++q.tv))))) v t) .nil):=by
   rw[stF,if_pos rfl,if_neg hno,if_pos hm,htv];rfl
  refine zYJ (by rw[e];rfl) hall.2.2 ?_;rw[e];unfold clX;rw[if_pos (show (zJ (Cr.node 7 n s .no (.kid q .nil))).s∈fvT t from hm)]
  rfl
 ·have e:stF (N+1) (.node 7 n s .no (.kid q .nil)) v t = .node 7 n s .no (.kid (stF N q v t) .nil):=by
   rw[stF,if_pos rfl,if_neg hno,if_neg hm];rfl
  refine zYJ (by rw[e];rfl) hall.2.2 ?_;rw[e];unfold clX;rw[if_neg (show ¬(zJ (Cr.node 7 n s .no (.kid q .nil))).s∈fvT t from hm)]
  rfl
theorem z0N {N:Nat} {n:Int} {s v:ByteArray} {t:Tp} {q:Cr} (h:s=v∨v∉q.tv):stF (N+1) (.node 7 n s .no (.kid q .nil)) v t = .node 7 n s .no (.kid q .nil):=by
 have htv:(Cr.kid q .nil).tv=q.tv:=rfl;rw[stF,if_pos rfl,htv,if_pos h]
theorem tv7 {n:Int} {s v:ByteArray} {q:Cr} (hs:¬s=v):v∈(Cr.node 7 n s .no (.kid q .nil)).tv↔v∈q.tv:=by
 have e:(Cr.node 7 n s .no (.kid q .nil)).tv=zC (fun y=>decide ((7:Int)=7) && decide (y=s)) [] q.tv:=rfl;rw[e,mem_insAll];constructor
 ·rintro (h|⟨h,_⟩)
  ·cases h
  ·exact h
 ·intro h;refine .inr ⟨h,?_⟩;have:¬v=s:=fun e=>hs e.symm;simp[this]
theorem zJ9 (N:Nat) (c:Cr) (v:ByteArray) (t:Tp) (hc:Sm c) (ht:LowT 2000 t) (hts:t.sz<=590) (hN:c.sz<=N+1) (ih:∀(d:Cr) (v:ByteArray) (t:Tp),Sm d->d.sz<=N->LowT 2000 t->t.sz<=590->zF Tryz.prog xB [eC d,str v,eTy t] (eC (stF N d v t))) :
  CallsG Tryz.prog (fnv xB) [] [eC c,str v,eTy t] [] (Gives (stF (N+1) c v t)):=by
 have hcs:=hc.sz;have hl:=zAG c hc.ok;have hown:=zJI hc.gd (by omega);have htn:=zLC c;have hwt:=hc.wt;have htl:=yU t;refine zM (first:=[]) (cap:=[]) ttok mixed Tryz.func22 rfl (by rfl) rfl (Nat.le_of_ble_eq_true rfl) (by kernel_rfl) ?_;refine Wsem.seq ttok mixed ?_;refine Wsem.seq ttok mixed ?_;refine .inr (.inr (.inr (.inr (.inr (.inl ⟨[],[],[],_,rfl,List.nodup_nil,rfl,hown,?_⟩)))));rintro _ _ _ ⟨rfl,ad0,hok0,rfl,rfl⟩;refine Wsem.letout 7 rfl rfl fun b=>?_;obtain⟨ad,had⟩:∃ad:Ad,ad={ad0 with b0:=b}:=⟨_,rfl⟩
 have hok:AdOk ad (zJ c):=by subst had;exact⟨hok0.k,hok0.b,hok0.a,hok0.len,hok0.vs⟩
 refine Wsem.cut {vs:=[(3,.box 0 (eC c)),(4,.box 0 (str v)),(5,.box 0 (eTy t)),(6,.box 0 eZ),(7,.v (pt ad.b0 0))],hp:=HP ad (zJ c)} ⟨⟨rfl,rfl,rfl,rfl,by subst had;rfl,trivial⟩,trivial,by subst had;rfl⟩ ?_;have hpart:∀(p:Pp) (d:Cr),zX (zJ c) p=some d->Sm d/\d.sz<=N:=fun p d hd=>⟨(hc.part hd).1,by have:=(hc.part hd).2;omega⟩
 have hbt:∀b∈c.binds,Fit 2000 b.2.1 [(v,t)]:=fun b hb=>z2B ((zD4 hb).2 hc.low).1 (by have:=(zD4 (K:=0) hb).1;omega) ht hts;have hct:Fit 2000 c.t [(v,t)]:=by
  cases c with
  | node f n s ty g=>exact z2B hc.low.1 (by have:=hc.wt;simp only[Cr.wt] at this;show ty.sz<=590;omega) ht hts
  | _=>have h:=hc.n;cases h
 have hva:∀a∈c.alts,a.2.1.length<=1000000:=fun a ha=>by have:=(zGN (K:=0) ha).1;omega
 have hback:(zJ c).cr=c:=zTE hc.n hc.ok;refine Wsem.seq ttok mixed ?_;refine⟨fun h7=>?_,fun h7=>?_⟩
 ·have h7:c.f=7:=of_decide_eq_true h7;obtain⟨n,s,q,rfl⟩:=z5M hc.ok hc.n h7;have same:∀X:Nd,X=zJ (Cr.node 7 n s .no (.kid q .nil))->(s=v∨v∉q.tv)->Gives (stF (N+1) (.node 7 n s .no (.kid q .nil)) v t) (.agg (yN ad X)) 0 (HP ad X):=fun X hX h=>by
   subst hX;rw[z0N h];exact⟨rfl,ad,_,hok,hback,rfl,rfl⟩
  have hb0:=(zJY hok).1;have htyc:=zCK hc.n hc.ok (by omega) (by omega);have hmt := @tv7 n s v q;have htvl:=jW (Cr.node 7 n s .no (.kid q .nil));generalize htv:(Cr.node 7 n s .no (.kid q .nil)).tv=tvs at htyc hmt htvl;refine⟨fun h=>?_,fun h=>?_⟩
  ·have h:¬s=v:=of_decide_eq_false h;refine .inl ⟨_,htyc,?_⟩;refine .inl ⟨_,yS (l:=tvs) (s:=v) (by omega),?_⟩;refine⟨by kernel_rfl,?_⟩;refine⟨fun h2=>?_,fun h2=>?_⟩
   ·have h2:v∉q.tv:=fun hm=>by rw[memb_iff.2 ((hmt h).2 hm)] at h2;cases h2
    refine⟨_,_,hb0,by show 0+10<=10;decide,?_⟩;exact same _ rfl (.inr h2)
   ·have h2:v∈q.tv:=(hmt h).1 (memb_iff.1 (by cases hm:memb v tvs with|true=>rfl|false=>rw[hm] at h2;cases h2));have hq:=hpart (.kid 0) q rfl;have hcl:=zO3 hok (q:=q) rfl hq.1 (fvT t) (Nat.le_trans htl (by omega)) N fun z hz=>ih q s (.var z) hq.1 hq.2 hz (by simp[Tp.sz]);refine .inl ⟨_,zF9 t.sz (by omega) t (Nat.le_refl _),?_⟩;refine .inr (.inr (.inr (.inr (.inr (.inl ⟨List.range (HP ad (zJ (.node 7 n s .no (.kid q .nil)))).length,_,[],_,xX _,List.nodup_range,rfl,hcl,?_⟩)))));rintro _ _ _ ⟨rfl,rfl⟩;obtain⟨x',hx'⟩:∃x',x'=clX N (fvT t) q (zJ (.node 7 n s .no (.kid q .nil))):=⟨_,rfl⟩
    have hok':AdOk ad x':=by
     rw[hx'];unfold clX;split
     ·obtain⟨_,_,_,_,_,r⟩:=zA2 hok (p := .kid 0) (c:=q) rfl;exact ((zJY (r _).2).2 _).2
     ·exact hok
    have hx2:∃s' q',x'=⟨7,n,s',.no,[q'],[],[]⟩/\Sm q'/\q'.sz<=N:=by
     rw[hx'];unfold clX;split
     ·have hff:=zE5 (fvT t++q.tv);have h5:=jW q;have h6:=zLC q;have h8:=hq.1.wt;rw[List.length_append] at hff;have h9:(fvT t).length<=590:=Nat.le_trans htl hts;exact⟨_,stF N q s (.var (lett (ff (fvT t++q.tv)))),rfl,hq.1.st N s _ ⟨_,by omega,rfl⟩,by rw[(zEE N q s _ hq.1.ok).1];exact hq.2⟩
     ·exact⟨s,q,rfl,hq.1,hq.2⟩
    have hlaw:=zZ3 (N:=N) (n:=n) (t:=t) h h2 hc.ok;rw[<-hx'] at hlaw;have hdr:zT (List.range (HP ad (zJ (.node 7 n s .no (.kid q .nil)))).length) (HP ad (zJ (.node 7 n s .no (.kid q .nil))))++HP ad (clX N (fvT t) q (zJ (.node 7 n s .no (.kid q .nil))))=HP ad x':=by rw[qF,List.nil_append,hx']
    clear hx';obtain⟨s',q',rfl,hq1,hq2⟩:=hx2;refine Wsem.cut _ ?_ (zR1 hok' (by show 1<=_;decide) (Nat.zero_le _) (Nat.zero_le _) (fun a ha=>by cases ha) v t (fun p=>stF N p v t) (fun p d hd=>?_) (z2B trivial (by simp[Tp.sz]) ht hts) (fun b hb=>by cases hb) (Gives (stF (N+1) (.node 7 n s .no (.kid q .nil)) v t)) fun hk=>⟨rfl,ad,_,hk,hlaw,rfl,rfl⟩)
    ·exact⟨⟨rfl,rfl,rfl,rfl,trivial⟩,trivial,hdr⟩
    ·cases p with
     | kid j =>
      have hd:[q'][j]? = some d:=hd;cases j with
      | zero=>simp at hd;subst hd;exact ih q' v t hq1 hq2 ht hts
      | succ j=>simp at hd
     | bind j=>have hd:(([]:List Bdg)[j]?).map (·.2.2)=some d:=hd;simp at hd
     | alt j=>have hd:(([]:List Alg)[j]?).map (·.2.2)=some d:=hd;simp at hd
  ·have h:s=v:=of_decide_eq_true h;refine⟨by kernel_rfl,?_⟩;refine⟨_,_,hb0,by show 0+10<=10;decide,?_⟩;exact same _ rfl (.inl h)
 ·have h7:¬c.f=7:=of_decide_eq_false h7;refine Wsem.cut _ ?_ (zR1 hok (by show c.kids.length<=_;omega) (by show c.binds.length<=_;omega) (by show c.alts.length<=_;omega) hva v t (fun p=>stF N p v t) (fun p d hd=>ih d v t (hpart p d hd).1 (hpart p d hd).2 ht hts) hct hbt (Gives (stF (N+1) c v t)) fun hk=>⟨rfl,ad,_,hk,z0X hc.n hc.ok h7,rfl,rfl⟩);exact⟨⟨rfl,rfl,rfl,rfl,trivial⟩,trivial,rfl⟩
theorem zK1 (N:Nat):∀(c:Cr) (v:ByteArray) (t:Tp),Sm c->c.sz<=N->LowT 2000 t->t.sz<=590->zF Tryz.prog xB [eC c,str v,eTy t] (eC (stF N c v t)):=by
 induction N with
 | zero=>intro c v t hc hs;have:=zAC hc.n;omega
 | succ N ih=>exact fun c v t hc hs ht hts=>Gives.shut (zJ9 N c v t hc ht hts hs ih)
set_option linter.unusedSimpArgs false
theorem z14 (k:Nat):∀(c:Cr) (x z:ByteArray),c.isN=true->c.Ok->c.LowC 2000->(sbF k c x (vr z)).isN=true/\(sbF k c x (vr z)).Ok/\(sbF k c x (vr z)).wt=c.wt/\(sbF k c x (vr z)).LowC 2000:=by
 induction k with
 | zero=>intro c x z hn ho hl;cases c<;>first|(cases hn;done)|exact⟨rfl,ho,rfl,hl⟩
 | succ k ih =>
  intro c x z hn ho hl;have hall:=zNO (k+1) c x (vr z) hn ho rfl (zLM _);refine⟨hall.1,hall.2.1,?_⟩;have fold:∀(rs:List (ByteArray×ByteArray)) (p:Cr),p.isN=true->p.Ok->p.LowC 2000->(rs.foldl (fun p q=>sbF k p q.1 (vr q.2)) p).isN=true/\(rs.foldl (fun p q=>sbF k p q.1 (vr q.2)) p).Ok/\(rs.foldl (fun p q=>sbF k p q.1 (vr q.2)) p).wt=p.wt/\(rs.foldl (fun p q=>sbF k p q.1 (vr q.2)) p).LowC 2000:=by
   intro rs;induction rs with
   | nil=>intro p h1 h2 h3;exact⟨h1,h2,rfl,h3⟩
   | cons q rs ihr =>
    intro p h1 h2 h3;obtain⟨a1,a2,a3,a4⟩:=ih p q.1 q.2 h1 h2 h3;obtain⟨b1,b2,b3,b4⟩:=ihr _ a1 a2 a4;exact⟨b1,b2,by rw[List.foldl_cons,b3,a3],b4⟩
  have both:∀(rs:List (ByteArray×ByteArray)) (p:Cr),p.isN=true->p.Ok->p.LowC 2000->(sbF k (rs.foldl (fun p q=>sbF k p q.1 (vr q.2)) p) x (vr z)).wt=p.wt/\(sbF k (rs.foldl (fun p q=>sbF k p q.1 (vr q.2)) p) x (vr z)).LowC 2000:=fun rs p h1 h2 h3=>by
   obtain⟨a1,a2,a3,a4⟩:=fold rs p h1 h2 h3;obtain⟨b1,b2,b3,b4⟩:=ih _ x z a1 a2 a4;exact⟨by rw[b3,a3],b4⟩
  cases c with
  | node f n s t g =>
   obtain⟨hg,hgo⟩:=xQ ho;have gl:=hl.2;have halt:∀a∈g.alts,a.2.2.LowC 2000->(zBO (fun rs p=>sbF k (rs.foldl (fun p q=>sbF k p q.1 (vr q.2)) p) x (vr z)) x (vr z).fv a.2.1 a.2.2).1.length=a.2.1.length/\(zBO (fun rs p=>sbF k (rs.foldl (fun p q=>sbF k p q.1 (vr q.2)) p) x (vr z)) x (vr z).fv a.2.1 a.2.2).2.wt=a.2.2.wt/\(zBO (fun rs p=>sbF k (rs.foldl (fun p q=>sbF k p q.1 (vr q.2)) p) x (vr z)) x (vr z).fv a.2.1 a.2.2).2.LowC 2000:=fun a ha hla=>by
    unfold zBO;split
    ·exact⟨rfl,rfl,hla⟩
    ·obtain⟨b1,b2⟩:=both _ a.2.2 (hgo.alt ha).1 (hgo.alt ha).2.1 hla;exact⟨List.length_map _,b1,b2⟩
   simp only[sbF];split
   ·rename_i h1;split
    ·obtain⟨h2,h3⟩:=ho.2.1 h1;subst h2;subst h3;exact⟨rfl,trivial,trivial⟩
    ·exact⟨rfl,hl⟩
   ·split
    ·split
     ·rw[if_neg (show ¬s∈(vr z).tv from fun h=>by cases h)];have:=zEC (φ:=fun p=>sbF k p x (vr z)) (τ:=id) (ν:=id) (α:=Prod.mk) hg hgo gl (fun p hp hpl=>(ih p x z (hgo.kid hp).1 (hgo.kid hp).2 hpl).2.2) (fun b hb h1 h2=>⟨rfl,h1,(ih _ x z (hgo.bind hb).1 (hgo.bind hb).2 h2).2.2⟩) (fun a ha h=>⟨rfl,rfl,h⟩);exact⟨by simp only[Cr.wt,this.1],hl.1,this.2⟩
     ·exact⟨rfl,hl⟩
    ·split
     ·have:=zEC (φ:=id) (τ:=id) (ν:=id) (α:=zBO (fun rs p=>sbF k (rs.foldl (fun p q=>sbF k p q.1 (vr q.2)) p) x (vr z)) x (vr z).fv) hg hgo gl (fun p hp hpl=>⟨rfl,hpl⟩) (fun b hb h1 h2=>⟨rfl,h1,rfl,h2⟩) halt;exact⟨by simp only[Cr.wt,this.1],hl.1,this.2⟩
     ·rename_i rs _;have:=zEC (φ:=fun p=>sbF k (rs.foldl (fun p q=>sbF k p q.1 (vr q.2)) p) x (vr z)) (τ:=id) (ν:=nw rs) (α:=zBO (fun rs p=>sbF k (rs.foldl (fun p q=>sbF k p q.1 (vr q.2)) p) x (vr z)) x (vr z).fv) hg hgo gl (fun p hp hpl=>both rs p (hgo.kid hp).1 (hgo.kid hp).2 hpl) (fun b hb h1 h2=>⟨rfl,h1,both rs b.2.2 (hgo.bind hb).1 (hgo.bind hb).2 h2⟩) halt;exact⟨by simp only[Cr.wt,this.1],hl.1,this.2⟩
  | _=>cases hn
theorem Sm.sb {c:Cr} (h:Sm c) (k:Nat) (x z:ByteArray):Sm (sbF k c x (vr z))/\(sbF k c x (vr z)).sz=c.sz:=by
 obtain⟨h1,h2,h3,h4⟩:=z14 k c x z h.n h.ok h.low;exact⟨⟨h1,h2,by rw[h3];exact h.wt,h4⟩,(zNO k c x (vr z) h.n h.ok rfl (zLM _)).2.2 (z1P _)⟩
theorem zSI (z:ByteArray):Sm (vr z):=⟨rfl,zLM _,by simp[Cr.wt,vr,Tp.sz],⟨trivial,trivial⟩⟩
section
variable {ren:ByteArray->ByteArray->Cr->Cr} {fin:Cr->Cr} {far:List ByteArray} {ps:List Pp}
theorem zDS {p:Pp} (hp:p∉ps):∀{qs:List Pn} {tk:List ByteArray} {x:Nd},zX (renL ren far ps qs tk x) p=zX x p
 | [],_,_=>rfl
 | q::qs,tk,x=>by
  unfold renL;split
  ·split
   ·rw[zDS hp,zGJ,zBZ hp]
   ·exact zDS hp
  ·exact zDS hp
theorem zAL {q:Pn}:∀{qs:List Pn} {tk:List ByteArray} {x:Nd},q∉qs->yI (renL ren far ps qs tk x) q=yI x q
 | [],_,_,_=>rfl
 | q'::qs,tk,x,h=>by
  simp only[List.mem_cons,not_or] at h;unfold renL;split
  ·rename_i n hn;split
   ·rw[zAL h.2];have hn2:yI (updP (ren n (lett (ff tk))) ps x) q'=some n:=by rw[xA];exact hn
    rw[zC0 hn2,if_neg (Ne.symm h.1),xA]
   ·exact zAL h.2
  ·exact zAL h.2
end
end Go.Proofs.YtgonkhaebmfgiaaGreatDoor
