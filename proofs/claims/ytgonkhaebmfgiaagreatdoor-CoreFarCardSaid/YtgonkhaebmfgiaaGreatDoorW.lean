/- SubstType, where there are few names at a place. No condition but on sizes. -/
import Derived.Test.YtgonkhaebmfgiaaGreatDoorV
set_option linter.unusedSimpArgs false
set_option linter.unusedVariables false
namespace Go.Proofs.YtgonkhaebmfgiaaGreatDoor
open Go Fp
set_option maxRecDepth 10000
set_option maxHeartbeats 8000000
set_option linter.unusedVariables false
theorem zNC {ad:Ad} {x:Nd} (hok:AdOk ad x) {q:Cr} (hx:x.ks=[q]) (hq:Wm q) (names:List ByteArray) (hn:names.length<=1000) (k:Nat)
  (ih:∀z,Low 2000 z->zF Tryz.prog yI [eC q,str x.s,eTy (.var z)] (eC (stF k q x.s (.var z)))) :
  CallsG Tryz.prog (fnv zHI) (HP ad x) [pt ad.b0 0,.sl (eSs names)] [] fun r o h=>o=0/\h=HP ad (clX k names q x):=by
 have hget:zU x (.kid 0)=some q:=by show x.ks[0]? = _;rw[hx];rfl
 have hb0:=(zDV hok).1;refine zL (first:=[]) (cap:=[]) ttok mixed Tryz.func56 rfl (by rfl) rfl (Nat.le_of_ble_eq_true rfl) (by kernel_rfl) ?_;refine Wsem.seq ttok mixed ?_;refine⟨_,_,_,hb0,rfl,?_⟩;refine .inl ⟨_,yJ (l:=names) (s:=x.s) (by omega),?_⟩;refine Wsem.cond rfl (fun hm=>?_) (fun hm=>?_)
 ·have hm:x.s∈names:=memb_iff.1 hm;have hqtn:=hq.tn;have hqvw:=hq.vw;have hqsz:=hq.sz;have htv:=wQ q;have hty:=qC hq.n hq.ok (by have:=hq.sz;omega) (by omega);have hK0:=hok.k.at (by rw[hx];exact Nat.zero_lt_one);have hff:=zBI (names++q.tv);rw[List.length_append] at hff;obtain⟨z,hz⟩:∃z,z=lett (ff (names++q.tv)):=⟨_,rfl⟩
  have hlow:Low 2000 z:=⟨_,by omega,hz.symm⟩
  have hfr:zF Tryz.prog zC9 [.sl (eSs names++eSs q.tv)] (str z):=by
   have:=zGG (names++q.tv) (by simp;omega) (by omega);rw[<-hz] at this;rw[show eSs names++eSs q.tv=eSs (names++q.tv) by simp[eSs]];exact this
  have hb7:(yU ad x)[7]? = some (.lit (.slice (some ⟨ad.k.no,0,none⟩) x.ks.length ad.k.cap)):=by show some (slA ad.k x.ks.length)=_;unfold slA;rw[hK0]
  have hlen:x.ks.length=1:=by rw[hx];rfl
  obtain⟨i,l,r1,r2,r3,r4⟩:=qM hok hget;obtain⟨x1,hx1⟩:∃x1,x1=zBK x (.kid 0) (stF k q x.s (.var z)):=⟨_,rfl⟩
  have hok1:AdOk ad x1:=by rw[hx1];exact (r4 _).2
  refine Wsem.seqS (Wsem.regionTZ zAD ttok mixed [0,1,2,3,4,5,6,7,8,9,10,11] [0,2] (by kernel_rfl) ?_);refine⟨_,_,zIL (eSs names) (xK _) (by simp[eSs];omega),?_⟩;refine⟨_,_,_,hb0,hb7,?_⟩;refine⟨by omega,by omega,?_⟩;refine⟨i,l,r1,r2,?_⟩;refine .inr (.inl ⟨.sl (eSs q.tv),by show zB5 Tryz.prog _ [.agg ((l.drop (adP ad (.kid 0)).2).take 10)] _;rw[r3];exact hty,?_⟩);refine⟨by show (eSs names).length+(eSs q.tv).length<=_;simp[eSs];omega,xK _,xK _,?_⟩;refine .inl ⟨_,hfr,?_⟩;refine⟨by kernel_rfl,?_⟩;refine Wsem.cut {vs:=[(0,.v (pt ad.b0 0)),(4,.v (str z))],hp:=HP ad x} ⟨⟨rfl,rfl,trivial⟩,trivial,rfl⟩ ?_;refine Wsem.seq ttok mixed ?_;refine⟨_,_,_,hb0,hb7,?_⟩;refine⟨_,_,_,hb0,hb7,?_⟩;refine⟨by omega,by omega,?_⟩;refine⟨i,l,r1,r2,?_⟩;refine⟨_,_,_,hb0,rfl,?_⟩;refine .inl ⟨_,zOJ z,?_⟩;refine .inr (.inl ⟨eC (stF k q x.s (.var z)),by show zB5 Tryz.prog _ [.agg ((l.drop (adP ad (.kid 0)).2).take 10),_,_] _;rw[r3];exact ih z hlow,?_⟩);refine⟨by omega,by omega,?_⟩;refine⟨rfl,i,l,r1,r2,?_⟩;refine⟨by kernel_rfl,?_⟩;refine Wsem.cut {vs:=[(0,.v (pt ad.b0 0)),(4,.v (str z))],hp:=HP ad x1} ⟨⟨rfl,rfl,trivial⟩,trivial,by show (HP ad x).set i (_,HO.cells (setAt l _ (eC (stF k q x.s (.var z))).cells))=_;rw[hx1];exact (r4 _).1⟩ ?_;refine Wsem.of ttok mixed ?_;refine⟨rfl,(hM ad x1).length,yU ad x1,(zDV hok1).1,by show 0+2+1<=10;decide,?_⟩;refine⟨rfl,?_⟩;show (HP ad x1).set (hM ad x1).length (ad.b0,HO.cells (setAt (yU ad x1) 2 [str z]))=_;rw[((zDV hok1).2 z).1,hx1]
  unfold clX;rw[if_pos hm,<-hz]
 ·have hm:x.s∉names:=fun h=>by rw[memb_iff.2 h] at hm;cases hm
  refine Wsem.of ttok mixed ?_;refine⟨rfl,?_⟩;show HP ad x=_;unfold clX;rw[if_neg hm]
theorem zJE (N:Nat) (c:Cr) (v:ByteArray) (t:Tp) (hc:Wm c) (ht:LowT 2000 t) (hts:t.sz<=590) (hN:c.sz<=N+1) (ih:∀(d:Cr) (v:ByteArray) (t:Tp),Wm d->d.sz<=N->LowT 2000 t->t.sz<=590->zF Tryz.prog yI [eC d,str v,eTy t] (eC (stF N d v t))) :
  CallsG Tryz.prog (fnv yI) [] [eC c,str v,eTy t] [] (Gives (stF (N+1) c v t)):=by
 have hcs:=hc.sz;have hl:=wK c hc.ok;have hown:=zDQ hc.gd (by omega);have htn:=hc.tn;have hvw:=hc.vw;have fit5:∀u:Tp,TyS u->Fit 2000 u [(v,t)]:=fun u hu=>⟨hu.low,fun p hp=>by simp at hp;subst hp;exact ht,by have:=hu.dp;omega,by have:=hu.dp;simp;omega,by have:=hu.sz;omega,fun p hp=>by simp at hp;subst hp;simp only;omega⟩
 have htl:=y9 t;refine zL (first:=[]) (cap:=[]) ttok mixed Tryz.func22 rfl (by rfl) rfl (Nat.le_of_ble_eq_true rfl) (by kernel_rfl) ?_;refine Wsem.seq ttok mixed ?_;refine Wsem.seq ttok mixed ?_;refine .inr (.inr (.inr (.inr (.inr (.inl ⟨[],[],[],_,rfl,List.nodup_nil,rfl,hown,?_⟩)))));rintro _ _ _ ⟨rfl,ad0,hok0,rfl,rfl⟩;refine Wsem.letout 7 rfl rfl fun b=>?_;obtain⟨ad,had⟩:∃ad:Ad,ad={ad0 with b0:=b}:=⟨_,rfl⟩
 have hok:AdOk ad (zD c):=by subst had;exact⟨hok0.k,hok0.b,hok0.a,hok0.len,hok0.vs⟩
 refine Wsem.cut {vs:=[(3,.box 0 (eC c)),(4,.box 0 (str v)),(5,.box 0 (eTy t)),(6,.box 0 eZ),(7,.v (pt ad.b0 0))],hp:=HP ad (zD c)} ⟨⟨rfl,rfl,rfl,rfl,by subst had;rfl,trivial⟩,trivial,by subst had;rfl⟩ ?_;have hpart:∀(p:Pp) (d:Cr),zU (zD c) p=some d->Wm d/\d.sz<=N:=fun p d hd=>⟨(hc.part hd).1,by have:=(hc.part hd).2;omega⟩
 have hbt:∀b∈c.binds,Fit 2000 b.2.1 [(v,t)]:=fun b hb=>fit5 _ (hc.gd.ty.bind hb).1;have hct:Fit 2000 c.t [(v,t)]:=fit5 _ (hc.gd.ty.node hc.n);have hva:∀a∈c.alts,a.2.1.length<=1000000:=fun a ha=>by have:=(hc.few.alt ha).2;omega
 have hback:(zD c).cr=c:=zN4 hc.n hc.ok;refine Wsem.seq ttok mixed ?_;refine⟨fun h7=>?_,fun h7=>?_⟩
 ·have h7:c.f=7:=of_decide_eq_true h7;obtain⟨n,s,q,rfl⟩:=zUF hc.ok hc.n h7;have same:∀X:Nd,X=zD (Cr.node 7 n s .no (.kid q .nil))->(s=v∨v∉q.tv)->Gives (stF (N+1) (.node 7 n s .no (.kid q .nil)) v t) (.agg (yU ad X)) 0 (HP ad X):=fun X hX h=>by
   subst hX;rw[zUZ h];exact⟨rfl,ad,_,hok,hback,rfl,rfl⟩
  have hb0:=(zDV hok).1;have htyc:=qC hc.n hc.ok (by omega) (by omega);have hmt := @tv7 n s v q;have htvl:=wQ (Cr.node 7 n s .no (.kid q .nil));generalize htv:(Cr.node 7 n s .no (.kid q .nil)).tv=tvs at htyc hmt htvl;refine⟨fun h=>?_,fun h=>?_⟩
  ·have h:¬s=v:=of_decide_eq_false h;refine .inl ⟨_,htyc,?_⟩;refine .inl ⟨_,yJ (l:=tvs) (s:=v) (by omega),?_⟩;refine⟨by kernel_rfl,?_⟩;refine⟨fun h2=>?_,fun h2=>?_⟩
   ·have h2:v∉q.tv:=fun hm=>by rw[memb_iff.2 ((hmt h).2 hm)] at h2;cases h2
    refine⟨_,_,hb0,by show 0+10<=10;decide,?_⟩;exact same _ rfl (.inr h2)
   ·have h2:v∈q.tv:=(hmt h).1 (memb_iff.1 (by cases hm:memb v tvs with|true=>rfl|false=>rw[hm] at h2;cases h2));have hq:=hpart (.kid 0) q rfl;have hcl:=zNC hok (q:=q) rfl hq.1 (fvT t) (Nat.le_trans htl (by omega)) N fun z hz=>ih q s (.var z) hq.1 hq.2 hz (by simp[Tp.sz]);refine .inl ⟨_,zE8 t.sz (by omega) t (Nat.le_refl _),?_⟩;refine .inr (.inr (.inr (.inr (.inr (.inl ⟨List.range (HP ad (zD (.node 7 n s .no (.kid q .nil)))).length,_,[],_,yT _,List.nodup_range,rfl,hcl,?_⟩)))));rintro _ _ _ ⟨rfl,rfl⟩;obtain⟨x',hx'⟩:∃x',x'=clX N (fvT t) q (zD (.node 7 n s .no (.kid q .nil))):=⟨_,rfl⟩
    have hok':AdOk ad x':=by
     rw[hx'];unfold clX;split
     ·obtain⟨_,_,_,_,_,r⟩:=qM hok (p := .kid 0) (c:=q) rfl;exact ((zDV (r _).2).2 _).2
     ·exact hok
    have hx2:∃s' q',x'=⟨7,n,s',.no,[q'],[],[]⟩/\Wm q'/\q'.sz<=N:=by
     rw[hx'];unfold clX;split
     ·have hff:=zBI (fvT t++q.tv);have h5:=wQ q;have h8:=hq.1.vw;rw[List.length_append] at hff;have h9:(fvT t).length<=590:=Nat.le_trans htl hts;exact⟨_,stF N q s (.var (lett (ff (fvT t++q.tv)))),rfl,hq.1.st N s _ hq.2 ⟨_,by omega,rfl⟩,by rw[(xA N q s _ hq.1.ok).1];exact hq.2⟩
     ·exact⟨s,q,rfl,hq.1,hq.2⟩
    have hlaw:=zUR (N:=N) (n:=n) (t:=t) h h2 hc.ok;rw[<-hx'] at hlaw;have hdr:zS (List.range (HP ad (zD (.node 7 n s .no (.kid q .nil)))).length) (HP ad (zD (.node 7 n s .no (.kid q .nil))))++HP ad (clX N (fvT t) q (zD (.node 7 n s .no (.kid q .nil))))=HP ad x':=by rw[xC,List.nil_append,hx']
    clear hx';obtain⟨s',q',rfl,hq1,hq2⟩:=hx2;refine Wsem.cut _ ?_ (zJS hok' (by show 1<=_;decide) (Nat.zero_le _) (Nat.zero_le _) (fun a ha=>by cases ha) v t (fun p=>stF N p v t) (fun p d hd=>?_) (z1K trivial (by simp[Tp.sz]) ht hts) (fun b hb=>by cases hb) (Gives (stF (N+1) (.node 7 n s .no (.kid q .nil)) v t)) fun hk=>⟨rfl,ad,_,hk,hlaw,rfl,rfl⟩)
    ·exact⟨⟨rfl,rfl,rfl,rfl,trivial⟩,trivial,hdr⟩
    ·cases p with
     | kid j =>
      have hd:[q'][j]? = some d:=hd;cases j with
      | zero=>simp at hd;subst hd;exact ih q' v t hq1 hq2 ht hts
      | succ j=>simp at hd
     | bind j=>have hd:(([]:List Bdg)[j]?).map (·.2.2)=some d:=hd;simp at hd
     | alt j=>have hd:(([]:List Alg)[j]?).map (·.2.2)=some d:=hd;simp at hd
  ·have h:s=v:=of_decide_eq_true h;refine⟨by kernel_rfl,?_⟩;refine⟨_,_,hb0,by show 0+10<=10;decide,?_⟩;exact same _ rfl (.inl h)
 ·have h7:¬c.f=7:=of_decide_eq_false h7;refine Wsem.cut _ ?_ (zJS hok (by show c.kids.length<=_;omega) (by show c.binds.length<=_;omega) (by show c.alts.length<=_;omega) hva v t (fun p=>stF N p v t) (fun p d hd=>ih d v t (hpart p d hd).1 (hpart p d hd).2 ht hts) hct hbt (Gives (stF (N+1) c v t)) fun hk=>⟨rfl,ad,_,hk,zUY hc.n hc.ok h7,rfl,rfl⟩);exact⟨⟨rfl,rfl,rfl,rfl,trivial⟩,trivial,rfl⟩
theorem qJ (N:Nat):∀(c:Cr) (v:ByteArray) (t:Tp),Wm c->c.sz<=N->LowT 2000 t->t.sz<=590->zF Tryz.prog yI [eC c,str v,eTy t] (eC (stF N c v t)):=by
 induction N with
 | zero=>intro c v t hc hs;have:=wL hc.n;omega
 | succ N ih=>exact fun c v t hc hs ht hts=>Gives.shut (zJE N c v t hc ht hts hs ih)
set_option maxHeartbeats 16000000
theorem zKR {c:Cr} (hok:c.Ok) (hn:c.isN=true) {z:ByteArray}:(∀d∈c.kids,z∈d.fv->z∈c.fv∨z∈c.names0)/\(∀b∈c.binds,z∈b.2.2.fv->z∈c.fv∨z∈c.names0)/\(∀a∈c.alts,z∈a.2.2.fv->z∈c.fv∨z∈a.2.1):=by
 cases c with
 | node f n s t g =>
  obtain⟨hg,hgo⟩:=zY hok;have up:f≠1->z∈g.fv->z∈(Cr.node f n s t g).fv∨z∈(Cr.node f n s t g).names0:=fun h1 hz=>by
   by_cases hm:z∈(Cr.node f n s t g).names0
   ·exact .inr hm
   ·exact .inl ((wF h1).2 ⟨hz,hm⟩)
  have one:∀{α:Type} {l:List α} {a:α},a∈l->(g = .nil->l=[])->f≠1:=fun ha h0 hf=>by rw[h0 (hok.2.1 hf).2] at ha;cases ha
  refine⟨fun d hd hz=>up (one hd fun e=>by subst e;rfl) ((z5F (g:=g) hd hg hgo).1 hz),fun b hb hz=>up (one hb fun e=>by subst e;rfl) ((zZG (g:=g) hb hg hgo).1 hz),fun a ha hz=>?_⟩;have h9:f=9:=hok.2.2.2.2.2.1 fun e=>by have hm:a∈g.alts:=ha;rw[e] at hm;cases hm
  have hb0:g.binds=[]:=Classical.byContradiction fun e=>absurd (hok.2.2.2.2.1 e) (by rw[h9];decide);have e1:(Cr.node f n s t g).names0=[]:=by subst h9;show (if (9:Int)=5 then [s] else [])++g.binds.map (·.1)=[];rw[hb0];rfl
  rcases (z5R (x:=z) (g:=g) ha hg hgo).1 hz with h|h
  ·exact .inr h
  ·rcases up (by rw[h9];decide) h with h|h
   ·exact .inl h
   ·rw[e1] at h;cases h
 | _=>cases hn
theorem z1U {c:Cr} (hc:Wm c) {G:List Pn×List Pp} (hG:G∈zN (zD c)):G.1.length<=700/\(∀z∈frX (zD c) G.2,z∈c.fv∨z∈nsX (zD c) G.1)/\c.fv.length+(nsX (zD c) G.1).length<=700:=by
 have hfw:=hc.fw;rcases List.mem_cons.1 hG with rfl|hG
 ·have h1:=(zJW hc.n).2.2;have e1:=zDO c hc.n;have e2:(zFG (zD c)).length=c.names0.length:=by rw[<-e1];simp[nsX]
  refine⟨by show (zFG (zD c)).length<=_;omega,fun z hz=>?_,by show _+(nsX (zD c) (zFG (zD c))).length<=_;rw[e1];omega⟩;have hz:z∈c.parts0.flatMap Cr.fv:=by rw[<-zHF];exact hz
  obtain⟨d,hd,hz⟩:=List.mem_flatMap.1 hz;show z∈c.fv∨z∈nsX (zD c) (zFG (zD c));rw[e1];rcases List.mem_append.1 hd with hd|hd
  ·exact (zKR hc.ok hc.n).1 d hd hz
  ·obtain⟨b,hb,rfl⟩:=List.mem_map.1 hd;exact (zKR hc.ok hc.n).2.1 b hb hz
 ·obtain⟨j,hj,rfl⟩:=List.mem_map.1 hG;have hj:j<c.alts.length:=List.mem_range.1 hj;have ha:=List.getElem?_eq_getElem hj;have hm:=List.getElem_mem hj;have e1:=zJV ha;have e2:=zOC ha;have h2:=(zGF c).2.2 _ hm;have e3:((List.range (nvs (zD c) j)).map (Pn.var j)).length=c.alts[j].2.1.length:=by rw[<-e1];simp[nsX]
  simp only;rw[e1,e2];exact⟨by omega,fun z hz=>(zKR hc.ok hc.n).2.2 _ hm hz,by omega⟩
theorem z2B {N:Nat} {n:Int} {s:ByteArray} {q:Cr} (hc:Wm (.node 7 n s .no (.kid q .nil))) (hqN:q.sz<=N) {z:ByteArray} (hok7:(Cr.node 7 n z .no (.kid (stF N q s (.var z)) .nil)).Ok) (hst:Wm (stF N q s (.var z))):Wm (.node 7 n z .no (.kid (stF N q s (.var z)) .nil)):=by
 have hq:=(hc.part (p := .kid 0) (d:=q) rfl).1;obtain⟨a1,a2,a3⟩:=xA N q s (.var z) hq.ok;have hsz:=hc.sz;have htn:=hc.tn;have hfw:=hc.fw;have hvw:=hc.vw;have hdp:=zLM N q s (.var z);have htn2:=zT5 N q s z;have e1:(Cr.node 7 n z .no (.kid (stF N q s (.var z)) .nil)).fv.length<=(Cr.node 7 n s .no (.kid q .nil)).fv.length:=yZ _ _ (zE4 _) fun y hy=>by
  have:=fv7.1 hy;rw[a2] at this;exact fv7.2 this
 have e2:(Cr.node 7 n z .no (.kid (stF N q s (.var z)) .nil)).tv.length<=(Cr.node 7 n s .no (.kid q .nil)).tv.length:=yZ _ _ (zCD _) fun y hy=>by
  rcases mem_tv_node.1 hy with h|⟨h1,h2⟩
  ·cases h
  ·rcases mem_tv_kid.1 h1 with h1|h1
   ·rcases zTV hq.ok hq.n hqN y h1 with⟨h3,h4⟩|⟨_,h3⟩
    ·exact mem_tv_node.2 (.inr ⟨mem_tv_kid.2 (.inl h4),fun e=>h3 e.2⟩)
    ·exact absurd ⟨rfl,by simpa[fvT,fv] using h3⟩ h2
   ·cases h1
 have d1:dpC (.node 7 n z .no (.kid (stF N q s (.var z)) .nil))<=dpC (.node 7 n s .no (.kid q .nil)):=by simp only[dpC,Cr.binds];omega
 refine⟨rfl,hok7,⟨zG1 N q s _ hq.few,trivial⟩,⟨hc.ta.1,hst.ta,trivial⟩,by simp only[Cr.sz,a1] at hsz⊢;exact hsz,by simp only[Cr.tn] at htn⊢;omega,by omega,by omega⟩
theorem z3V (N:Nat) {ad:Ad} {c:Cr} (hc:Wm c) (hcN:c.sz<=N+1) (hok:AdOk ad (zD c)) (y:ByteArray) (b:Cr) (hb:Wm b)
  (ih:∀(d:Cr) (y:ByteArray) (b:Cr),Wm d->d.sz<=N->Wm b->zF Tryz.prog yL [eC d,str y,eC b] (eC (sbF N d y b))) (X:Nd) (hX:X=putAll (fun n z d=>sbF N d n (vr z)) (fun d=>sbF N d y b) b.fv y (zN (zD c)) (zD c))
  (post:AV->Nat->List (Nat×HO)->Prop) (hpost:AdOk ad X->post (.agg (yU ad X)) 0 (HP ad X)) :
  Wsem Tryz.prog (sn4 (bodyC Tryz.f16)) (mkC {vs:=[(1,.v (str y)),(5,.box 0 (eC b)),(6,.box 0 eZ),(7,.v (pt ad.b0 0))],hp:=HP ad (zD c)})
   (fun c2=>yX tt Tryz.f16.results.toList post (den c2)) (fun _ _=>False) (fun c2=>yX tt Tryz.f16.results.toList post (den c2)):=by
 have hl:=wK c hc.ok;have hcs:=hc.sz;have hbs:=hb.sz;have hbf:=zB4 b;have hva:∀a∈c.alts,a.2.1.length<=1000000:=fun a ha=>by have:=(hc.few.alt ha).2;omega
 have hbw:=hb.fw;obtain⟨x,hx⟩:∃x,x=zD c:=⟨_,rfl⟩
 have hgl:(zN (zD c)).length=c.alts.length+1:=zG3;have hq:zNT (fun d=>Wm d/\d.sz<=N) y b (fun n z d=>sbF N d n (vr z)) (fun d=>sbF N d y b):=by
  refine⟨fun d hd=>?_,?_,fun d n z hd=>⟨ih d n (vr z) hd.1 hd.2 (z9A z),(hd.1.sb N hd.2 n z).1,by rw[(hd.1.sb N hd.2 n z).2];exact hd.2⟩,fun d hd=>ih d y b hd.1 hd.2 hb⟩
  ·exact qW hd.1.n hd.1.ok hd.1.gd.few (by have:=hd.1.sz;omega)
  ·exact qW hb.n hb.ok hb.gd.few (by omega)
 refine Wsem.seq ttok mixed ?_;refine .inr (.inr (.inl ⟨List.range (HP ad (zD c)).length,HP ad (zD c),.sl (mG ad (zD c)),yT _,List.nodup_range,zDC hok (by show c.kids.length<=_;omega) (by show c.binds.length<=_;omega) (by show c.alts.length<=_;omega) hva,?_⟩));refine⟨{k:Nat // k<=(zN (zD c)).length},fun k=>{vs:=[(1,.v (str y)),(5,.box 0 (eC b)),(6,.box 0 eZ),(7,.v (pt ad.b0 0)),(35,.v (.sl ((zN (zD c)).map (eGp ad)))),(36,sv ((zN (zD c)).length:Nat)),(37,sv (k.1:Nat))],hp:=HP ad (putAll (fun n z d=>sbF N d n (vr z)) (fun d=>sbF N d y b) b.fv y ((zN (zD c)).take k.1) (zD c))},
  fun k=>(zN (zD c)).length-k.1,⟨0,Nat.zero_le _⟩,⟨⟨rfl,rfl,rfl,rfl,?_,?_,rfl,trivial⟩,trivial,rfl⟩,?_⟩
 ·show SV.v (.sl (mG ad (zD c)))=_;rw[zI6 hok]
 ·show sv _=sv _;rw[zI6 hok];simp
 rintro⟨k,hkk⟩;refine⟨fun h=>?_,fun h=>?_⟩
 ·have h:k<(zN (zD c)).length:=by have h:=of_decide_eq_true h;simp only at h;omega
  have hg:=List.getElem?_eq_getElem h;have hgm:=List.getElem_mem h;have hsn:(zN (zD c)).take (k+1)=(zN (zD c)).take k++[(zN (zD c))[k]]:=List.take_succ_eq_append_getElem h;generalize (zN (zD c))[k]=G at hg hgm hsn;obtain⟨g1,g2⟩:=zDP hgm;have g3:=zJR hgm;obtain⟨g4,g6,g7⟩:=z1U hc hgm;have g5:=zNE hgm;obtain⟨xk,hxk⟩:∃xk,xk=putAll (fun n z d=>sbF N d n (vr z)) (fun d=>sbF N d y b) b.fv y ((zN (zD c)).take k) (zD c):=⟨_,rfl⟩
  have hokk:AdOk ad xk:=by rw[hxk];exact hok.putAll
  have hPk:∀p∈G.2,zU xk p=zU (zD c) p:=fun p hp=>by rw[hxk];exact qA (zHJ hg hp)
  have hNk:∀q∈G.1,yG xk q=yG (zD c) q:=fun q hq=>by rw[hxk];exact wX (zJK hg hq)
  have hnsk:nsX xk G.1=nsX (zD c) G.1:=List.map_congr_left fun q hq=>by unfold nmN;rw[hNk q hq]
  have hput:=z2N (g:=G) g2 g1 (by omega) (by have:G.2.length<=c.kids.length+c.binds.length+1:=g3;omega) hq hokk (fun p hp=>by
   obtain⟨d,hd⟩:=zGW G hgm p hp;have hs:=hc.part hd;exact⟨d,by rw[hPk p hp];exact hd,hs.1,by omega⟩) (fun q hq=>by rw[hNk q hq];exact zA5 G hgm q hq) 1400 ⟨(c.fv++nsX (zD c) G.1)++b.fv,by simp only[List.length_append];omega,fun z hz=>by
   rw[zEF hPk,hnsk] at hz;rcases List.mem_append.1 hz with hz|hz
   ·rcases List.mem_append.1 hz with hz|hz
    ·exact List.mem_append_left _ (List.mem_append.2 (g6 z hz))
    ·exact List.mem_append_left _ (List.mem_append_right _ hz)
   ·exact List.mem_append_right _ hz⟩ (by omega) (by rw[zEF hPk];omega)
  refine⟨_,by omega,by show ((zN (zD c)).map (eGp ad))[(k:Int).toNat]? = _;rw[show (k:Int).toNat=k from rfl,List.getElem?_map,hg];rfl,rfl,?_⟩;rw[<-hxk];refine .inr (.inr (.inr (.inr (.inr (.inl ⟨List.range (HP ad xk).length,_,[],_,yT _,List.nodup_range,rfl,hput,?_⟩)))));rintro r o h1 ⟨rfl,rfl⟩;refine⟨⟨k+1,h⟩,by simp;omega,⟨rfl,rfl,rfl,rfl,rfl,rfl,svc (wrap_succ (k:=k) (by omega)),trivial⟩,trivial,?_⟩;show zS (List.range (HP ad xk).length) (HP ad xk)++HP ad (putX _ _ b.fv y G xk)=HP ad (putAll _ _ b.fv y ((zN (zD c)).take (k+1)) (zD c));rw[xC,List.nil_append,hsn,hxk];unfold putAll;rw[List.foldl_append]
  rfl
 ·have h:k=(zN (zD c)).length:=by have h:=of_decide_eq_false h;simp only at h;omega
  subst h;have hall:putAll (fun n z d=>sbF N d n (vr z)) (fun d=>sbF N d y b) b.fv y ((zN (zD c)).take (zN (zD c)).length) (zD c)=X:=by rw[List.take_length,hX]
  have hokX:AdOk ad X:=by rw[hX];exact hok.putAll
  refine Wsem.cut {vs:=[(6,.box 0 eZ),(7,.v (pt ad.b0 0))],hp:=HP ad X} ⟨⟨rfl,rfl,trivial⟩,trivial,by rw[<-hall];rfl⟩ ?_;refine Wsem.seq ttok mixed ?_;refine⟨(hM ad X).length,yU ad X,(zDV hokX).1,by show 0+10<=10;decide,?_⟩;refine Wsem.of ttok mixed ?_;exact hpost hokX
theorem zIW (N:Nat) (c:Cr) (y:ByteArray) (b:Cr) (hc:Wm c) (hb:Wm b) (hN:c.sz<=N+1) (hv:c.f=1->c.s≠y) (ih:∀(d:Cr) (y:ByteArray) (b:Cr),Wm d->d.sz<=N->Wm b->zF Tryz.prog yL [eC d,str y,eC b] (eC (sbF N d y b))) :
  Wsem Tryz.prog (zAR (zAR (bodyC Tryz.f16))) (mkC {vs:=[(1,.v (str y)),(3,.box 0 (eC c)),(5,.box 0 (eC b)),(6,.box 0 eZ)],hp:=[]})
   (fun c2=>yX tt Tryz.f16.results.toList (Gives2 (sbF (N+1) c y b)) (den c2)) (fun _ _=>False) (fun c2=>yX tt Tryz.f16.results.toList (Gives2 (sbF (N+1) c y b)) (den c2)):=by
 have hcs:=hc.sz;have hbs:=hb.sz;have hown:=zDQ hc.gd (by omega);have hbtn:=hb.tn;have hbw:=hb.vw;have hbtv:=wQ b;have hfl:=zB4 c;refine Wsem.seq ttok mixed ?_;refine .inr (.inr (.inr (.inr (.inr (.inl ⟨[],[],[],_,rfl,List.nodup_nil,rfl,hown,?_⟩)))));rintro _ _ _ ⟨rfl,ad0,hok0,rfl,rfl⟩;refine Wsem.letout 7 rfl rfl fun bb=>?_;obtain⟨ad,had⟩:∃ad:Ad,ad={ad0 with b0:=bb}:=⟨_,rfl⟩
 have hok:AdOk ad (zD c):=by subst had;exact⟨hok0.k,hok0.b,hok0.a,hok0.len,hok0.vs⟩
 refine Wsem.cut {vs:=[(1,.v (str y)),(3,.box 0 (eC c)),(5,.box 0 (eC b)),(6,.box 0 eZ),(7,.v (pt ad.b0 0))],hp:=HP ad (zD c)} ⟨⟨rfl,rfl,rfl,rfl,by subst had;rfl,trivial⟩,trivial,by subst had;rfl⟩ ?_;have hall:=qK (N+1) c y b hc.n hc.ok hb.n hb.ok;have fin:∀(c':Cr),Wm c'->c'.sz<=N+1->AdOk ad (zD c')->zD8 N y b c'=zD (sbF (N+1) c y b) ->
   Wsem Tryz.prog (sn4 (bodyC Tryz.f16)) (mkC {vs:=[(1,.v (str y)),(5,.box 0 (eC b)),(6,.box 0 eZ),(7,.v (pt ad.b0 0))],hp:=HP ad (zD c')})
    (fun c2=>yX tt Tryz.f16.results.toList (Gives2 (sbF (N+1) c y b)) (den c2)) (fun _ _=>False) (fun c2=>yX tt Tryz.f16.results.toList (Gives2 (sbF (N+1) c y b)) (den c2)):=fun c' hc' hs' hok' hX=>by
  refine z3V N hc' hs' hok' y b hb ih (zD8 N y b c') rfl _ fun hk => .inr ⟨rfl,ad,_,hk,?_,rfl,rfl⟩;rw[hX];exact zN4 hall.1 hall.2.1
 refine Wsem.seq ttok mixed ?_;refine⟨fun h7=>?_,fun h7=>?_⟩
 ·have h7:c.f=7:=of_decide_eq_true h7;have hfr:=qW hc.n hc.ok hc.gd.few (by omega);refine .inl ⟨_,hfr,?_⟩;refine .inl ⟨_,yJ (l:=c.fv) (s:=y) (by omega),?_⟩;obtain⟨n,s,q,rfl⟩:=zUF hc.ok hc.n h7;refine⟨fun h2=>?_,fun h2=>?_⟩
  ·have h2:y∈q.fv:=fv7.1 (memb_iff.1 h2);have hq:=hc.part (p := .kid 0) (d:=q) rfl;have hqN:q.sz<=N:=by omega
   have hcl:=zNC hok (q:=q) rfl hq.1 b.tv (by omega) N fun z hz=>qJ N q s (.var z) hq.1 hqN hz (by simp[Tp.sz]);refine .inl ⟨_,qC hb.n hb.ok (by omega) (by omega),?_⟩;refine .inr (.inr (.inr (.inr (.inr (.inl ⟨List.range (HP ad (zD (.node 7 n s .no (.kid q .nil)))).length,_,[],_,yT _,List.nodup_range,rfl,hcl,?_⟩)))));rintro _ _ _ ⟨rfl,rfl⟩;have hx2:∃c',clX N b.tv q (zD (.node 7 n s .no (.kid q .nil)))=zD c'/\Wm c'/\c'.sz<=N+1/\AdOk ad (zD c')/\zD8 N y b c'=zD (sbF (N+1) (.node 7 n s .no (.kid q .nil)) y b):=by
    by_cases hs:s∈b.tv
    ·have hz:Low 2000 (lett (ff (b.tv++q.tv))):=by
      have hff:=zBI (b.tv++q.tv);have h5:=wQ q;have h8:=hq.1.vw;rw[List.length_append] at hff;exact⟨_,by omega,rfl⟩
     have hst:=hq.1.st N s _ hqN hz;have hsf:=xA N q s (.var (lett (ff (b.tv++q.tv)))) hq.1.ok;have hcl2:clX N b.tv q (zD (.node 7 n s .no (.kid q .nil)))=zD (.node 7 n (lett (ff (b.tv++q.tv))) .no (.kid (stF N q s (.var (lett (ff (b.tv++q.tv))))) .nil)):=by
      unfold clX;rw[if_pos (show (zD (Cr.node 7 n s .no (.kid q .nil))).s∈b.tv from hs)];rfl
     have hok7:(Cr.node 7 n (lett (ff (b.tv++q.tv))) .no (.kid (stF N q s (.var (lett (ff (b.tv++q.tv))))) .nil)).Ok:=by
      have:=hc.ok;exact⟨this.1,fun h=>absurd h (by decide),fun _=>rfl,this.2.2.2.1,this.2.2.2.2.1,this.2.2.2.2.2.1,this.2.2.2.2.2.2.1,hst.n,rfl,hst.ok,trivial⟩
     have hWm:=z2B hc hqN hok7 hst;refine⟨_,hcl2,hWm,by simp only[Cr.sz,hsf.1] at hN⊢;exact hN,?_,?_⟩
     ·rw[<-hcl2];unfold clX;rw[if_pos (show (zD (Cr.node 7 n s .no (.kid q .nil))).s∈b.tv from hs)];obtain⟨_,_,_,_,_,r⟩:=qM hok (p := .kid 0) (c:=q) rfl;exact ((zDV (r _).2).2 _).2
     ·rw[zBV hok7,zJP (by rw[hsf.2.1];exact h2),zRE h2 hs]
    ·have hcl2:clX N b.tv q (zD (.node 7 n s .no (.kid q .nil)))=zD (.node 7 n s .no (.kid q .nil)):=by
      unfold clX;rw[if_neg (show ¬(zD (Cr.node 7 n s .no (.kid q .nil))).s∈b.tv from hs)]
     exact⟨_,hcl2,hc,hN,hok,by rw[zBV hc.ok,zJP h2,zP7 h2 hs]⟩
   obtain⟨c',e1,e2,e3,e4,e5⟩:=hx2;refine Wsem.cut _ ?_ (fin c' e2 e3 e4 e5);refine⟨⟨rfl,rfl,rfl,rfl,trivial⟩,trivial,?_⟩;show zS (List.range _) (HP ad (zD (.node 7 n s .no (.kid q .nil))))++HP ad (clX N b.tv q (zD (.node 7 n s .no (.kid q .nil))))=_;rw[xC,List.nil_append,e1]
  ·have h2:y∉q.fv:=fun hm=>by rw[memb_iff.2 (fv7.2 hm)] at h2;cases h2
   refine Wsem.cut _ ?_ (fin _ hc hN hok (by rw[zBV hc.ok,z0T h2,zVQ h2]));exact⟨⟨rfl,rfl,rfl,rfl,trivial⟩,trivial,rfl⟩
 ·have h7:¬c.f=7:=of_decide_eq_false h7;have hlaw:zD8 N y b c=zD (sbF (N+1) c y b):=by
   have hn:=hc.n;have ho:=hc.ok;cases c with
   | node f n s t g =>
    rw[zBV ho];by_cases h1:f=1
    ·have hs:¬s=y:=hv h1;obtain⟨e1,e2⟩:=ho.2.1 h1;subst h1;subst e1;subst e2;rw[sbF,if_pos rfl,if_neg hs]
     rfl
    ·rw[z0W h1 h7]
   | _=>cases hn
  refine Wsem.cut _ ?_ (fin c hc hN hok hlaw);exact⟨⟨rfl,rfl,rfl,rfl,trivial⟩,trivial,rfl⟩
theorem zQD (N:Nat) (c:Cr) (y:ByteArray) (b:Cr) (hc:Wm c) (hb:Wm b) (hN:c.sz<=N+1) (ih:∀(d:Cr) (y:ByteArray) (b:Cr),Wm d->d.sz<=N->Wm b->zF Tryz.prog yL [eC d,str y,eC b] (eC (sbF N d y b))) :
  CallsG Tryz.prog (fnv yL) [] [eC c,str y,eC b] [] (Gives2 (sbF (N+1) c y b)):=by
 have hbs:=hb.sz;refine zL (first:=[]) (cap:=[]) ttok mixed Tryz.func16 rfl (by rfl) rfl (Nat.le_of_ble_eq_true rfl) (by kernel_rfl) ?_;refine Wsem.seq ttok mixed ?_;refine Wsem.seq ttok mixed ?_;refine⟨fun h1=>?_,fun h1=>?_⟩
 ·have h1:c.f=1:=of_decide_eq_true h1;refine⟨fun h2=>?_,fun h2=>?_⟩
  ·have h2:c.s=y:=of_decide_eq_true h2;refine .inl ⟨_,zGD hb.gd (by omega),?_⟩;refine .inl ⟨rfl,?_,rfl⟩;have hn:=hc.n;have ho:=hc.ok;cases c with
   | node f n s t g =>
    have e1:f=1:=h1;have e2:s=y:=h2;rw[sbF,if_pos e1,if_pos e2]
    rfl
   | _=>cases hn
  ·have h2:¬c.s=y:=of_decide_eq_false h2;refine Wsem.cut _ ?_ (zIW N c y b hc hb hN (fun _=>h2) ih);exact⟨⟨rfl,rfl,rfl,rfl,trivial⟩,trivial,rfl⟩
 ·have h1:¬c.f=1:=of_decide_eq_false h1;refine Wsem.cut _ ?_ (zIW N c y b hc hb hN (fun h=>absurd h h1) ih);exact⟨⟨rfl,rfl,rfl,rfl,trivial⟩,trivial,rfl⟩
theorem zM4 (N:Nat):∀(c:Cr) (y:ByteArray) (b:Cr),Wm c->c.sz<=N->Wm b->zF Tryz.prog yL [eC c,str y,eC b] (eC (sbF N c y b)):=by
 induction N with
 | zero=>intro c y b hc hs;have:=wL hc.n;omega
 | succ N ih=>exact fun c y b hc hs hb=>Gives2.shut (zQD N c y b hc hb hs ih)
end Go.Proofs.YtgonkhaebmfgiaaGreatDoor
