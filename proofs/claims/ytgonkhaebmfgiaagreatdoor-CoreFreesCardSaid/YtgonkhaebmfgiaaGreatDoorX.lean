/- The document's Subst: a TLam, a lambda. No condition but that core is small. -/
import Derived.Test.YtgonkhaebmfgiaaGreatDoorW
set_option linter.unusedSimpArgs false
set_option linter.unusedVariables false
namespace Go.Proofs.YtgonkhaebmfgiaaGreatDoor
open Go Fp
set_option maxRecDepth 10000
set_option maxHeartbeats 16000000
set_option linter.unusedVariables false
theorem z00 (N:Nat) (n:Int) (s:ByteArray) (q:Cr) (x:ByteArray) (b:Cr) (hc:Sm (.node 7 n s .no (.kid q .nil))) (hb:Sm b) (hN:(Cr.node 7 n s .no (.kid q .nil)).sz<=N+1) (ih:zPG N) :
  zC Tryz.prog 18 [eC (.node 7 n s .no (.kid q .nil)),str x,eC b] (eC (sbF (N+1) (.node 7 n s .no (.kid q .nil)) x b)):=by
 have hq:Sm q:=(hc.part (p := .kid 0) rfl).1;have hqz:q.sz<=N:=by have e:(Cr.node 7 n s .no (.kid q .nil)).sz=1+(q.sz+0):=rfl;omega
 have hqs:=hq.sz;have hqt:=Nat.le_trans (zGG q) hq.wt;have htq:=xY q;have hbt:=Nat.le_trans (zGG b) hb.wt;have htb:=xY b;have hbs:=hb.sz;have hfw:=zBS hc.n hc.ok;have hFr:=zDG hc;have hfl:=qP (.node 7 n s .no (.kid q .nil));have hcs:=hc.sz;have hH1:=wV (l:=(Cr.node 7 n s .no (.kid q .nil)).fv) (s:=x) (by omega);have hTb:=zFL hb.n hb.ok (by omega) (by omega);have hTbF:=zNB hb.n hb.ok (by omega) (by omega);have hTq:=zFL hq.n hq.ok (by omega) (by omega);have hH2:=wV (l:=b.tv) (s:=s) (by omega);have law1:x∉(Cr.node 7 n s .no (.kid q .nil)).fv->sbF (N+1) (.node 7 n s .no (.kid q .nil)) x b = .node 7 n s .no (.kid q .nil):=fun h=>zXA (fun h2=>h (fv7.2 h2));have law2:x∈(Cr.node 7 n s .no (.kid q .nil)).fv->s∈b.tv->sbF (N+1) (.node 7 n s .no (.kid q .nil)) x b = .node 7 n (lett (ff (b.tv++q.tv))) .no (.kid (sbF N (stF N q s (.var (lett (ff (b.tv++q.tv))))) x b) .nil):=fun h h2=>zSL (fv7.1 h) h2;have law3:x∈(Cr.node 7 n s .no (.kid q .nil)).fv->s∉b.tv->sbF (N+1) (.node 7 n s .no (.kid q .nil)) x b = .node 7 n s .no (.kid (sbF N q x b) .nil):=fun h h2=>zTK (fv7.1 h) h2;have hff:=zCP (b.tv++q.tv);rw[List.length_append] at hff;have hfr:=zI8 (b.tv++q.tv) (by rw[List.length_append];omega) (by omega);have hlow:Low 2000 (lett (ff (b.tv++q.tv))):=⟨_,by omega,rfl⟩
 generalize lett (ff (b.tv++q.tv))=z at hfr hlow law2;have hq2:=hq.st N s z hlow;have hq2z:(stF N q s (.var z)).sz=q.sz:=(jP N q s (.var z) hq.ok).1;have i1:=ih q x b hq hqz hb;have i2:=z1I N q s (.var z) hq hqz hlow (by simp[Tp.sz]);have i3:=ih (stF N q s (.var z)) x b hq2 (by omega) hb;generalize sbF (N+1) (.node 7 n s .no (.kid q .nil)) x b=X at law1 law2 law3;generalize hV:(Cr.node 7 n s .no (.kid q .nil)).fv=V at *;refine zY ttok mixed Tryz.func18 rfl (by rfl) (Nat.le_of_ble_eq_true rfl) (by kernel_rfl) ?_;refine Wsem.seq ttok mixed ?_;refine Wsem.cut {vs:=[(1,.v (str x)),(3,.box 0 (eC (.node 7 n s .no (.kid q .nil)))),(5,.box 0 (eC b)),(6,.box 0 eZ)]} ⟨⟨rfl,rfl,rfl,rfl,trivial⟩,trivial,rfl⟩ ?_;refine Wsem.seq ttok mixed ?_;refine .inl ⟨_,hfw,?_⟩;refine⟨fun h=>absurd h (by decide),fun _=>?_⟩;refine Wsem.cut {vs:=[(1,.v (str x)),(3,.box 0 (eC (.node 7 n s .no (.kid q .nil)))),(5,.box 0 (eC b)),(6,.box 0 eZ)]} ⟨⟨rfl,rfl,rfl,rfl,trivial⟩,trivial,rfl⟩ ?_;refine Wsem.seqS (Wsem.seq ttok mixed ?_);refine Wsem.block ?_;refine Wsem.seq ttok mixed ?_;refine Wsem.cond rfl (fun h=>absurd h (by simp[Cr.f])) (fun _=>?_);refine Wsem.seq ttok mixed ?_;refine Wsem.cond rfl (fun h=>absurd h (by simp[Cr.f])) (fun _=>?_);refine Wsem.seq ttok mixed ?_;refine Wsem.cond rfl (fun _=>?_) (fun h=>absurd h (by simp[Cr.f]));refine Wsem.seqS (Wsem.seq ttok mixed ?_);refine .inl ⟨_,hFr,?_⟩;refine .inl ⟨_,hH1,?_⟩;refine Wsem.cond rfl (fun h2=>?_) (fun h2=>?_)
 ·have h2:x∉V:=fun hm=>by rw[memb_iff.2 hm] at h2;cases h2
  rw[law1 h2];refine Wsem.of ttok mixed ?_;exact rfl
 have h2:x∈V:=by
  cases hm:memb x V with
  | true=>exact memb_iff.1 hm
  | false=>rw[hm] at h2;cases h2
 refine Wsem.of ttok mixed ?_;refine Wsem.seq ttok mixed ?_;refine⟨eC q,by decide,rfl,rfl,?_⟩;refine Wsem.cut {vs:=[(1,.v (str x)),(3,.box 0 (eC (.node 7 n s .no (.kid q .nil)))),(5,.box 0 (eC b)),(6,.box 0 eZ),(9,.box 0 (eC q))]} ⟨⟨rfl,rfl,rfl,rfl,rfl,trivial⟩,trivial,rfl⟩ ?_;refine Wsem.seqS (Wsem.seq ttok mixed ?_);refine .inl ⟨_,hTb,?_⟩;refine .inl ⟨_,hH2,?_⟩;refine⟨by kernel_rfl,?_⟩;refine Wsem.cond rfl (fun h3=>?_) (fun h3=>?_)
 ·have h3:s∈b.tv:=memb_iff.1 h3;have law2:=law2 h2 h3;subst law2;refine Wsem.cut {vs:=[(1,.v (str x)),(3,.box 0 (eC (.node 7 n s .no (.kid q .nil)))),(5,.box 0 (eC b)),(6,.box 0 eZ),(9,.box 0 (eC q))]} ⟨⟨rfl,rfl,rfl,rfl,rfl,trivial⟩,trivial,rfl⟩ ?_;rw[show eSs (b.tv++q.tv)=eSs b.tv++eSs q.tv by simp[eSs]] at hfr;refine Wsem.seqS (Wsem.regionTZ zA0 ttok mixed [0,1,2,3,4,5,6] [0,2] (by kernel_rfl) ?_);refine⟨_,_,hTbF,?_⟩;refine .inl ⟨_,hTq,?_⟩;refine⟨by show (eSs b.tv).length+(eSs q.tv).length<=_;simp[eSs];omega,yI _,yI _,?_⟩;refine .inl ⟨_,hfr,?_⟩;refine⟨by kernel_rfl,?_⟩;refine Wsem.cut {vs:=[(1,.v (str x)),(3,.box 0 (eC (.node 7 n s .no (.kid q .nil)))),(5,.box 0 (eC b)),(6,.box 0 eZ),(9,.box 0 (eC q)),(10,.v (str z))]} ⟨⟨rfl,rfl,rfl,rfl,rfl,rfl,trivial⟩,trivial,rfl⟩ ?_;refine Wsem.seq ttok mixed ?_;refine .inl ⟨_,i2,?_⟩;refine Wsem.of ttok mixed ?_;refine Wsem.seq ttok mixed ?_;refine .inl ⟨_,i3,?_⟩;refine Wsem.of ttok mixed ?_;exact rfl
 ·have h3:s∉b.tv:=fun hm=>by rw[memb_iff.2 hm] at h3;cases h3
  have law3:=law3 h2 h3;subst law3;refine Wsem.of ttok mixed ?_;refine Wsem.seq ttok mixed ?_;refine .inl ⟨_,i1,?_⟩;refine Wsem.of ttok mixed ?_;exact rfl
theorem z88 (N:Nat) (n:Int) (s:ByteArray) (t:Tp) (q:Cr) (x:ByteArray) (b:Cr) (hc:Sm (.node 5 n s t (.kid q .nil))) (hb:Sm b) (hN:(Cr.node 5 n s t (.kid q .nil)).sz<=N+1) (ih:zPG N) :
  zC Tryz.prog 18 [eC (.node 5 n s t (.kid q .nil)),str x,eC b] (eC (sbF (N+1) (.node 5 n s t (.kid q .nil)) x b)):=by
 have hq:Sm q:=(hc.part (p := .kid 0) rfl).1;have hqz:q.sz<=N:=by have e:(Cr.node 5 n s t (.kid q .nil)).sz=1+(q.sz+0):=rfl;omega
 have hqs:=hq.sz;have hql:=qP q;have hfw:=zBS hc.n hc.ok;have hg:=zMN N ih [s] [q] x b (by simp) (by simp) (fun p hp=>by rcases List.mem_singleton.1 hp with rfl;exact⟨hq,hqz⟩) (by simp;omega) hb;obtain⟨φ,ν,h1,_,h3⟩:=zVZ N hc.ok (by decide) (by decide) x b;rw[h3];have h1:gvn N [s] [q] x b=([ν s],[φ q]):=h1;rw[h1] at hg;rw[if_pos rfl];show zC _ _ _ (eC (.node 5 n (ν s) t (.kid (φ q) .nil)));generalize ν s=s' at *;generalize φ q=q' at *;refine zY ttok mixed Tryz.func18 rfl (by rfl) (Nat.le_of_ble_eq_true rfl) (by kernel_rfl) ?_;refine Wsem.seq ttok mixed ?_;refine Wsem.cut {vs:=[(1,.v (str x)),(3,.box 0 (eC (.node 5 n s t (.kid q .nil)))),(5,.box 0 (eC b)),(6,.box 0 eZ)]} ⟨⟨rfl,rfl,rfl,rfl,trivial⟩,trivial,rfl⟩ ?_;refine Wsem.seq ttok mixed ?_;refine .inl ⟨_,hfw,?_⟩;refine⟨fun h=>absurd h (by decide),fun _=>?_⟩;refine Wsem.cut {vs:=[(1,.v (str x)),(3,.box 0 (eC (.node 5 n s t (.kid q .nil)))),(5,.box 0 (eC b)),(6,.box 0 eZ)]} ⟨⟨rfl,rfl,rfl,rfl,trivial⟩,trivial,rfl⟩ ?_;refine Wsem.seqS (Wsem.seq ttok mixed ?_);refine Wsem.block ?_;refine Wsem.seq ttok mixed ?_;refine Wsem.cond rfl (fun h=>absurd h (by simp[Cr.f])) (fun _=>?_);refine Wsem.seq ttok mixed ?_;refine Wsem.cond rfl (fun _=>?_) (fun h=>absurd h (by simp[Cr.f]));refine Wsem.seq ttok mixed ?_;refine .inl ⟨_,hg,?_⟩;refine Wsem.of ttok mixed ?_;refine⟨_,by decide,rfl,rfl,?_⟩;exact rfl
theorem zWP {f n:Int} {s:ByteArray} {t:Tp} {g:Cr} (ho:(Cr.node f n s t g).Ok) (h:Cr.nk f=1):∃q,g.kids=[q]:=by
 have h1:g.kids.length=Cr.nk f:=ho.2.2.2.1;rw[h] at h1
 match hk:g.kids,h1 with
 | [q],_=>exact⟨q,rfl⟩
theorem z0R {f n:Int} {s':ByteArray} {t:Tp} {g:Cr} (φ:Cr->Cr) (ν:ByteArray->ByteArray) (α:List ByteArray->Cr->List ByteArray×Cr) (hg:g.isN=false) (hgo:g.Ok) :
  eC (.node f n s' t (yC φ id ν α g)) = .agg [.lit (.int .i64 f),.lit (.int .i64 n),.lit (.string s'),.lit (.int .i64 t.form),.lit (.int .i64 t.num),.lit (.string t.nam),.sl t.eArgs,.sl (g.kids.map fun p=>eC (φ p)),.sl (g.binds.map fun b=>eBd (ν b.1,b.2.1,φ b.2.2)),.sl (g.alts.map fun a=>eAl (a.1,α a.2.1 a.2.2))]:=by
 obtain⟨G,hG⟩:∃G,G=yC φ id ν α g:=⟨_,rfl⟩
 have k1:=zAI (φ:=φ) (τ:=id) (ν:=ν) (α:=α) hg hgo;have k2:=xQ (φ:=φ) (τ:=id) (ν:=ν) (α:=α) hg hgo;have k3:=zDD (φ:=φ) (τ:=id) (ν:=ν) (α:=α) hg hgo;rw[<-hG] at k1 k2 k3⊢;show AV.agg [_,_,_,_,_,_,_,.sl (G.e3 0),.sl (G.e3 1),.sl (G.e3 2)]=_;rw[zN4,zHM,zF5,k1,k2,k3,eCs,yH,yT,List.map_map,List.map_map,List.map_map]
 rfl
theorem z6U (N:Nat) (n:Int) (s:ByteArray) (t:Tp) (g:Cr) (x:ByteArray) (b:Cr) (hc:Sm (.node 8 n s t g)) (hb:Sm b) (hN:(Cr.node 8 n s t g).sz<=N+1) (ih:zPG N) :
  zC Tryz.prog 18 [eC (.node 8 n s t g),str x,eC b] (eC (sbF (N+1) (.node 8 n s t g) x b)):=by
 obtain⟨hgn,hgo⟩:=zO hc.ok;have hl:=xA _ hc.ok;have hcs:=hc.sz;obtain⟨q,hq⟩:=zWP hc.ok (by decide);have hfw:=zBS hc.n hc.ok;obtain⟨φ,ν,h1,_,h3⟩:=zVZ N hc.ok (by decide) (by decide) x b;have hnm:(Cr.node 8 n s t g).names0=g.binds.map (·.1):=rfl;have hpp:g.parts0=q::g.binds.map (·.2.2):=by show g.kids++_=_;rw[hq];rfl
 rw[hnm,hpp] at h1;have hsmall:∀p∈q::g.binds.map (·.2.2),Sm p/\p.sz<=N:=fun p hp=>by
  rcases List.mem_cons.1 hp with rfl|hp
  ·have:=hc.part (p := .kid 0) (d:=p) (by show g.kids[0]? = _;rw[hq];rfl);exact⟨this.1,by have:=this.2;omega⟩
  ·obtain⟨d,hd,rfl⟩:=List.mem_map.1 hp;obtain⟨k,hk,rfl⟩:=List.getElem_of_mem hd;have:=hc.part (p := .bind k) (d:=g.binds[k].2.2) (by show (g.binds[k]?).map (·.2.2)=_;rw[List.getElem?_eq_getElem hk];rfl);exact⟨this.1,by have:=this.2;omega⟩
 have hbl:g.binds.length<=590:=by have:g.binds.length=(Cr.node 8 n s t g).binds.length:=rfl;omega
 have hsum:=zOT g;have hsz:(Cr.node 8 n s t g).sz=1+g.sz:=rfl;have hfl:((q::g.binds.map (·.2.2)).flatMap Cr.fv).length<=590:=by
  have e:(q::g.binds.map (·.2.2)).flatMap Cr.fv=g.kids.flatMap Cr.fv++g.binds.flatMap fun b=>b.2.2.fv:=by
   rw[<-hpp];show (g.kids++_).flatMap _=_;rw[List.flatMap_append,List.flatMap_map]
  rw[e,List.length_append];omega
 have hgc:=zMN N ih (g.binds.map (·.1)) (q::g.binds.map (·.2.2)) x b (by simp;omega) (by simp;omega) hsmall hfl hb;rw[h1] at hgc;have ha:g.alts=[]:=by
  cases h:g.alts with
  | nil=>rfl
  | cons a l=>exact absurd (hc.ok.2.2.2.2.2.1 (by rw[h];simp)) (by decide)
 rw[h3,if_neg (by decide),z0R φ ν _ hgn hgo,ha,hq];have ea:(Cr.node 8 n s t g).e3 2=[]:=by rw[zF5];show yT g.alts=[];rw[ha];rfl
 have hlb:(Cr.node 8 n s t g).binds=g.binds:=rfl;have hlk:(Cr.node 8 n s t g).kids=[q]:=hq;have e0:(Cr.node 8 n s t g).e3 0=[eC q]:=by rw[zN4,hlk];rfl
 have e1:(Cr.node 8 n s t g).e3 1=yH g.binds:=by rw[zHM];rfl
 have eM:eC (Cr.node 8 n s t g) = .agg [.lit (.int .i64 8),.lit (.int .i64 n),.lit (.string s),.lit (.int .i64 t.form),.lit (.int .i64 t.num),.lit (.string t.nam),.sl t.eArgs,.sl [eC q],.sl (yH g.binds),.sl []]:=by
  show AV.agg [_,_,_,_,_,_,_,.sl _,.sl _,.sl _]=_;rw[e0,e1,ea]
  rfl
 rw[eM] at hfw⊢;obtain⟨B,hB⟩:∃B,B=g.binds:=⟨_,rfl⟩
 rw[<-hB] at hgc hbl hfw⊢;refine zY ttok mixed Tryz.func18 rfl (by rfl) (Nat.le_of_ble_eq_true rfl) (by kernel_rfl) ?_;refine Wsem.seq ttok mixed ?_;refine Wsem.cut {vs:=[(1,.v (str x)),(3,.box 0 (.agg [.lit (.int .i64 8),.lit (.int .i64 n),.lit (.string s),.lit (.int .i64 t.form),.lit (.int .i64 t.num),.lit (.string t.nam),.sl t.eArgs,.sl [eC q],.sl (yH B),.sl []])),(5,.box 0 (eC b)),(6,.box 0 eZ)]} ⟨⟨rfl,rfl,rfl,rfl,trivial⟩,trivial,rfl⟩ ?_;refine Wsem.seq ttok mixed ?_;refine .inl ⟨_,hfw,?_⟩;refine⟨fun h=>absurd h (by decide),fun _=>?_⟩;refine Wsem.cut {vs:=[(1,.v (str x)),(3,.box 0 (.agg [.lit (.int .i64 8),.lit (.int .i64 n),.lit (.string s),.lit (.int .i64 t.form),.lit (.int .i64 t.num),.lit (.string t.nam),.sl t.eArgs,.sl [eC q],.sl (yH B),.sl []])),(5,.box 0 (eC b)),(6,.box 0 eZ)]} ⟨⟨rfl,rfl,rfl,rfl,trivial⟩,trivial,rfl⟩ ?_;refine Wsem.seqS (Wsem.seq ttok mixed ?_);refine Wsem.block ?_;refine Wsem.seq ttok mixed ?_;refine Wsem.cond rfl (fun h=>absurd h (by simp)) (fun _=>?_);refine Wsem.seq ttok mixed ?_;refine Wsem.cond rfl (fun h=>absurd h (by simp)) (fun _=>?_);refine Wsem.seq ttok mixed ?_;refine Wsem.cond rfl (fun h=>absurd h (by simp)) (fun _=>?_);refine Wsem.seq ttok mixed ?_;refine Wsem.cond rfl (fun _=>?_) (fun h=>absurd h (by simp));refine Wsem.seq ttok mixed ?_;refine Wsem.seq ttok mixed ?_;refine Wsem.seq ttok mixed ?_;refine⟨eC q,by decide,rfl,rfl,?_⟩;refine⟨by simp,zH5 10,wC rfl,?_⟩
 refine Wsem.cut {vs:=[(1,.v (str x)),(3,.box 0 (.agg [.lit (.int .i64 8),.lit (.int .i64 n),.lit (.string s),.lit (.int .i64 t.form),.lit (.int .i64 t.num),.lit (.string t.nam),.sl t.eArgs,.sl [eC q],.sl (yH B),.sl []])),(5,.box 0 (eC b)),(6,.box 0 eZ),(11,.v (.sl [])),(12,.v (.sl [eC q]))],ow:=[(11,0,2),(12,0,11)]} ⟨⟨rfl,rfl,rfl,rfl,rfl,rfl,trivial⟩,⟨trivial,rfl,trivial⟩,rfl⟩ ?_;refine Wsem.seq ttok mixed ?_;refine⟨{k:Nat // k<=B.length},fun k=>{vs:=[(1,.v (str x)),(3,.box 0 (.agg [.lit (.int .i64 8),.lit (.int .i64 n),.lit (.string s),.lit (.int .i64 t.form),.lit (.int .i64 t.num),.lit (.string t.nam),.sl t.eArgs,.sl [eC q],.sl (yH B),.sl []])),(5,.box 0 (eC b)),(6,.box 0 eZ),(11,.v (.sl (eSs ((B.take k.1).map (·.1))))),(12,.v (.sl (eC q::(B.take k.1).map fun d=>eC d.2.2))),(13,sv (k.1:Nat))],ow:=[(11,0,2),(12,0,11)]},
  fun k=>B.length-k.1,⟨0,Nat.zero_le _⟩,⟨⟨rfl,rfl,rfl,rfl,rfl,rfl,rfl,trivial⟩,⟨rfl,rfl,trivial⟩,rfl⟩,?_⟩
 rintro⟨k,hk⟩;refine⟨fun h=>?_,fun h=>?_⟩
 ·have h:k<B.length:=by have h:=of_decide_eq_true h;simp only[yH,List.length_map] at h;omega
  have hU:Uni 10 (eC q::(B.take k).map fun d=>eC d.2.2):=fun a ha=>by
   rcases List.mem_cons.1 ha with h1|h1
   ·rw[h1];rfl
   ·obtain⟨x,_,h2⟩:=List.mem_map.1 h1;rw[<-h2];rfl
  refine⟨_,by omega,zKA h,rfl,?_⟩;refine⟨by rw[qA];simp only[List.length_map,List.length_take,List.length_cons,List.length_nil];omega,yI _,wC rfl,?_⟩;refine⟨_,by omega,zKA h,rfl,?_⟩;refine⟨by simp only[List.length_map,List.length_take,List.length_cons,List.length_nil];omega,hU,wC rfl,?_⟩;refine⟨⟨k+1,h⟩,by simp;omega,⟨rfl,rfl,rfl,rfl,?_,?_,svc (wrap_succ (k:=k) (by omega)),trivial⟩,⟨rfl,rfl,trivial⟩,rfl⟩
  ·refine congrArg (fun l=>SV.v (AV.sl l)) ?_;rw[zV4 (f:=fun d:Bdg=>d.1) h];simp[eSs]
   rfl
  ·refine congrArg (fun l=>SV.v (AV.sl l)) ?_;rw[zHF (f:=fun d:Bdg=>eC d.2.2) h]
   rfl
 have h:k=B.length:=by have h:=of_decide_eq_false h;simp only[yH,List.length_map] at h;omega
 subst h;refine Wsem.cut {vs:=[(1,.v (str x)),(3,.box 0 (.agg [.lit (.int .i64 8),.lit (.int .i64 n),.lit (.string s),.lit (.int .i64 t.form),.lit (.int .i64 t.num),.lit (.string t.nam),.sl t.eArgs,.sl [eC q],.sl (yH B),.sl []])),(5,.box 0 (eC b)),(6,.box 0 eZ),(11,.v (.sl (eSs (B.map (·.1))))),(12,.v (.sl (eCs (q::B.map (·.2.2)))))]} ⟨⟨rfl,rfl,rfl,rfl,by rw[List.take_length];rfl,by rw[List.take_length];exact congrArg (fun l=>SV.v (AV.sl l)) (by rw[eCs,List.map_cons,List.map_map];rfl),trivial⟩,trivial,rfl⟩ ?_;refine Wsem.seq ttok mixed ?_;refine .inl ⟨_,hgc,?_⟩;refine Wsem.cut {vs:=[(1,.v (str x)),(3,.box 0 (.agg [.lit (.int .i64 8),.lit (.int .i64 n),.lit (.string s),.lit (.int .i64 t.form),.lit (.int .i64 t.num),.lit (.string t.nam),.sl t.eArgs,.sl [eC q],.sl (yH B),.sl []])),(5,.box 0 (eC b)),(6,.box 0 eZ),(14,.v (.sl (eSs ((B.map (·.1)).map ν)))),(15,.v (.sl (eCs ((q::B.map (·.2.2)).map φ))))]} ⟨⟨rfl,rfl,rfl,rfl,rfl,rfl,trivial⟩,trivial,rfl⟩ ?_;refine Wsem.seq ttok mixed ?_;refine Wsem.seq ttok mixed ?_;refine⟨{k:Nat // k<=B.length},fun k=>{vs:=[(1,.v (str x)),(3,.box 0 (.agg [.lit (.int .i64 8),.lit (.int .i64 n),.lit (.string s),.lit (.int .i64 t.form),.lit (.int .i64 t.num),.lit (.string t.nam),.sl t.eArgs,.sl [eC q],.sl (yH B),.sl []])),(5,.box 0 (eC b)),(6,.box 0 eZ),(14,.v (.sl (eSs ((B.map (·.1)).map ν)))),(15,.v (.sl (eCs ((q::B.map (·.2.2)).map φ)))),(16,.v (.sl ((B.take k.1).map fun d=>eBd (ν d.1,d.2.1,φ d.2.2)))),(17,sv (k.1:Nat))],ow:=[(16,0,16)]},
  fun k=>B.length-k.1,⟨0,Nat.zero_le _⟩,⟨⟨rfl,rfl,rfl,rfl,rfl,rfl,rfl,rfl,trivial⟩,⟨trivial,trivial⟩,rfl⟩,?_⟩
 rintro⟨k,hk⟩;refine⟨fun h=>?_,fun h=>?_⟩
 ·have h:k<B.length:=by have h:=of_decide_eq_true h;simp only[yH,List.length_map] at h;omega
  have g1:(eSs ((B.map (·.1)).map ν))[k]? = some (.lit (.string (ν B[k].1))):=by simp[eSs,h]
  have g2:(eCs ((q::B.map (·.2.2)).map φ))[k+1]? = some (eC (φ B[k].2.2)):=by simp[eCs,h]
  have hw:IntKind.i64.wrap ((k:Int)+1)=((k+1:Nat):Int):=wrap_succ (k:=k) (by omega);refine⟨_,by omega,g1,rfl,?_⟩;refine⟨_,by omega,zKA h,rfl,?_⟩;refine⟨_,by show (0:Int)<=IntKind.i64.wrap ((k:Int)+1);rw[hw];omega,by show (eCs _)[(IntKind.i64.wrap ((k:Int)+1)).toNat]? = _;rw[hw];exact g2,rfl,?_⟩;refine⟨by simp;omega,fun a ha=>by obtain⟨x,_,rfl⟩:=List.mem_map.1 ha;rfl,wC rfl,?_⟩;refine⟨by kernel_rfl,?_⟩;refine⟨⟨k+1,h⟩,by simp;omega,⟨rfl,rfl,rfl,rfl,rfl,rfl,?_,svc (wrap_succ (k:=k) (by omega)),trivial⟩,⟨rfl,trivial⟩,rfl⟩;exact congrArg (fun l=>SV.v (AV.sl l)) (zHF (f:=fun d:Bdg=>eBd (ν d.1,d.2.1,φ d.2.2)) h).symm
 have h:k=B.length:=by have h:=of_decide_eq_false h;simp only[yH,List.length_map] at h;omega
 subst h;refine Wsem.cut {vs:=[(1,.v (str x)),(3,.box 0 (.agg [.lit (.int .i64 8),.lit (.int .i64 n),.lit (.string s),.lit (.int .i64 t.form),.lit (.int .i64 t.num),.lit (.string t.nam),.sl t.eArgs,.sl [eC q],.sl (yH B),.sl []])),(5,.box 0 (eC b)),(6,.box 0 eZ),(15,.v (.sl (eCs ((q::B.map (·.2.2)).map φ)))),(16,.v (.sl (B.map fun d=>eBd (ν d.1,d.2.1,φ d.2.2))))]} ⟨⟨rfl,rfl,rfl,rfl,rfl,by rw[List.take_length];rfl,trivial⟩,trivial,rfl⟩ ?_;refine Wsem.of ttok mixed ?_;refine⟨eC (φ q),by decide,rfl,rfl,?_⟩;exact rfl
theorem z2Q (N:Nat) (f n:Int) (s:ByteArray) (t:Tp) (g:Cr) (x:ByteArray) (b:Cr) (h1:¬f=1) (h5:¬f=5) (h7:¬f=7) (h8:¬f=8) (hc:Sm (.node f n s t g)) (hb:Sm b) (hN:(Cr.node f n s t g).sz<=N+1) (ih:zPG N) :
  zC Tryz.prog 18 [eC (.node f n s t g),str x,eC b] (eC (sbF (N+1) (.node f n s t g) x b)):=by
 obtain⟨hgn,hgo⟩:=zO hc.ok;have hl:=xA _ hc.ok;have hcs:=hc.sz;have hfw:=zBS hc.n hc.ok;obtain⟨φ,ν,_,hφ,h3⟩:=zVZ N hc.ok h1 h7 x b;have hbi:g.binds=[]:=by
  cases h:g.binds with
  | nil=>rfl
  | cons a l=>exact absurd (hc.ok.2.2.2.2.1 (by rw[h];simp)) h8
 have hnm:(Cr.node f n s t g).names0=[]:=by
  show (if f=5 then [s] else [])++g.binds.map (·.1)=[];rw[if_neg h5,hbi];rfl
 have hφ:=hφ hnm;have hkm:∀p∈g.kids,φ p=sbF N p x b:=fun p hp=>by
  rcases hφ with h|⟨h,hx⟩
  ·rw[h]
  ·have hp2:=hc.ok.kid (c := .node f n s t g) hp;rw[z8B N p x b hp2.1 hp2.2 fun hm=>hx (List.mem_flatMap.2 ⟨p,List.mem_append_left _ hp,hm⟩),h];rfl
 rw[h3,if_neg h5,z0R φ ν _ hgn hgo,hbi];have hK:(g.kids.map fun p=>eC (φ p))=g.kids.map fun p=>eC (sbF N p x b):=List.map_congr_left fun p hp=>by rw[hkm p hp]
 rw[hK];have hkid:∀(k:Nat) (h:k<g.kids.length),zC Tryz.prog 18 [eC g.kids[k],str x,eC b] (eC (sbF N g.kids[k] x b)):=fun k h=>by
  have:=hc.part (p := .kid k) (d:=g.kids[k]) (List.getElem?_eq_getElem h);exact ih _ x b this.1 (by have:=this.2;omega) hb
 have halt:∀(k:Nat) (h:k<g.alts.length),zC Tryz.prog 60 [.sl (eSs g.alts[k].2.1),.sl [eC g.alts[k].2.2],str x,eC b] (.tup [.sl (eSs (aP N x b g.alts[k].2.1 g.alts[k].2.2).1),.sl [eC (aP N x b g.alts[k].2.1 g.alts[k].2.2).2]]):=fun k h=>by
  have hp:=hc.part (p := .alt k) (d:=g.alts[k].2.2) (by show (g.alts[k]?).map (·.2.2)=_;rw[List.getElem?_eq_getElem h];rfl);have hw:=(zG2 (K:=0) (c := .node f n s t g) (List.getElem_mem h)).1;have hwc:=hc.wt;have hvn:=(hc.ok.alt (c := .node f n s t g) (List.getElem_mem h)).2.2;have hfl:=qP g.alts[k].2.2;have hps:=hp.1.sz;have:=zMN N ih g.alts[k].2.1 [g.alts[k].2.2] x b (by omega) (by simp) (fun p hp'=>by rcases List.mem_singleton.1 hp' with rfl;exact⟨hp.1,by have:=hp.2;omega⟩) (by simp;omega) hb;rw[z7Q hvn] at this;exact this
 have hlk:(Cr.node f n s t g).kids.length=g.kids.length:=rfl;have hla:(Cr.node f n s t g).alts.length=g.alts.length:=rfl;have e0:(Cr.node f n s t g).e3 0=eCs g.kids:=by rw[zN4];rfl
 have e1:(Cr.node f n s t g).e3 1=[]:=by rw[zHM];show yH g.binds=[];rw[hbi];rfl
 have e2:(Cr.node f n s t g).e3 2=yT g.alts:=by rw[zF5];rfl
 have eM:eC (Cr.node f n s t g) = .agg [.lit (.int .i64 f),.lit (.int .i64 n),.lit (.string s),.lit (.int .i64 t.form),.lit (.int .i64 t.num),.lit (.string t.nam),.sl t.eArgs,.sl (eCs g.kids),.sl [],.sl (yT g.alts)]:=by
  show AV.agg [_,_,_,_,_,_,_,.sl _,.sl _,.sl _]=_;rw[e0,e1,e2]
  rfl
 rw[eM] at hfw⊢;obtain⟨K,hKK⟩:∃K,K=g.kids:=⟨_,rfl⟩
 obtain⟨A,hAA⟩:∃A,A=g.alts:=⟨_,rfl⟩
 simp only[<-hKK,<-hAA] at hfw hkid halt hlk hla⊢;refine zY ttok mixed Tryz.func18 rfl (by rfl) (Nat.le_of_ble_eq_true rfl) (by kernel_rfl) ?_;refine Wsem.seq ttok mixed ?_;refine Wsem.cut {vs:=[(1,.v (str x)),(3,.box 0 (.agg [.lit (.int .i64 f),.lit (.int .i64 n),.lit (.string s),.lit (.int .i64 t.form),.lit (.int .i64 t.num),.lit (.string t.nam),.sl t.eArgs,.sl (eCs K),.sl [],.sl (yT A)])),(5,.box 0 (eC b)),(6,.box 0 eZ)]} ⟨⟨rfl,rfl,rfl,rfl,trivial⟩,trivial,rfl⟩ ?_;refine Wsem.seq ttok mixed ?_;refine .inl ⟨_,hfw,?_⟩;refine⟨fun h=>absurd h (by decide),fun _=>?_⟩;refine Wsem.cut {vs:=[(1,.v (str x)),(3,.box 0 (.agg [.lit (.int .i64 f),.lit (.int .i64 n),.lit (.string s),.lit (.int .i64 t.form),.lit (.int .i64 t.num),.lit (.string t.nam),.sl t.eArgs,.sl (eCs K),.sl [],.sl (yT A)])),(5,.box 0 (eC b)),(6,.box 0 eZ)]} ⟨⟨rfl,rfl,rfl,rfl,trivial⟩,trivial,rfl⟩ ?_;refine Wsem.seqS (Wsem.seq ttok mixed ?_);refine Wsem.block ?_;refine Wsem.seq ttok mixed ?_;refine Wsem.cond rfl (fun h=>absurd (of_decide_eq_true h) h1) (fun _=>?_);refine Wsem.seq ttok mixed ?_;refine Wsem.cond rfl (fun h=>absurd (of_decide_eq_true h) h5) (fun _=>?_);refine Wsem.seq ttok mixed ?_;refine Wsem.cond rfl (fun h=>absurd (of_decide_eq_true h) h7) (fun _=>?_);refine Wsem.seq ttok mixed ?_;refine Wsem.cond rfl (fun h=>absurd (of_decide_eq_true h) h8) (fun _=>?_);refine Wsem.of ttok mixed ?_
 refine Wsem.cut {vs:=[(1,.v (str x)),(3,.box 0 (.agg [.lit (.int .i64 f),.lit (.int .i64 n),.lit (.string s),.lit (.int .i64 t.form),.lit (.int .i64 t.num),.lit (.string t.nam),.sl t.eArgs,.sl (eCs K),.sl [],.sl (yT A)])),(5,.box 0 (eC b)),(6,.box 0 eZ)]} ⟨⟨rfl,rfl,rfl,rfl,trivial⟩,trivial,rfl⟩ ?_;refine Wsem.seq ttok mixed ?_;refine Wsem.seq ttok mixed ?_;refine⟨{k:Nat // k<=K.length},fun k=>{vs:=[(1,.v (str x)),(3,.box 0 (.agg [.lit (.int .i64 f),.lit (.int .i64 n),.lit (.string s),.lit (.int .i64 t.form),.lit (.int .i64 t.num),.lit (.string t.nam),.sl t.eArgs,.sl (eCs K),.sl [],.sl (yT A)])),(5,.box 0 (eC b)),(6,.box 0 eZ),(18,.v (.sl ((K.take k.1).map fun p=>eC (sbF N p x b)))),(19,sv (k.1:Nat))],ow:=[(18,0,11)]},
  fun k=>K.length-k.1,⟨0,Nat.zero_le _⟩,⟨⟨rfl,rfl,rfl,rfl,rfl,rfl,trivial⟩,⟨trivial,trivial⟩,rfl⟩,?_⟩
 rintro⟨k,hk⟩;refine⟨fun h=>?_,fun h=>?_⟩
 ·have h:k<K.length:=by have h:=of_decide_eq_true h;simp only[eCs,List.length_map] at h;omega
  refine⟨_,by omega,zX8 h,rfl,?_⟩;refine .inl ⟨_,hkid k h,?_⟩;refine⟨by simp;omega,fun a ha=>by obtain⟨x,_,rfl⟩:=List.mem_map.1 ha;rfl,wC rfl,?_⟩;refine⟨by kernel_rfl,?_⟩;refine⟨⟨k+1,h⟩,by simp;omega,⟨rfl,rfl,rfl,rfl,?_,svc (wrap_succ (k:=k) (by omega)),trivial⟩,⟨rfl,trivial⟩,rfl⟩;exact congrArg (fun l=>SV.v (AV.sl l)) (zHF (f:=fun p=>eC (sbF N p x b)) h).symm
 have h:k=K.length:=by have h:=of_decide_eq_false h;simp only[eCs,List.length_map] at h;omega
 subst h;refine Wsem.cut {vs:=[(1,.v (str x)),(3,.box 0 (.agg [.lit (.int .i64 f),.lit (.int .i64 n),.lit (.string s),.lit (.int .i64 t.form),.lit (.int .i64 t.num),.lit (.string t.nam),.sl t.eArgs,.sl (eCs K),.sl [],.sl (yT A)])),(5,.box 0 (eC b)),(6,.box 0 eZ),(18,.v (.sl (K.map fun p=>eC (sbF N p x b))))]} ⟨⟨rfl,rfl,rfl,rfl,by rw[List.take_length];rfl,trivial⟩,trivial,rfl⟩ ?_;generalize (K.map fun p=>eC (sbF N p x b))=K2;refine Wsem.seq ttok mixed ?_;refine Wsem.cut {vs:=[(1,.v (str x)),(3,.box 0 (.agg [.lit (.int .i64 f),.lit (.int .i64 n),.lit (.string s),.lit (.int .i64 t.form),.lit (.int .i64 t.num),.lit (.string t.nam),.sl t.eArgs,.sl K2,.sl [],.sl (yT A)])),(5,.box 0 (eC b)),(6,.box 0 eZ)]} ⟨⟨rfl,rfl,rfl,rfl,trivial⟩,trivial,rfl⟩ ?_;refine Wsem.seq ttok mixed ?_;refine Wsem.seq ttok mixed ?_;refine⟨{k:Nat // k<=A.length},fun k=>{vs:=[(1,.v (str x)),(3,.box 0 (.agg [.lit (.int .i64 f),.lit (.int .i64 n),.lit (.string s),.lit (.int .i64 t.form),.lit (.int .i64 t.num),.lit (.string t.nam),.sl t.eArgs,.sl K2,.sl [],.sl (yT A)])),(5,.box 0 (eC b)),(6,.box 0 eZ),(20,.v (.sl ((A.take k.1).map fun a=>eAl (a.1,aP N x b a.2.1 a.2.2)))),(21,sv (k.1:Nat))],ow:=[(20,0,15)]},
  fun k=>A.length-k.1,⟨0,Nat.zero_le _⟩,⟨⟨rfl,rfl,rfl,rfl,rfl,rfl,trivial⟩,⟨trivial,trivial⟩,rfl⟩,?_⟩
 rintro⟨k,hk⟩;refine⟨fun h=>?_,fun h=>?_⟩
 ·have h:k<A.length:=by have h:=of_decide_eq_true h;simp only[yT,List.length_map] at h;omega
  have htk:=zHF (f:=fun a:Alg=>eAl (a.1,aP N x b a.2.1 a.2.2)) h;have hga:=halt k h;have hgl:=z1R h;generalize A[k]=d at hga hgl htk;generalize aP N x b d.2.1 d.2.2=r at hga htk;refine⟨_,by omega,hgl,rfl,?_⟩;refine .inl ⟨_,hga,?_⟩;refine⟨_,by decide,rfl,rfl,?_⟩;refine⟨by simp;omega,fun a ha=>by obtain⟨x,_,rfl⟩:=List.mem_map.1 ha;rfl,wC rfl,?_⟩;refine⟨⟨k+1,h⟩,by simp;omega,⟨rfl,rfl,rfl,rfl,?_,svc (wrap_succ (k:=k) (by omega)),trivial⟩,⟨rfl,trivial⟩,rfl⟩;exact congrArg (fun l=>SV.v (AV.sl l)) htk.symm
 have h:k=A.length:=by have h:=of_decide_eq_false h;simp only[yT,List.length_map] at h;omega
 subst h;refine Wsem.cut {vs:=[(1,.v (str x)),(3,.box 0 (.agg [.lit (.int .i64 f),.lit (.int .i64 n),.lit (.string s),.lit (.int .i64 t.form),.lit (.int .i64 t.num),.lit (.string t.nam),.sl t.eArgs,.sl K2,.sl [],.sl (yT A)])),(5,.box 0 (eC b)),(6,.box 0 eZ),(20,.v (.sl (A.map fun a=>eAl (a.1,aP N x b a.2.1 a.2.2))))]} ⟨⟨rfl,rfl,rfl,rfl,by rw[List.take_length];rfl,trivial⟩,trivial,rfl⟩ ?_;refine Wsem.of ttok mixed ?_;exact rfl
theorem z0L (N:Nat):zPG N:=by
 induction N with
 | zero=>intro d x b hd hs;have:=wI hd.n;omega
 | succ N ih =>
  intro d x b hd hs hb;by_cases h7:d.f=7
  ·obtain⟨n,s,q,rfl⟩:=z6A hd.ok hd.n h7;exact z00 N n s q x b hd hb hs ih
  cases d with
  | node f n s t g =>
   have h7:¬f=7:=h7;by_cases h1:f=1
   ·subst h1;exact z8D N n s t g x b hd hb
   by_cases h8:f=8
   ·subst h8;exact z6U N n s t g x b hd hb hs ih
   by_cases h5:f=5
   ·subst h5;obtain⟨hgn,hgo⟩:=zO hd.ok;obtain⟨q,hq⟩:=zWP hd.ok (by decide);obtain⟨p,hp,_,_⟩:=zXL hgn hgo (by rw[hq];rfl)
     (by cases h:g.binds with
       | nil=>rfl
       | cons a l=>exact absurd (hd.ok.2.2.2.2.1 (by rw[h];simp)) (by decide))
     (by cases h:g.alts with
       | nil=>rfl
       | cons a l=>exact absurd (hd.ok.2.2.2.2.2.1 (by rw[h];simp)) (by decide))
    subst hp;exact z88 N n s t p x b hd hb hs ih
   exact z2Q N f n s t g x b h1 h5 h7 h8 hd hb hs ih
  | _=>cases hd.n
end Go.Proofs.YtgonkhaebmfgiaaGreatDoor
