/- Binds not of their types, or two of one name: a panic. No condition but on lengths. -/
import Derived.Test.YtdmbahepaglcbaaGreatDoorR
set_option linter.unusedSimpArgs false
set_option linter.unusedVariables false
namespace Go.Proofs.YtdmbahepaglcbaaGreatDoor
open Go Fp
set_option maxRecDepth 10000
set_option maxHeartbeats 8000000
set_option linter.unusedVariables false
theorem zPA {w:Wd} {l:List Bd} (hl:w.env.length+l.length<=100000) (hnd:¬(l.map (·.1)).Nodup) {K:Nat} (hf:∀b∈l,FitX K b.2.1 w.ps):zAK Tryz.prog 65 [eW w,.sl (zN l)] zCC:=by
 obtain⟨m,hm,hm1,hm2⟩:=zPQ _ hnd;have hm:m<l.length:=by simpa using hm
 refine jD ttok mixed Tryz.func65 rfl (by rfl) (Nat.le_of_ble_eq_true rfl) (by kernel_rfl) ?_;refine WsemQ.seq ttok mixed ?_;refine WsemQ.seq ttok mixed ?_;intro b;refine WsemQ.seq ttok mixed ?_;refine WsemQ.seqS (WsemQ.seqS (WsemQ.of ttok mixed ?_));refine WsemQ.block (WsemQ.loop (α:={k:Nat // k<=m}) (fun k=>{vs:=[(1,.v (.sl (zN l))),(2,.box 0 (eW w)),(4,.box 0 (.agg [.sl [],.sl [],.sl [],.sl [],.lit (.int .i64 0)])),(5,.v (.lit (.map (some b)))),(6,.box 0 (eW (w.more ((bdL w l).take k.1)))),(15,.v (.sl (zN l))),(16,sv (l.length:Nat)),(17,sv (k.1:Nat))],hp:=[(b,HO.mp (qI ((l.map (·.1)).take k.1)))]}) (fun k=>m-k.1) ⟨0,Nat.zero_le _⟩ ⟨⟨rfl,rfl,rfl,rfl,?_,rfl,svc (by rw[zPM]),rfl,trivial⟩,trivial,rfl⟩ ?_)
 ·show SV.box 0 (eW w)=SV.box 0 (eW (w.more ((bdL w l).take 0)));rw[List.take_zero,zF6]
 rintro⟨k,hk⟩;refine WsemQ.seq ttok mixed ?_;refine WsemQ.seq ttok mixed ?_;refine⟨fun _=>?_,fun h1=>absurd (of_decide_eq_false h1) (by simp only;omega)⟩;have h1:k<l.length:=by omega
 refine WsemQ.seqS (WsemQ.block ?_);refine WsemQ.seq ttok mixed ?_;refine⟨eBd l[k],by omega,zCE h1,rfl,?_⟩;rcases Nat.lt_or_ge k m with hkm|hkm
 ·have hno:l[k].1∉(l.map (·.1)).take k:=by
   have:=hm2 k (by simpa using h1) hkm;simpa using this
  refine WsemQ.of ttok mixed ?_;refine⟨0,_,none,rfl,qK _,trivial,zB9 hno,?_⟩;refine .inl ⟨_,xC rfl,?_⟩;refine⟨0,_,none,rfl,qK _,trivial,zB9 hno,?_⟩;refine .inl ⟨_,qH w l[k].2.1 (hf _ (List.getElem_mem h1)),?_⟩;have htl:((bdL w l).take k).length<=k:=by rw[List.length_take];omega
  refine .inl ⟨_,zF2 (w.more ((bdL w l).take k)) [(l[k].1,w.mean l[k].2.1)] (by simp only[Wd.more,List.length_append,List.length_cons,List.length_nil];omega),?_⟩;refine⟨by kernel_rfl,?_⟩;refine WsemQ.of ttok mixed ?_;refine⟨⟨k+1,hkm⟩,by simp;omega,⟨rfl,rfl,rfl,rfl,?_,rfl,rfl,svc (wrap_succ (k:=k) (by omega)),trivial⟩,trivial,?_⟩
  ·rw[zJA h1,<-Wd.more_more];exact rfl
  ·show [(b,HO.mp (zCJ (qI ((l.map (·.1)).take k)) (.string l[k].1) (.agg []) none))]=[(b,HO.mp (qI ((l.map (·.1)).take (k+1))))];rw[zFD h1,zE6]
 ·obtain rfl:k=m:=by omega
  have hyes:l[k].1∈(l.map (·.1)).take k:=by simpa using hm1
  obtain⟨j,hj⟩:=zM6 hyes;refine WsemQ.seq ttok mixed ?_;refine⟨0,_,_,rfl,qK _,trivial,hj,?_⟩;refine WsemQ.seqS (WsemQ.region ttok 2 ?_);exact zUD rfl
theorem zP9 {w:Wd} {l:List Bd} (hl:w.env.length+l.length<=100000) (hnd:(l.map (·.1)).Nodup) {K:Nat} (hf:∀b∈l,FitX K b.2.1 w.ps) {m:Nat} (hm:m<l.length) (h:∀(k:Nat) (hk:k<l.length),k<m->IsT (w.more (bdL w l)) (w.mean l[k].2.1) l[k].2.2) (hb:z5P (w.more (bdL w l)) (w.mean l[m].2.1) l[m].2.2):zAK Tryz.prog 65 [eW w,.sl (zN l)] zCC:=by
 refine jD ttok mixed Tryz.func65 rfl (by rfl) (Nat.le_of_ble_eq_true rfl) (by kernel_rfl) ?_;refine WsemQ.seq ttok mixed ?_;refine WsemQ.seq ttok mixed ?_;intro b;refine WsemQ.seq ttok mixed ?_;refine WsemQ.seq ttok mixed ?_;refine⟨{k:Nat // k<=l.length},fun k=>{vs:=[(1,.v (.sl (zN l))),(2,.box 0 (eW w)),(4,.box 0 (.agg [.sl [],.sl [],.sl [],.sl [],.lit (.int .i64 0)])),(5,.v (.lit (.map (some b)))),(6,.box 0 (eW (w.more ((bdL w l).take k.1)))),(15,.v (.sl (zN l))),(16,sv (l.length:Nat)),(17,sv (k.1:Nat))],hp:=[(b,HO.mp (qI ((l.map (·.1)).take k.1)))]},fun k=>l.length-k.1,⟨0,Nat.zero_le _⟩,⟨⟨rfl,rfl,rfl,rfl,?_,rfl,svc (by rw[zPM]),rfl,trivial⟩,trivial,rfl⟩,?_⟩
 ·show SV.box 0 (eW w)=SV.box 0 (eW (w.more ((bdL w l).take 0)));rw[List.take_zero,zF6]
 rintro⟨k,hk⟩;refine⟨fun h1=>?_,fun h1=>?_⟩
 ·have h1:k<l.length:=by have h:=of_decide_eq_true h1;simp only at h;omega
  refine⟨eBd l[k],by omega,zCE h1,rfl,?_⟩;have hno:l[k].1∉(l.map (·.1)).take k:=by
   have:=zLC hnd (k:=k) (by simpa using h1);simpa using this
  refine⟨0,_,none,rfl,qK _,trivial,zB9 hno,?_⟩;refine .inl ⟨_,xC rfl,?_⟩;refine⟨0,_,none,rfl,qK _,trivial,zB9 hno,?_⟩;refine .inl ⟨_,qH w l[k].2.1 (hf _ (List.getElem_mem h1)),?_⟩;have htl:((bdL w l).take k).length<=k:=by rw[List.length_take];omega
  refine .inl ⟨_,zF2 (w.more ((bdL w l).take k)) [(l[k].1,w.mean l[k].2.1)] (by simp only[Wd.more,List.length_append,List.length_cons,List.length_nil];omega),?_⟩;refine⟨by kernel_rfl,?_⟩;refine⟨⟨k+1,h1⟩,by simp;omega,⟨rfl,rfl,rfl,rfl,?_,rfl,rfl,svc (wrap_succ (k:=k) (by omega)),trivial⟩,trivial,?_⟩
  ·rw[zJA h1,<-Wd.more_more];exact rfl
  ·show [(b,HO.mp (zCJ (qI ((l.map (·.1)).take k)) (.string l[k].1) (.agg []) none))]=[(b,HO.mp (qI ((l.map (·.1)).take (k+1))))];rw[zFD h1,zE6]
 have h1:k=l.length:=by have h:=of_decide_eq_false h1;simp only at h;omega
 subst h1;rw[List.take_of_length_le (by simp[bdL])];refine WsemQ.seqS (WsemQ.seqS (WsemQ.of ttok mixed ?_));refine WsemQ.block (WsemQ.loop (α:={k:Nat // k<=m}) (fun k=>{vs:=[(2,.box 0 (eW w)),(4,.box 0 (.agg [.sl [],.sl [],.sl [],.sl [],.lit (.int .i64 0)])),(6,.box 0 (eW (w.more (bdL w l)))),(46,.v (.sl (zN l))),(47,sv (l.length:Nat)),(48,sv (k.1:Nat))],hp:=[(b,HO.mp (qI ((l.map (·.1)).take l.length)))]}) (fun k=>m-k.1) ⟨0,Nat.zero_le _⟩ ⟨⟨rfl,rfl,rfl,rfl,svc (by rw[zPM]),rfl,trivial⟩,trivial,rfl⟩ ?_);rintro⟨k,hk⟩;refine WsemQ.seq ttok mixed ?_;refine WsemQ.seq ttok mixed ?_;refine⟨fun _=>?_,fun h1=>absurd (of_decide_eq_false h1) (by simp only;omega)⟩;have h1:k<l.length:=by omega
 refine WsemQ.seqS (WsemQ.block ?_);refine WsemQ.seq ttok mixed ?_;refine⟨eBd l[k],by omega,zCE h1,rfl,?_⟩;rcases Nat.lt_or_ge k m with hkm|hkm
 ·obtain⟨t,q1,q2,q3⟩:=(h k h1 hkm).of;refine WsemQ.of ttok mixed ?_;refine .inl ⟨_,q1,?_⟩;refine .inl ⟨_,qH w l[k].2.1 (hf _ (List.getElem_mem h1)),?_⟩;refine .inl ⟨_,qX _ _ q3,?_⟩;refine .inl ⟨_,xC q2,?_⟩;refine⟨by kernel_rfl,?_⟩;refine WsemQ.of ttok mixed ?_;exact⟨⟨k+1,hkm⟩,by simp;omega,⟨rfl,rfl,rfl,rfl,rfl,svc (wrap_succ (k:=k) (by omega)),trivial⟩,trivial,rfl⟩
 ·obtain rfl:k=m:=by omega
  rcases hb with hb|⟨t,q1,q2,q3⟩
  ·refine WsemQ.regionP ttok mixed [0,1,2,4,5,6,3,7,8,9] 6 (by kernel_rfl) (by kernel_rfl) ?_;exact⟨by kernel_rfl,hb⟩
  ·refine WsemQ.regionI ttok mixed 9 (by kernel_rfl) ?_;refine .inl ⟨_,q1,?_⟩;refine .inl ⟨_,qH w l[k].2.1 (hf _ (List.getElem_mem h1)),?_⟩;refine .inl ⟨_,qX _ _ q3,?_⟩;exact⟨by kernel_rfl,zUD q2⟩
theorem z18 {w w':Wd} {c p:Cr} {t:Tp} (hk:c.kids=[p]) (hb:zC Tryz.prog 65 [eW w,.sl (zN c.binds)] (eW w')) (h1:OfS w' p t):zC Tryz.prog 123 [eW w,eC c] (eTy t):=by
 rw[<-z1M] at hb;refine zA ttok mixed Tryz.func123 rfl (by rfl) (Nat.le_of_ble_eq_true rfl) (by kernel_rfl) ?_;refine .inl ⟨_,hb,?_⟩;refine⟨eC p,by omega,zKW hk,rfl,?_⟩;refine .inl ⟨_,h1,?_⟩;refine⟨by kernel_rfl,?_⟩;exact rfl
abbrev TkS (w:Wd) (t:Tp) (a:Al) (w':Wd):Prop:=zC Tryz.prog 144 [eW w,eTy t,eAl a] (eW w')
theorem z5X (c:Cr):(c.e3 2).length=c.alts.length:=by rw[zVF];simp[zAO]
theorem z4N {c:Cr} {k:Nat} (h:k<c.alts.length):(c.e3 2)[k]? = some (eAl c.alts[k]):=by rw[zVF];exact zYP h
def z8D (w:Wd) (t u:Tp) (a:Al):Prop := ∃w',TkS w t a w'/\IsT w' u a.2.2
theorem zZP {w:Wd} {c p:Cr} {t:Tp} {K:Nat} (hk:c.kids=[p]) (h1:OfS w p t) (hf:FitX K c.t w.ps) (hl:c.alts.length<=1000000) (h:∀a∈c.alts,z8D w t (w.mean c.t) a):zC Tryz.prog 124 [eW w,eC c] (eTy (w.mean c.t)):=by
 refine zA ttok mixed Tryz.func124 rfl (by rfl) (Nat.le_of_ble_eq_true rfl) (by kernel_rfl) ?_;refine⟨eC p,by omega,zKW hk,rfl,?_⟩;refine .inl ⟨_,h1,?_⟩;refine .inl ⟨_,qH w c.t hf,?_⟩;refine⟨by kernel_rfl,?_⟩;refine⟨{k:Nat // k<=c.alts.length},fun k=>{vs:=[(2,.box 0 (eW w)),(4,.box 0 (eTy .no)),(5,.box 0 (eTy t)),(6,.box 0 (eTy (w.mean c.t))),(20,.v (.sl (c.e3 2))),(21,sv (c.alts.length:Nat)),(22,sv (k.1:Nat))]},fun k=>c.alts.length-k.1,⟨0,Nat.zero_le _⟩,⟨⟨rfl,rfl,rfl,rfl,rfl,svc (by rw[z5X]),rfl,trivial⟩,trivial,rfl⟩,?_⟩;rintro⟨k,hk2⟩;refine⟨fun h2=>?_,fun h2=>?_⟩
 ·have h2:k<c.alts.length:=by have h:=of_decide_eq_true h2;simp only at h;omega
  obtain⟨w',q0,q⟩:=h _ (List.getElem_mem h2);obtain⟨t2,q1,q2,q3⟩:=q.of;refine⟨eAl c.alts[k],by omega,z4N h2,rfl,?_⟩;refine .inl ⟨_,q0,?_⟩;refine .inl ⟨_,q1,?_⟩;refine .inl ⟨_,qX _ _ q3,?_⟩;refine .inl ⟨_,xC q2,?_⟩;refine⟨by kernel_rfl,?_⟩;exact⟨⟨k+1,h2⟩,by simp;omega,⟨rfl,rfl,rfl,rfl,rfl,rfl,svc (wrap_succ (k:=k) (by omega)),trivial⟩,trivial,rfl⟩
 exact rfl
theorem zL4 {j:Nat} {k n:Int} {f:Nat} (h:frmL[j]? = some (fE k n f)):Fp.Found frmL (.int .i64 k) (some (j,.agg [.lit (.int .i64 n),.lit (fnv f)])):=by
 refine .yes j _ h fun i hi p hp=>?_;have key:∀(i:Nat) (p:AV×AV),frmL[i]? = some p->p.1 = .lit (.int .i64 ((i:Int)+1)):=by
  intro i p hp;have hlt:i<11:=(List.getElem?_eq_some_iff.1 hp).1
  match i,hlt with
  | 0,_=>cases hp;rfl
  | 1,_=>cases hp;rfl
  | 2,_=>cases hp;rfl
  | 3,_=>cases hp;rfl
  | 4,_=>cases hp;rfl
  | 5,_=>cases hp;rfl
  | 6,_=>cases hp;rfl
  | 7,_=>cases hp;rfl
  | 8,_=>cases hp;rfl
  | 9,_=>cases hp;rfl
  | 10,_=>cases hp;rfl
 rw[key i p hp];have e:=key j _ h;intro e2;have e:AV.lit (.int .i64 k) = .lit (.int .i64 ((j:Int)+1)):=e;injection e with e;injection e with _ e
 injection e2 with e2;injection e2 with _ e2
 omega
theorem zC6 {w:Wd} {c:Cr} {t:Tp} {j:Nat} {k n:Int} {f:Nat} (hj:frmL[j]? = some (fE k n f)) (hk:c.f=k) (hn:(c.kids.length:Int)=n) (hc:zC Tryz.prog f [eW w,eC c] (eTy t)):OfS w c t:=by
 subst hk;have hfo:=zL4 hj;refine zA ttok mixed Tryz.func42 rfl (by rfl) (Nat.le_of_ble_eq_true rfl) (by kernel_rfl) ?_;refine .inl ⟨_,zP2,?_⟩;refine⟨_,zWU,rfl,hfo,?_⟩;refine⟨by kernel_rfl,?_⟩;refine .inl ⟨_,xC (decide_eq_true (by rw[z4B];exact hn)),?_⟩;refine .inl ⟨_,hc,?_⟩;exact rfl
theorem zTU {w:Wd} {c:Cr} {j:Nat} {k n:Int} {f:Nat} (hj:frmL[j]? = some (fE k n f)) (hk:c.f=k) (hn:(c.kids.length:Int)=n) (hc:zAK Tryz.prog f [eW w,eC c] zCC):OfN w c:=by
 subst hk;have hfo:=zL4 hj;refine jD ttok mixed Tryz.func42 rfl (by rfl) (Nat.le_of_ble_eq_true rfl) (by kernel_rfl) ?_;refine WsemQ.seq ttok mixed ?_;refine WsemQ.seq ttok mixed ?_;refine .inl ⟨_,zP2,?_⟩;refine⟨_,zWU,rfl,hfo,?_⟩;refine⟨by kernel_rfl,?_⟩;refine WsemQ.seq ttok mixed ?_;refine .inl ⟨_,xC (decide_eq_true (by rw[z4B];exact hn)),?_⟩;refine WsemQ.seqS (WsemQ.region ttok 4 ?_);exact hc
end Go.Proofs.YtdmbahepaglcbaaGreatDoor
