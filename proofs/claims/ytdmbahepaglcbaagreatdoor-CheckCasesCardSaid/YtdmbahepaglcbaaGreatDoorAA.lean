/- The document's alt: what an alternative takes. No condition but on lengths. -/
import Derived.Test.YtdmbahepaglcbaaGreatDoorZ
import Derived.Test.YtdmbahepaglcbaaGreatDoorFpE
set_option linter.unusedSimpArgs false
set_option linter.unusedVariables false
namespace Go.Proofs.YtdmbahepaglcbaaGreatDoor
open Go Fp
set_option maxRecDepth 10000
set_option maxHeartbeats 8000000
set_option linter.unusedVariables false
theorem zG0 {f:Fd} {l:List Tp} {n:ByteArray} {vs:List ByteArray} (hd:f.t.sz<100000) (ha:f.ar<=1000000) (h:yQ f=some (l,n,vs)):zC Tryz.prog 150 [eFd f] (.tup [.sl (zJ l),.lit (.string n),.sl (eSs vs),.sb true]):=by
 have q:=zKN hd ha;unfold shR at q;rw[h] at q;exact q
theorem zNF {f:Fd} (hd:f.t.sz<100000) (ha:f.ar<=1000000) (h:yQ f=none):zC Tryz.prog 150 [eFd f] (.tup [.sl [],.lit (.string .empty),.sl [],.sb false]):=by
 have q:=zKN hd ha;unfold shR at q;rw[h] at q;exact q
theorem zQK {w:Wd} {t:Tp} {m:Int} {s:ByteArray} {xs:List ByteArray} {q:Cr}:zC Tryz.prog 139 [eW w,eTy t,eAl ((3,m,s),xs,q)] (.tup [eW w,.sb true]):=by
 refine zB ttok mixed Tryz.func139 rfl (by rfl) (Nat.le_of_ble_eq_true rfl) (by kernel_rfl) ?_;refine⟨fun _=>?_,fun h=>Bool.noConfusion (show true=false from h)⟩;exact rfl
theorem zTJ {w:Wd} {t:Tp} {m:Int} {s:ByteArray} {xs:List ByteArray} {q:Cr} {f:Fd} (hfl:w.fs.length<=1000000) (h:wB w.fs s=some f) (hd:f.t.sz<100000) (ha:f.ar<=1000000) (hsp:(zI t).length<1000000) (hs:yQ f=none):zC Tryz.prog 139 [eW w,eTy t,eAl ((1,m,s),xs,q)] (.tup [eW w,.sb false]):=by
 refine zB ttok mixed Tryz.func139 rfl (by rfl) (Nat.le_of_ble_eq_true rfl) (by kernel_rfl) ?_;refine⟨fun h=>Bool.noConfusion (show false=true from h),fun _=>?_⟩;refine⟨fun h=>Bool.noConfusion (show false=true from h),fun _=>?_⟩;refine⟨fun _=>?_,fun h=>Bool.noConfusion (show true=false from h)⟩;refine .inl ⟨_,(zDY hfl).1 f h,?_⟩;refine⟨fun h=>Bool.noConfusion (show false=true from h),fun _=>?_⟩;refine .inl ⟨_,zNF hd ha hs,?_⟩;refine .inl ⟨_,zC3 t hsp,?_⟩;refine⟨fun h=>Bool.noConfusion (show true=false from h),fun _=>?_⟩;exact rfl
def z1P (t:Tp) (xs:List ByteArray) (l:List Tp) (n:ByteArray) (vs:List ByteArray):Prop:=(xW t).form=3/\(xW t).nam=n/\(zI t).length=vs.length/\xs.length=l.length
theorem zRT {w:Wd} {t:Tp} {m:Int} {s:ByteArray} {xs:List ByteArray} {q:Cr} {f:Fd} {l:List Tp} {n:ByteArray} {vs:List ByteArray} (hfl:w.fs.length<=1000000) (h:wB w.fs s=some f) (hd:f.t.sz<100000) (ha:f.ar<=1000000) (hsp:(zI t).length<1000000) (hs:yQ f=some (l,n,vs)) (hc:¬z1P t xs l n vs):zC Tryz.prog 139 [eW w,eTy t,eAl ((1,m,s),xs,q)] (.tup [eW w,.sb false]):=by
 have e1:(zJ (zI t).reverse).length=(zI t).length:=by simp[zJ]
 have e2:=wC vs;have e3:=wC xs;have e4:(zJ l).length=l.length:=by simp[zJ]
 refine zB ttok mixed Tryz.func139 rfl (by rfl) (Nat.le_of_ble_eq_true rfl) (by kernel_rfl) ?_;refine⟨fun h=>Bool.noConfusion (show false=true from h),fun _=>?_⟩;refine⟨fun h=>Bool.noConfusion (show false=true from h),fun _=>?_⟩;refine⟨fun _=>?_,fun h=>Bool.noConfusion (show true=false from h)⟩;refine .inl ⟨_,(zDY hfl).1 f h,?_⟩;refine⟨fun h=>Bool.noConfusion (show false=true from h),fun _=>?_⟩;refine .inl ⟨_,zG0 hd ha hs,?_⟩;refine .inl ⟨_,zC3 t hsp,?_⟩;refine⟨fun _=>?_,fun h=>Bool.noConfusion (show false=true from h)⟩;refine⟨fun h1=>?_,fun h1=>?_⟩
 ·have h1:(xW t).form=3:=by have h1:=h1;simpa using h1
  refine⟨fun h2=>?_,fun h2=>?_⟩
  ·have h2:(xW t).nam=n:=by have h2:=h2;simpa using h2
   refine⟨fun h3=>?_,fun h3=>?_⟩
   ·have h3:(zI t).length=vs.length:=by rw[e1,e2] at h3;have h3:=h3;simp at h3;omega
    refine⟨fun h4=>?_,fun h4=>?_⟩
    ·exact rfl
    ·have h4:xs.length=l.length:=by rw[e4] at h4;have h4:(!decide ((((eSs xs).length:Nat):Int)=(l.length:Nat)))=false:=h4;rw[e3] at h4;simp at h4;omega
     exact absurd ⟨h1,h2,h3,h4⟩ hc
   ·exact rfl
  ·exact rfl
 ·exact rfl
theorem zKA {w:Wd} {t:Tp} {m:Int} {s:ByteArray} {xs:List ByteArray} {q:Cr} {f:Fd} {l:List Tp} {n:ByteArray} {vs:List ByteArray} (hfl:w.fs.length<=1000000) (h:wB w.fs s=some f) (hd:f.t.sz<100000) (ha:f.ar<=1000000) (hsp:(zI t).length<1000000) (hs:yQ f=some (l,n,vs)) (hc:z1P t xs l n vs) (hel:w.env.length+xs.length<=100000) (hfit:∀x∈l,∃K,FitX K x (bys vs t))
  (K:Nat) (hK:K<=l.length) (hnd:∀j (hj:j<xs.length),j<K->xs[j]∉xs.take j) (hend:K=l.length∨∃hj:K<xs.length,xs[K]∈xs.take K):zC Tryz.prog 139 [eW w,eTy t,eAl ((1,m,s),xs,q)] (.tup [eW (w.more (zM (xs.take K) (l.take K) (bys vs t))),.sb (decide (K=l.length))]):=by
 have e1:(zJ (zI t).reverse).length=(zI t).length:=by simp[zJ]
 have e2:=wC vs;have e3:=wC xs;have e4:(zJ l).length=l.length:=by simp[zJ]
 obtain⟨c1,c2,c3,c4⟩:=hc;have hN:eN (bys vs t)=eSs vs:=zRM (by simp;omega);have hB:eB (bys vs t)=zJ (zI t).reverse:=zRH (by simp;omega);obtain⟨r,hr⟩:∃r,r=AV.tup [eW (w.more (zM (xs.take K) (l.take K) (bys vs t))),.sb (decide (K=l.length))]:=⟨_,rfl⟩
 rw[<-hr];refine zB ttok mixed Tryz.func139 rfl (by rfl) (Nat.le_of_ble_eq_true rfl) (by kernel_rfl) ?_;refine⟨fun h=>Bool.noConfusion (show false=true from h),fun _=>?_⟩;refine⟨fun h=>Bool.noConfusion (show false=true from h),fun _=>?_⟩;refine⟨fun _=>?_,fun h=>Bool.noConfusion (show true=false from h)⟩;refine .inl ⟨_,(zDY hfl).1 f h,?_⟩;refine⟨fun h=>Bool.noConfusion (show false=true from h),fun _=>?_⟩;refine .inl ⟨_,zG0 hd ha hs,?_⟩;refine .inl ⟨_,zC3 t hsp,?_⟩;refine⟨fun _=>?_,fun h=>Bool.noConfusion (show false=true from h)⟩;refine⟨fun _=>?_,fun h1=>absurd h1 (by simp[c1])⟩;refine⟨fun _=>?_,fun h1=>absurd h1 (by simp[c2])⟩;refine⟨fun _=>?_,fun h1=>absurd h1 (by rw[e1,e2,c3];simp)⟩;refine⟨fun h1=>absurd h1 (by rw[e4];show ¬(!decide ((((eSs xs).length:Nat):Int)=(l.length:Nat)))=true;rw[e3,c4];simp),fun _=>?_⟩;refine⟨{k:Nat // k<=K},fun k=>{vs:=[(3,.box 0 (eW (w.more (zM (xs.take k.1) (l.take k.1) (bys vs t))))),(5,.box 0 (eAl ((1,m,s),xs,q))),(6,.box 0 (.agg [.sl [],.sl [],.sl [],.sl [],.lit (.int .i64 0)])),(10,.v (.sl (zJ l))),(12,.v (.sl (eSs vs))),(15,.v (.sl (zJ (zI t).reverse))),(16,sv (k.1:Nat))]},fun k=>K-k.1,⟨0,Nat.zero_le _⟩,⟨⟨?_,rfl,rfl,rfl,rfl,rfl,rfl,trivial⟩,trivial,rfl⟩,?_⟩
 ·show SV.box 0 (eW w)=SV.box 0 (eW (w.more (zM [] [] (bys vs t))));rw[show w.more (zM [] [] (bys vs t))=w from zSX w]
 rintro⟨k,hk⟩;refine⟨fun h1=>?_,fun h1=>?_⟩
 ·have h1:k<l.length:=by have h:=of_decide_eq_true h1;rw[e4] at h;simp only at h;omega
  have h2:k<xs.length:=by omega
  have hat:(eSs xs)[k]? = some (str xs[k]):=zBI h2;have hh:zC Tryz.prog zBC [.sl (((eSs xs).take k).drop 0),str xs[k]] (.sb (memb xs[k] (xs.take k))):=by
   rw[List.drop_zero,show (eSs xs).take k=eSs (xs.take k) by simp[eSs,List.map_take]];exact zDX (by simp;omega)
  refine⟨by omega,by omega,by show (k:Int)<=((eSs xs).length:Nat);rw[e3];omega,.inl rfl,?_⟩;refine⟨_,by omega,hat,rfl,?_⟩;refine .inl ⟨_,hh,?_⟩;refine⟨by kernel_rfl,?_⟩;refine⟨fun h5=>?_,fun h5=>?_⟩
  ·have h5:xs[k]∈xs.take k:=memb_iff.1 h5;have hKk:K=k:=by
    rcases Nat.lt_or_ge k K with g|g
    ·exact absurd h5 (hnd k h2 g)
    ·omega
   have e:r = .tup [eW (w.more (zM (xs.take k) (l.take k) (bys vs t))),.sb false]:=by rw[hr,hKk,decide_eq_false (by omega)]
   rw[e];exact rfl
  ·have h5:¬xs[k]∈xs.take k:=fun q=>by have h5:memb xs[k] (xs.take k)=false:=h5;rw[yO q] at h5;cases h5
   have hKk:k<K:=by
    rcases Nat.lt_or_ge k K with g|g
    ·exact g
    ·have hk':k=K:=by omega
     subst hk';rcases hend with q|⟨q,q2⟩
     ·omega
     ·exact absurd q2 h5
   obtain⟨KF,hKF⟩:=hfit l[k] (List.getElem_mem h1);have hsub:=zJC l[k].sz l[k] (Nat.le_refl _) KF _ hKF;unfold qA at hsub;rw[hN,hB] at hsub;have hatl:(zJ l)[k]? = some (eTy l[k]):=by simp[zJ,h1]
   have hwith:=zSV (w.more (zM (xs.take k) (l.take k) (bys vs t))) xs[k] (sub l[k] (bys vs t)) (by
    show (w.env++zM _ _ _).length<=_;rw[List.length_append];have:(zM (xs.take k) (l.take k) (bys vs t)).length<=xs.length:=by unfold zM;rw[List.length_zip,List.length_take];omega
    omega)
   refine⟨_,by omega,hat,rfl,?_⟩;refine⟨_,by omega,hatl,rfl,?_⟩;refine .inl ⟨_,hsub,?_⟩;refine .inl ⟨_,hwith,?_⟩;refine⟨by kernel_rfl,?_⟩;refine⟨⟨k+1,hKk⟩,by simp only;omega,⟨?_,rfl,rfl,rfl,rfl,rfl,svc (wrap_succ (k:=k) (by omega)),trivial⟩,trivial,rfl⟩;have e:(w.more (zM (xs.take k) (l.take k) (bys vs t))).more [(xs[k],sub l[k] (bys vs t))]=w.more (zM (xs.take (k+1)) (l.take (k+1)) (bys vs t)):=by
    show ({fs:=w.fs,env:=(w.env++_)++_,ps:=w.ps,deep:=w.deep}:Wd)={fs:=w.fs,env:=w.env++_,ps:=w.ps,deep:=w.deep};rw[List.append_assoc]
    congr 2
    unfold zM;rw[List.take_succ_eq_append_getElem h2,List.take_succ_eq_append_getElem h1,List.map_append,List.zip_append (by simp;omega)]
    rfl
   exact congrArg (fun w'=>SV.box 0 (eW w')) e
 ·have h1:k=l.length:=by have h:=of_decide_eq_false h1;rw[e4] at h;simp only at h;omega
  have hKl:K=k:=by omega
  have e:r = .tup [eW (w.more (zM (xs.take k) (l.take k) (bys vs t))),.sb true]:=by rw[hr,hKl,decide_eq_true h1]
  rw[e];exact rfl
theorem zRW {w:Wd} {n:Int} {s:ByteArray} {t0:Tp} (hl:w.env.length<=100000):(∀t,zAP w.env s=some t->OfR w (.node 1 n s t0 .nil) t true)/\(zAP w.env s=none->OfR w (.node 1 n s t0 .nil) .no false):=by
 have hln:=z0C w.env;have hk:=zCY 1 (by decide) (by decide);have main:∀r:AV,(∀k (hk:k<w.env.length),(∀j (hj:j<w.env.length),k<j->w.env[j].1≠s)->w.env[k].1=s->r = .tup [eTy w.env[k].2,.sb true])->((∀j (hj:j<w.env.length),w.env[j].1≠s)->r = .tup [eTy .no,.sb false])->zC Tryz.prog 69 [eW w,eC (.node 1 n s t0 .nil)] r:=by
  intro r hy hn;refine zB ttok mixed Tryz.func69 rfl (by rfl) (Nat.le_of_ble_eq_true rfl) (by kernel_rfl) ?_;refine .inl ⟨_,hk,?_⟩;refine⟨by kernel_rfl,?_⟩;refine⟨fun h=>Bool.noConfusion (show false=true from h),fun _=>?_⟩;refine⟨fun _=>?_,fun h=>Bool.noConfusion (show true=false from h)⟩;refine⟨{k:Nat // k<=w.env.length/\∀j (hj:j<w.env.length),k<=j->w.env[j].1≠s},fun k=>{vs:=[(2,.box 0 (eW w)),(3,.box 0 (eC (.node 1 n s t0 .nil))),(4,.box 0 (eTy .no)),(6,sv ((k.1:Int)-1))]},fun k=>k.1,⟨w.env.length,Nat.le_refl _,fun j hj h=>by omega⟩,⟨⟨rfl,rfl,rfl,?_,trivial⟩,trivial,rfl⟩,?_⟩
  ·exact svc (by rw[hln,wrap_in (by unfold InR;omega)])
  rintro⟨k,hk,hinv⟩;refine⟨fun h=>?_,fun h=>?_⟩
  ·have h:0<k:=by have h:=of_decide_eq_true h;simp only at h;omega
   obtain⟨k,rfl⟩:∃j,k=j+1:=⟨k-1,by omega⟩
   have hk':k<w.env.length:=hk;have ei:(((k+1:Nat):Int)-1)=(k:Nat):=by omega
   have hat:(wQ w.env)[((((k+1:Nat):Int)-1)).toNat]? = some (eNa w.env[k]):=by rw[ei];exact z19 hk'
   have hge:(0:Int)<=(((k+1:Nat):Int)-1):=by omega
   have hw7:sv (IntKind.i64.wrap ((((k+1:Nat):Int)-1)-1))=sv ((k:Int)-1):=svc (by rw[ei,wrap_in (by unfold InR;omega)]);refine⟨_,hge,hat,rfl,?_⟩;refine⟨by kernel_rfl,?_⟩;refine⟨fun h2=>?_,fun h2=>?_⟩
   ·have h2:w.env[k].1=s:=of_decide_eq_true h2;rw[hy k hk' (fun j hj g=>hinv j hj g) h2];refine⟨_,hge,hat,rfl,?_⟩;exact rfl
   ·have h2:¬w.env[k].1=s:=of_decide_eq_false h2;refine⟨⟨k,by omega,fun j hj g=>?_⟩,Nat.lt_succ_self k,⟨rfl,rfl,rfl,hw7,trivial⟩,trivial,rfl⟩;by_cases e:j=k
    ·subst e;exact h2
    ·exact hinv j hj (by omega)
  ·have h:k=0:=by have h:=of_decide_eq_false h;simp only at h;omega
   subst h;rw[hn fun j hj=>hinv j hj (by omega)];exact rfl
 refine⟨fun t ht=>main _ (fun k hk h1 h2=>?_) (fun h=>?_),fun ht=>main _ (fun k hk h1 h2=>?_) (fun h=>rfl)⟩
 ·have e:=zCM (s:=s) hk h2 fun j g hj=>h1 j hj g;rw[e] at ht;cases ht;rfl
 ·unfold zAP at ht;obtain⟨p,hp,_⟩:=Option.map_eq_some_iff.1 ht;have hm:=List.mem_reverse.1 (List.mem_of_find?_eq_some hp);obtain⟨j,hj,rfl⟩:=List.getElem_of_mem hm;exact absurd (of_decide_eq_true (List.find?_some (p:=fun p:Nm2=>decide (p.1=s)) hp)) (h j hj)
 ·have e:=zCM (s:=s) hk h2 fun j g hj=>h1 j hj g;rw[e] at ht;cases ht
def zN4 (w:Wd) (t to:Tp) (a:Alg) (v:Bool):Prop := ∃wa oka,zC Tryz.prog 139 [eW w,eTy t,eAl a] (.tup [eW wa,.sb oka])/\(oka=true->∃ta okb,OfR wa a.2.2 ta okb/\(okb=true->zC Tryz.prog yL [eTy ta,eTy to] (.sb v))/\(okb=false->v=false))/\(oka=false->v=false)
theorem zRG {w:Wd} {c:Cr} {t:Tp} {K:Nat} (hf:FitX K c.t w.ps) (hl:c.alts.length<=1000000) (V:Alg->Bool) (h:∀a∈c.alts,zN4 w t (w.mean c.t) a (V a)):zC Tryz.prog 114 [eW w,eC c,eTy t] (.sb (c.alts.all V)):=by
 obtain⟨r,hr⟩:∃r,r=c.alts.all V:=⟨_,rfl⟩
 rw[<-hr];have hno:∀k (hk:k<c.alts.length),V c.alts[k]=false->r=false:=fun k hk q=>by
  rw[hr];refine Bool.eq_false_iff.2 fun q2=>?_;have:=List.all_eq_true.1 q2 _ (List.getElem_mem hk);rw[q] at this;cases this
 refine zB ttok mixed Tryz.func114 rfl (by rfl) (Nat.le_of_ble_eq_true rfl) (by kernel_rfl) ?_;refine .inl ⟨_,zJM w c.t hf,?_⟩;refine⟨{k:Nat // k<=c.alts.length/\∀j (hj:j<c.alts.length),j<k->V c.alts[j]=true},fun k=>{vs:=[(3,.box 0 (eW w)),(4,.box 0 (eC c)),(5,.box 0 (eTy t)),(7,.box 0 (eTy (w.mean c.t))),(8,sv (k.1:Nat))]},fun k=>c.alts.length-k.1,⟨0,Nat.zero_le _,fun j _ g=>by omega⟩,⟨⟨rfl,rfl,rfl,rfl,rfl,trivial⟩,trivial,rfl⟩,?_⟩;rintro⟨k,hk,hinv⟩;refine⟨fun h1=>?_,fun h1=>?_⟩
 ·have h1:k<c.alts.length:=by have h:=of_decide_eq_true h1;rw[z2F] at h;simp only at h;omega
  obtain⟨wa,oka,q1,q2,q3⟩:=h _ (List.getElem_mem h1);refine⟨_,by omega,z0E h1,rfl,?_⟩;refine .inl ⟨_,q1,?_⟩;refine⟨by kernel_rfl,?_⟩;refine⟨fun h2=>?_,fun h2=>?_⟩
  ·have h2:oka=false:=by have h2:=h2;simpa using h2
   have e:=hno k h1 (q3 h2);subst e;exact rfl
  ·have h2:oka=true:=by have h2:=h2;simpa using h2
   obtain⟨ta,okb,p1,p2,p3⟩:=q2 h2;refine⟨_,by omega,z0E h1,rfl,?_⟩;refine .inl ⟨_,p1,?_⟩;refine⟨by kernel_rfl,?_⟩;refine⟨fun h3=>?_,fun h3=>?_⟩
   ·have h3:okb=true:=by have h3:=h3;simpa using h3
    refine .inl ⟨_,p2 h3,?_⟩;refine⟨fun h4=>?_,fun h4=>?_⟩
    ·have h4:V c.alts[k]=false:=by have h4:=h4;simpa using h4
     have e:=hno k h1 h4;subst e;exact rfl
    ·have h4:V c.alts[k]=true:=by have h4:=h4;simpa using h4
     refine⟨⟨k+1,h1,fun j hj g=>?_⟩,by simp only;omega,⟨rfl,rfl,rfl,rfl,svc (wrap_succ (k:=k) (by omega)),trivial⟩,trivial,rfl⟩;by_cases e:j=k
     ·subst e;exact h4
     ·exact hinv j hj (by omega)
   ·have h3:okb=false:=by have h3:=h3;simpa using h3
    have e:=hno k h1 (p3 h3);subst e;exact rfl
 ·have h1:k=c.alts.length:=by have h:=of_decide_eq_false h1;rw[z2F] at h;simp only at h;omega
  have e:r=true:=by
   rw[hr];refine List.all_eq_true.2 fun a ha=>?_;obtain⟨j,hj,rfl⟩:=List.getElem_of_mem ha;exact hinv j hj (by omega)
  subst e;exact rfl
theorem zWU {fs:List Fd} {env:List Nm2} {c:Cr} {t:Tp} {b:Bool} (h:OfR (.of fs env) c t b):zC Tryz.prog 35 [.sl (zA8 fs),.sl (wQ env),eC c] (if b=true then .tup [eTy t,.lit (.int .i64 0)] else .tup [eTy .no,.lit (.int .i64 50)]):=by
 refine zB ttok mixed Tryz.func35 rfl (by rfl) (Nat.le_of_ble_eq_true rfl) (by kernel_rfl) ?_;refine .inl ⟨_,h,?_⟩;refine⟨fun h2=>?_,fun h2=>?_⟩
 ·have h2:b=false:=by have h2:=h2;simpa using h2
  subst h2;exact rfl
 ·have h2:b=true:=by have h2:=h2;simpa using h2
  subst h2;exact rfl
abbrev abc:List ByteArray:=[⟨#[97]⟩,⟨#[98]⟩,⟨#[99]⟩]
abbrev sTT:ByteArray:=⟨#[84]⟩
def ShT (t:Tp):Prop:=TkX t/\Shn 10 t/\t.sz<=300
def zPB (l:List ByteArray):Tp:=l.foldl (fun t v => .app t (.var v)) (.con sTT)
def SzT (N:Nat) (t:Tp):Prop:=TkX t/\Shn 10 t/\t.sz<=N
theorem zY8:∀x∈abc,Wrd x/\x.size<=10:=by
 intro x hx;simp only[List.mem_cons,List.not_mem_nil,or_false] at hx;rcases hx with rfl|rfl|rfl<;>exact⟨by decide,by decide⟩
abbrev ShW (q:Code) (f:Fr) (t:Tp):Prop:=Wsem Tryz.prog q (mkC f) (fun c2=>wY tt Tryz.f32.results.toList (fun r o h=>r=eTy t/\o=0/\(h=[]∨∃b l' k,h=mkH b l' k)) (den c2)) (fun _ _=>False) (fun c2=>wY tt Tryz.f32.results.toList (fun r o h=>r=eTy t/\o=0/\(h=[]∨∃b l' k,h=mkH b l' k)) (den c2))
theorem zUF (l:List ByteArray) (v:ByteArray):zPB (l++[v]) = .app (zPB l) (.var v):=by simp[zPB]
theorem zZO:∀(r:Nat),r<=3->SzT 7 (zPB (abc.take r)):=by
 intro r hr;have ct:CoW sTT:=⟨by decide,_,_,rfl,by decide⟩
 match r,hr with
 | 0,_=>exact⟨ct,Nat.le_of_ble_eq_true rfl,by decide⟩
 | 1,_=>exact⟨⟨ct,(by decide:Wrd ⟨#[97]⟩)⟩,⟨Nat.le_of_ble_eq_true rfl,Nat.le_of_ble_eq_true rfl⟩,by decide⟩
 | 2,_=>exact⟨⟨⟨ct,(by decide:Wrd ⟨#[97]⟩)⟩,(by decide:Wrd ⟨#[98]⟩)⟩,⟨⟨Nat.le_of_ble_eq_true rfl,Nat.le_of_ble_eq_true rfl⟩,Nat.le_of_ble_eq_true rfl⟩,by decide⟩
 | 3,_=>exact⟨⟨⟨⟨ct,(by decide:Wrd ⟨#[97]⟩)⟩,(by decide:Wrd ⟨#[98]⟩)⟩,(by decide:Wrd ⟨#[99]⟩)⟩,⟨⟨⟨Nat.le_of_ble_eq_true rfl,Nat.le_of_ble_eq_true rfl⟩,Nat.le_of_ble_eq_true rfl⟩,Nat.le_of_ble_eq_true rfl⟩,by decide⟩
theorem zGX {l:List Int} {n:Int} {r3:Nat} {t:Tp} (hr3:r3<3) (ha3:zC Tryz.prog wV [.lit (.int .i64 n),.lit (.int .i64 3)] (.lit (.int .i64 (r3:Nat)))) (h:ShW (xZ (xZ (xZ (xZ (bodyC Tryz.f32))))) {vs:=[(0,.v (.sl (eIs l))),(1,sv n),(4,.box 0 (eTy .no)),(5,.v (.sl (eSs (abc.take r3)))),(6,.box 0 (eTy (zPB (abc.take r3))))]} t):CallsG Tryz.prog (fnv 32) [] [.sl (eIs l),.lit (.int .i64 n)] [] fun r o h=>r=eTy t/\o=0/\(h=[]∨∃b l' k,h=mkH b l' k):=by
 have e5:([str ⟨#[97]⟩,str ⟨#[98]⟩,str ⟨#[99]⟩].take r3).drop 0=eSs (abc.take r3):=by simp[eSs,List.map_take]
 have hlen:(abc.take r3).length=r3:=by simp;omega
 refine zN (first:=[]) (cap:=[]) ttok mixed Tryz.func32 rfl (by rfl) rfl (Nat.le_of_ble_eq_true rfl) (by kernel_rfl) ?_;refine Wsem.seq ttok mixed ?_;refine Wsem.seq ttok mixed ?_;refine .inl ⟨_,ha3,?_⟩;refine⟨by omega,by omega,by simp;omega,.inl rfl,?_⟩;refine Wsem.cut {vs:=[(0,.v (.sl (eIs l))),(1,sv n),(4,.box 0 (eTy .no)),(5,.v (.sl (eSs (abc.take r3))))]} ⟨⟨rfl,rfl,rfl,?_,trivial⟩,trivial,rfl⟩ ?_
 ·rw[<-e5];exact rfl
 refine Wsem.seq ttok mixed ?_;refine .inl ⟨_,xU sTT,?_⟩;refine Wsem.seq ttok mixed ?_;refine⟨{k:Nat // k<=r3},fun k=>{vs:=[(0,.v (.sl (eIs l))),(1,sv n),(4,.box 0 (eTy .no)),(5,.v (.sl (eSs (abc.take r3)))),(6,.box 0 (eTy (zPB (abc.take k.1)))),(7,sv (k.1:Nat))]},fun k=>r3-k.1,⟨0,Nat.zero_le _⟩,⟨⟨rfl,rfl,rfl,rfl,rfl,rfl,trivial⟩,trivial,rfl⟩,?_⟩;rintro⟨k,hk⟩;refine⟨fun h1=>?_,fun h1=>?_⟩
 ·have h1:k<r3:=by have h:=of_decide_eq_true h1;rw[wC,hlen] at h;simp only at h;omega
  have hka:k<abc.length:=by show k<3;omega
  have hat:(eSs (abc.take r3))[k]? = some (str abc[k]):=by
   have:(abc.take r3)[k]? = some abc[k]:=by rw[List.getElem?_take_of_lt h1,List.getElem?_eq_getElem hka]
   unfold eSs;rw[List.getElem?_map,this];rfl
  refine⟨_,by omega,hat,rfl,?_⟩;refine⟨by kernel_rfl,?_⟩;refine⟨⟨k+1,h1⟩,by simp only;omega,⟨rfl,rfl,rfl,rfl,?_,svc (wrap_succ (k:=k) (by omega)),trivial⟩,trivial,rfl⟩;rw[List.take_succ_eq_append_getElem hka,zUF];exact rfl
 ·have h1:k=r3:=by have h:=of_decide_eq_false h1;rw[wC,hlen] at h;simp only at h;omega
  subst h1;refine Wsem.cut _ ?_ h;exact⟨⟨rfl,rfl,rfl,rfl,rfl,trivial⟩,trivial,rfl⟩
inductive ShR (vs:List ByteArray):Nat->List Int->Tp->Tp->List Int->Prop
 | nil (l:List Int) (t:Tp):ShR vs 0 l t t l
 | cons {k:Nat} {l l1 l2:List Int} {t u t2:Tp} (h:∀b,zHD b l 0 vs 1 u l1) (h2:ShR vs k l1 (fnT u t) t2 l2):ShR vs (k+1) l t t2 l2
theorem z1B {vs:List ByteArray} (hv:vs.length<1000) (hw:∀x∈vs,Wrd x/\x.size<=10):∀(k:Nat) (l:List Int) (t:Tp) (N:Nat),Nums l->SzT N t->∃t2 l2,ShR vs k l t t2 l2/\SzT (N+25*k) t2:=by
 intro k;induction k with
 | zero=>intro l t N hl ht;exact⟨t,l,.nil l t,ht⟩
 | succ k ih =>
  intro l t N hl ht;obtain⟨u,l1,hu,us,hl1,hT⟩:=zYS vs hv 2 1 l 0 rfl hl;have us:u.sz<=19:=us;have tk:=zEJ hw hu.1;obtain⟨t2,l2,h1,h2⟩:=ih l1 (fnT u t) (N+25) hl1 ⟨⟨⟨zUW,tk.1⟩,ht.1⟩,⟨⟨Nat.le_of_ble_eq_true rfl,tk.2⟩,ht.2.1⟩,by have:=ht.2.2;simp only[Tp.sz];omega⟩;exact⟨t2,l2,.cons hT h1,h2.1,h2.2.1,by have:=h2.2.2;omega⟩
def zMJ (vs:List ByteArray) (t:Tp):Tp:=vs.foldr (fun v t => .all v t) t
theorem zYQ {vs:List ByteArray} (hw:∀x∈vs,Wrd x/\x.size<=10) {t:Tp} {N:Nat} (ht:SzT N t):SzT (N+vs.length) (zMJ vs t):=by
 induction vs with
 | nil=>exact ht
 | cons v vs ih =>
  have h:=ih fun x hx=>hw x (List.mem_cons_of_mem _ hx);exact⟨⟨(hw v List.mem_cons_self).1,h.1⟩,h.2.1,by have:=h.2.2;simp only[zMJ,List.foldr_cons,Tp.sz,List.length_cons] at this⊢;omega⟩
theorem zNQ {b:Nat} {n:Int} {r3 r4:Nat} {l l2:List Int} {t t2:Tp} (hr3:r3<3) (hr4:r4<4) (ha4:zC Tryz.prog wV [.lit (.int .i64 (IntKind.i64.wrap (n.tdiv 18))),.lit (.int .i64 4)] (.lit (.int .i64 (r4:Nat)))) (h:ShR (abc.take r3) r4 l t t2 l2):ShW (xZ (xZ (xZ (xZ (xZ (xZ (bodyC Tryz.f32))))))) {vs:=[(1,sv n),(4,.box 0 (eTy .no)),(5,.v (.sl (eSs (abc.take r3)))),(6,.box 0 (eTy t)),(8,.v (pt b 0))],hp:=mkH b l 0} (zMJ (abc.take r3) t2):=by
 have hlen:(abc.take r3).length=r3:=by simp;omega
 have hln:(eSs (abc.take r3)).length=r3:=by rw[wC,hlen]
 refine Wsem.seq ttok mixed ?_;refine⟨by decide,?_⟩;refine .inl ⟨_,ha4,?_⟩;refine⟨{s:Nat×List Int×Tp // ShR (abc.take r3) s.1 s.2.1 s.2.2 t2 l2/\s.1<=r4},fun s=>{vs:=[(1,sv n),(4,.box 0 (eTy .no)),(5,.v (.sl (eSs (abc.take r3)))),(6,.box 0 (eTy s.1.2.2)),(8,.v (pt b 0)),(9,sv (s.1.1:Nat))],hp:=mkH b s.1.2.1 0},fun s=>s.1.1,⟨(r4,l,t),h,Nat.le_refl _⟩,⟨⟨rfl,rfl,rfl,rfl,rfl,rfl,trivial⟩,trivial,rfl⟩,?_⟩;rintro⟨⟨k,l0,t0⟩,hs,hk⟩
 dsimp only at hs hk
 refine⟨fun h1=>?_,fun h1=>?_⟩
 ·have h1:0<k:=by have h:=of_decide_eq_true h1;simp only at h;omega
  cases hs with
  | nil=>omega
  | @cons k _ l1 _ _ u _ hT h2 =>
   refine .inr (.inr (.inr ⟨[0],mkH b l0 0,mkH b l1 0,_,rfl,xA,rfl,hT b,?_⟩));refine .inl ⟨_,zFW u t0,?_⟩;refine⟨by kernel_rfl,?_⟩;refine⟨⟨(k,l1,fnT u t0),h2,Nat.le_of_succ_le hk⟩,Nat.lt_succ_self k,⟨rfl,rfl,rfl,rfl,rfl,?_,trivial⟩,trivial,rfl⟩;exact svc (by show IntKind.i64.wrap (((k+1:Nat):Int)-1)=((k:Nat):Int);rw[wrap_in (by unfold InR;omega)];omega)
 ·have h1:k=0:=by have h:=of_decide_eq_false h1;simp only at h;omega
  subst h1;cases hs
  refine Wsem.seq ttok mixed ?_;refine⟨{j:Nat // j<=r3},fun j=>{vs:=[(4,.box 0 (eTy .no)),(5,.v (.sl (eSs (abc.take r3)))),(6,.box 0 (eTy (zMJ ((abc.take r3).drop j.1) t2))),(10,sv ((j.1:Int)-1))],hp:=mkH b l2 0},fun j=>j.1,⟨r3,Nat.le_refl _⟩,⟨⟨rfl,rfl,?_,?_,trivial⟩,trivial,rfl⟩,?_⟩
  ·show SV.box 0 (eTy t2)=SV.box 0 (eTy (zMJ ((abc.take r3).drop r3) t2));rw[List.drop_of_length_le (by omega)];rfl
  ·exact svc (by rw[hln,wrap_in (by unfold InR;omega)])
  rintro⟨j,hj⟩;refine⟨fun h3=>?_,fun h3=>?_⟩
  ·have h3:0<j:=by have h:=of_decide_eq_true h3;simp only at h;omega
   obtain⟨j,rfl⟩:∃i,j=i+1:=⟨j-1,by omega⟩
   have ei:(((j+1:Nat):Int)-1)=(j:Nat):=by omega
   have hjl:j<(abc.take r3).length:=by omega
   have hat:(eSs (abc.take r3))[((((j+1:Nat):Int)-1)).toNat]? = some (str (abc.take r3)[j]):=by rw[ei];exact zBI hjl
   refine⟨_,(by omega:(0:Int)<=(((j+1:Nat):Int)-1)),hat,rfl,?_⟩;refine .inl ⟨_,zVC (abc.take r3)[j] (zMJ ((abc.take r3).drop (j+1)) t2),?_⟩;refine⟨by kernel_rfl,?_⟩;refine⟨⟨j,by omega⟩,Nat.lt_succ_self j,⟨rfl,rfl,?_,?_,trivial⟩,trivial,rfl⟩
   ·rw[List.drop_eq_getElem_cons hjl];exact rfl
   ·exact svc (by rw[ei,wrap_in (by unfold InR;omega)])
  ·have h3:j=0:=by have h:=of_decide_eq_false h3;simp only at h;omega
   subst h3;refine Wsem.of ttok mixed ?_;exact⟨rfl,rfl,.inr ⟨b,l2,0,rfl⟩⟩
theorem zUV {l:List Int} {n:Int} (hl:l.length<9223372036854775808) (hr:∀x∈l,InR x) (hn:InR n):∃t,ShT t/\zC Tryz.prog 32 [.sl (eIs l),.lit (.int .i64 n)] (eTy t):=by
 obtain⟨r3,hr3,ha3⟩:=xX (n:=n) (m:=3) hn (by decide) (by decide);obtain⟨r6,hr6,ha6⟩:=xX (n:=IntKind.i64.wrap (n.tdiv 3)) (m:=6) (z0A _) (by decide) (by decide);obtain⟨r4,hr4,ha4⟩:=xX (n:=IntKind.i64.wrap (n.tdiv 18)) (m:=4) (z0A _) (by decide) (by decide);obtain⟨T0,hT0,hg0,hs0⟩:=zR8 hl hr;have pure:∀t,CallsG Tryz.prog (fnv 32) [] [.sl (eIs l),.lit (.int .i64 n)] [] (fun r o h=>r=eTy t/\o=0/\(h=[]∨∃b l' k,h=mkH b l' k))->zC Tryz.prog 32 [.sl (eIs l),.lit (.int .i64 n)] (eTy t):=fun t h=>h.pure (by
  rintro r o h ⟨rfl,rfl,_⟩;exact⟨.refl _,rfl⟩)
 by_cases h0:r6=0
 ·refine⟨T0,⟨(zE3 hg0).1,(zE3 hg0).2,by omega⟩,pure _ (zGX (by omega) ha3 ?_)⟩;subst h0;refine Wsem.of ttok mixed ?_;refine⟨by decide,?_⟩;refine .inl ⟨_,ha6,?_⟩;refine⟨fun _=>?_,fun h=>Bool.noConfusion (show true=false from h)⟩;refine .inl ⟨_,hT0,?_⟩;exact⟨rfl,rfl,.inl rfl⟩
 ·have hvw:∀x∈abc.take r3,Wrd x/\x.size<=10:=fun x hx=>zY8 x (List.mem_of_mem_take hx);have hlen:(abc.take r3).length=r3:=by simp;omega
  have hl20:Nums (l.take 20):=⟨by simp;omega,fun i hi=>hr i (List.mem_of_mem_take hi)⟩
  have hv0:=zZO r3 (by omega);obtain⟨t,ht,htz⟩:∃t,t=(if r6=1 then .app (zPB (abc.take r3)) (.con xI) else zPB (abc.take r3))/\SzT 9 t:=by
   refine⟨_,rfl,?_⟩;split
   ·exact⟨⟨hv0.1,⟨by decide,_,_,rfl,by decide⟩⟩,⟨hv0.2.1,Nat.le_of_ble_eq_true rfl⟩,by have:=hv0.2.2;simp only[Tp.sz];omega⟩
   ·exact⟨hv0.1,hv0.2.1,by have:=hv0.2.2;omega⟩
  obtain⟨t2,l2,hR,hz⟩:=z1B (by omega) hvw r4 (l.take 20) t 9 hl20 htz;have hfin:=zYQ hvw hz;refine⟨zMJ (abc.take r3) t2,⟨hfin.1,hfin.2.1,by have:=hfin.2.2;omega⟩,pure _ (zGX (by omega) ha3 ?_)⟩;have mid:ShW (xZ (xZ (xZ (xZ (xZ (bodyC Tryz.f32)))))) {vs:=[(0,.v (.sl (eIs l))),(1,sv n),(4,.box 0 (eTy .no)),(5,.v (.sl (eSs (abc.take r3)))),(6,.box 0 (eTy t))]} (zMJ (abc.take r3) t2):=by
   refine Wsem.seq ttok mixed ?_;refine .inl ⟨_,zMP (n:=20) hl (by decide),?_⟩;refine .inr ⟨rfl,fun b=>?_⟩;refine Wsem.cut _ ?_ (zNQ (b:=b) (by omega) (by omega) ha4 hR);exact⟨⟨rfl,rfl,rfl,rfl,rfl,trivial⟩,trivial,rfl⟩
  refine Wsem.seq ttok mixed ?_;refine⟨by decide,?_⟩;refine .inl ⟨_,ha6,?_⟩;refine⟨fun h=>absurd (of_decide_eq_true h) (by omega),fun _=>?_⟩;refine⟨fun h=>?_,fun h=>?_⟩
  ·have h:r6=1:=by have h:=of_decide_eq_true h;omega
   rw[if_pos h] at ht;subst ht;refine .inl ⟨_,xU xI,?_⟩;refine⟨by kernel_rfl,?_⟩;refine Wsem.cut _ ?_ mid;exact⟨⟨rfl,rfl,rfl,rfl,rfl,trivial⟩,trivial,rfl⟩
  ·have h:¬r6=1:=by have h:=of_decide_eq_false h;omega
   rw[if_neg h] at ht;subst ht;refine Wsem.cut _ ?_ mid;exact⟨⟨rfl,rfl,rfl,rfl,rfl,trivial⟩,trivial,rfl⟩
theorem zZ0 (t:Tp):∀ps:Env',TkX t->(∀p∈ps,TkX p.2)->TkX (sub t ps):=by
 induction t with
 | no=>exact fun _ h _=>h
 | mt n=>exact fun _ h _=>h
 | con s=>exact fun _ h _=>h
 | var s =>
  intro ps h hp;simp only[sub];cases hl:look s ps with
  | none=>exact h
  | some u=>exact hp _ (zHW hl)
 | app a b iha ihb=>exact fun ps h hp=>⟨iha ps h.1 hp,ihb ps h.2 hp⟩
 | all s a ih =>
  intro ps h hp;have hk:∀p∈kept s (fv a) ps,TkX p.2:=fun p q=>hp p (List.mem_filter.1 q).1;rw[sub];split
  ·refine⟨zR4 _,ih _ h.2 fun p q=>?_⟩;rcases List.mem_append.1 q with q|q
   ·exact hk p q
   ·rw[List.mem_singleton.1 q];exact zR4 _
  ·exact⟨h.1,ih _ h.2 hk⟩
theorem zQR {n:Nat} (h:n<=1000000):(lett n).size<=1000:=by
 unfold lett;split
 ·exact Nat.le_of_ble_eq_true rfl
 ·have:=wO 7 (n / 26) (by omega) (by decide);rw[ByteArray.size_append];show 1+_<=1000;omega
theorem zG6 {M:Nat}:∀{ps:Env'},(∀p∈ps,p.2.sz<=M)->(caught ps).length<=M*ps.length
 | [],_=>by simp[caught]
 | p::r,h=>by
  have h1:=zG6 (ps:=r) fun q hq=>h q (List.mem_cons_of_mem _ hq);have h2:=zF0 p.2;have h3:=h p List.mem_cons_self;show (fv p.2++caught r).length<=_;rw[List.length_append,List.length_cons,Nat.mul_succ];omega
theorem zZU {M:Nat} (hM:1<=M) (t:Tp):∀ps:Env',Shn 1000 t->(∀p∈ps,Shn 1000 p.2/\p.2.sz<=M)->M*(ps.length+dp t)+t.sz<=1000000->Shn 1000 (sub t ps):=by
 induction t with
 | no=>exact fun _ h _ _=>h
 | mt n=>exact fun _ h _ _=>h
 | con s=>exact fun _ h _ _=>h
 | var s =>
  intro ps h hp _;simp only[sub];cases hl:look s ps with
  | none=>exact h
  | some u=>exact (hp _ (zHW hl)).1
 | app a b iha ihb =>
  intro ps h hp hz;simp only[dp,Tp.sz] at hz;have h1:M*(ps.length+dp a)<=M*(ps.length+max (dp a) (dp b)):=Nat.mul_le_mul_left _ (by omega);have h2:M*(ps.length+dp b)<=M*(ps.length+max (dp a) (dp b)):=Nat.mul_le_mul_left _ (by omega);exact⟨iha ps h.1 hp (by omega),ihb ps h.2 hp (by omega)⟩
 | all s a ih =>
  intro ps h hp hz;simp only[dp,Tp.sz] at hz;have hkl:(kept s (fv a) ps).length<=ps.length:=List.length_filter_le _ _;have hk:∀p∈kept s (fv a) ps,Shn 1000 p.2/\p.2.sz<=M:=fun p q=>hp p (List.mem_filter.1 q).1;have hm1:M*((kept s (fv a) ps).length+1+dp a)<=M*(ps.length+(dp a+1)):=Nat.mul_le_mul_left _ (by omega);have hm2:M*((kept s (fv a) ps).length+dp a)<=M*(ps.length+(dp a+1)):=Nat.mul_le_mul_left _ (by omega);have hm3:M*(kept s (fv a) ps).length<=M*(ps.length+(dp a+1)):=Nat.mul_le_mul_left _ (by omega);have hfl:=zF0 a;rw[sub];split
  ·have hn:(lett (ff (caught (kept s (fv a) ps)++fv a))).size<=1000:=by
    refine zQR ?_;have h1:=zUZ (caught (kept s (fv a) ps)++fv a);have h2:=zG6 fun p q=>(hk p q).2;rw[List.length_append] at h1;omega
   refine ih _ h (fun p q=>?_) (by rw[List.length_append,List.length_singleton];omega);rcases List.mem_append.1 q with q|q
   ·exact hk p q
   ·rw[List.mem_singleton.1 q];exact⟨hn,hM⟩
  ·exact ih _ h hk (by omega)
abbrev sKK:ByteArray:=⟨#[75]⟩
theorem zEM {w1:Wd} {t to:Tp} {b:Cr} {tb:Tp} (h1:OfS w1 b tb) (h2:OfR w1 b tb true) (hb:TkX tb/\Shn 1000 tb/\tb.sz<=800000) (hto:TkX to/\Shn 1000 to/\to.sz<=800000) {w:Wd} {a:Alg} (ha:a.2.2=b) (hk:TkS w t a w1) (hr:zC Tryz.prog 139 [eW w,eTy t,eAl a] (.tup [eW w1,.sb true])):∃v,zN4 w t to a v/\(v=true->zT5 w t to a)/\(v=false->zY0 w t to a):=by
 have hd:=jJ tb;subst ha;refine⟨smb tb to [] [],⟨w1,true,hr,fun _=>⟨tb,true,h2,fun _=>zK4 (K:=1000) hb.1 hto.1 hb.2.1 hto.2.1 hb.2.2 hto.2.2 (by decide),fun h=>by cases h⟩,fun h=>by cases h⟩,fun h=>⟨w1,hk,⟨tb,h1,h,by omega⟩⟩,fun h => .inr ⟨w1,hk,.inr ⟨tb,h1,h,by omega⟩⟩⟩
theorem zSW:∀(t:Tp) (vs ws:List ByteArray) (u:Tp),wX t vs=some (ws,u)->TkX t->Shn 1000 t->TkX u/\Shn 1000 u:=by
 intro t;induction t with
 | all s a ih =>
  intro vs ws u h h1 h2;rw[yX] at h;split at h
  ·cases h
  ·exact ih _ _ _ h h1.2 h2
 | _=>intro vs ws u h h1 h2;cases h;exact⟨h1,h2⟩
theorem zKG:∀(n:Nat) (t u:Tp) (l:List Tp),yK n t=some (l,u)->TkX t->Shn 1000 t->∀x∈l,TkX x/\Shn 1000 x
 | 0,t,u,l,h,_,_=>by cases h;simp
 | n+1,t,u,l,h,h1,h2=>by
  simp only[yK] at h;split at h
  ·rename_i hp;obtain⟨g,x,y,rfl,hq⟩:=zJ7 (t:=t) (by rw[<-zCF];exact hp);rw[hq] at h;simp only at h;cases hr:yK n y with
   | none=>rw[hr] at h;cases h
   | some r =>
    rw[hr] at h;cases h
    intro z hz;rcases List.mem_cons.1 hz with rfl|hz
    ·exact⟨h1.1.2,h2.1.2⟩
    ·exact zKG n y r.2 r.1 hr h1.2 h2.2 z hz
  ·cases h
theorem zZL:∀t:Tp,TkX t->Shn 1000 t->∀x∈zI t,TkX x/\Shn 1000 x/\x.sz<=t.sz:=by
 intro t;induction t with
 | app a b iha ihb =>
  intro h1 h2 x hx;simp only[zI,List.mem_cons] at hx;rcases hx with rfl|hx
  ·exact⟨h1.2,h2.2,by simp only[Tp.sz];omega⟩
  ·have:=iha h1.1 h2.1 x hx;exact⟨this.1,this.2.1,by simp only[Tp.sz];omega⟩
 | _=>intro _ _ x hx;simp[zI] at hx
theorem zM2 {w:Wd} {f:Fd} {t to:Tp} {xs:List ByteArray} {b:Cr} (hw:w.fs=[f]) (he:w.env.length<=100) (hnm:f.nm=sKK) (hf:ShT f.t) (har:0<=f.ar/\f.ar<4) (ht:ShT t) (hto:ShT to) (hx:xs.length<=4) (hb:b=zPN 0∨∃h:0<xs.length,b=vr xs[0]):∃v,zN4 w t to ((1,0,sKK),xs,b) v/\(v=true->zT5 w t to ((1,0,sKK),xs,b))/\(v=false->zY0 w t to ((1,0,sKK),xs,b)):=by
 have hfl:w.fs.length=1:=by rw[hw];rfl
 have hff:wB w.fs sKK=some f:=by rw[hw];unfold wB;rw[List.find?_cons,decide_eq_true hnm]
 have hfo:FdOk f:=⟨by have:=hf.2.2;omega,by omega⟩
 have hsp:(zI t).length<1000000:=by have:=zBG t;have:=ht.2.2;omega
 have hfz:=hf.2.2;have htz:=ht.2.2;have no:(∃wa,zC Tryz.prog 139 [eW w,eTy t,eAl ((1,0,sKK),xs,b)] (.tup [eW wa,.sb false]))->TkN w t ((1,0,sKK),xs,b)->∃v,zN4 w t to ((1,0,sKK),xs,b) v/\(v=true->zT5 w t to ((1,0,sKK),xs,b))/\(v=false->zY0 w t to ((1,0,sKK),xs,b)):=fun⟨wa,h1⟩ h2 =>
  ⟨false,⟨wa,false,h1,(fun h=>by cases h),fun _=>rfl⟩,(fun h=>by cases h),fun _ => .inl h2⟩
 cases hs:yQ f with
 | none=>exact no ⟨w,zTJ (by omega) hff (by omega) (by omega) hsp hs⟩ (zTS rfl (by omega) hff hfo hs)
 | some q =>
  obtain⟨l,n,vs⟩:=q;by_cases hc:z1P t xs l n vs
  ·have hc2:(xW t).form=3/\(xW t).nam=n/\(zI t).length=vs.length/\xs.length=l.length:=hc;have hlz:∀x∈l,x.sz<=300/\TkX x/\Shn 1000 x:=by
    intro x hx2;unfold yQ at hs;split at hs
    ·cases hs
    ·rename_i vs' t0 hA;split at hs
     ·cases hs
     ·rename_i l' u' hF;split at hs
      ·cases hs
       have h1:=zCZ _ _ _ _ hA;have h2:=(zBH _ _ _ _ hF).2.2 x hx2;have h3:=zSW _ _ _ _ hA hf.1 (zA3 (by decide) hf.2.1);have h4:=zKG _ _ _ _ hF h3.1 h3.2 x hx2;exact⟨by omega,h4.1,h4.2⟩
      ·cases hs
   have hfit:∀x∈l,FitX 1000 x (bys vs t):=fun x hx2=>zSI (by have:=(hlz x hx2).1;omega) (by omega);have hel:w.env.length+xs.length<=100000:=by omega
   by_cases hnd:xs.Nodup
   ·have q:=zKA (q:=b) (m:=0) (xs:=xs) (t:=t) (by omega) hff (by omega) (by omega) hsp hs hc hel (fun x hx2=>⟨1000,hfit x hx2⟩) l.length (Nat.le_refl _) (fun j hj _ hm=>by
     obtain⟨i,hi,e⟩:=List.getElem_of_mem hm;rw[List.getElem_take] at e;have hi2:i<j:=by rw[List.length_take] at hi;omega
     exact List.pairwise_iff_getElem.1 hnd i j (by omega) hj hi2 e) (.inl rfl)
    rw[decide_eq_true rfl,List.take_length,show xs.take l.length=xs by rw[<-hc2.2.2.2,List.take_length]] at q;have hk:TkS w t ((1,0,sKK),xs,b) (w.more (zM xs l (bys vs t))):=zXM (K:=1000) rfl (by omega) hff hs hfo.dp hfo.ar hsp ⟨hc2.1,hc2.2.1,hc2.2.2.1,hc2.2.2.2,hnd⟩ hfit hel;have hto2:TkX to/\Shn 1000 to/\to.sz<=800000:=⟨hto.1,zA3 (by decide) hto.2.1,by have:=hto.2.2;omega⟩
    rcases hb with rfl|⟨h0,rfl⟩
    ·exact zEM (tb := .con xI) (jQ (j:=2) (f:=118) rfl rfl rfl (zLG _ _)) zZD ⟨gs_int.2.1,gs_int.2.2,by decide⟩ hto2 rfl hk q
    ·have hl0:0<l.length:=by omega
     have hz0:=hlz _ (List.getElem_mem hl0);have htk:=zZL t ht.1 (zA3 (by decide) ht.2.1);have hps:∀p∈bys vs t,TkX p.2/\Shn 1000 p.2/\p.2.sz<=300:=fun p hp=>by
      have:=htk p.2 (List.mem_reverse.1 (List.of_mem_zip hp).2);exact⟨this.1,this.2.1,by omega⟩
     have hpl:(bys vs t).length<=300:=by show (vs.zip (zI t).reverse).length<=_;rw[List.length_zip,List.length_reverse];have:=zBG t;omega
     have hdp:=jJ l[0];have g1:=zZ0 l[0] (bys vs t) hz0.2.1 fun p hp=>(hps p hp).1;have g2:=zZU (M:=300) (by decide) l[0] (bys vs t) hz0.2.2 (fun p hp=>(hps p hp).2) (by omega);have g3:=z0L (M:=300) (by decide) l[0] (bys vs t) fun p hp=>(hps p hp).2.2;have hn:zAP (w.more (zM xs l (bys vs t))).env xs[0]=some (sub l[0] (bys vs t)):=by
      have hlen:(zM xs l (bys vs t)).length=xs.length:=by unfold zM;rw[List.length_zip,List.length_map];omega
      have hat:∀j (hj:j<xs.length),∃h2:w.env.length+j<(w.env++zM xs l (bys vs t)).length,(w.env++zM xs l (bys vs t))[w.env.length+j].1=xs[j]/\(j=0->(w.env++zM xs l (bys vs t))[w.env.length+j].2=sub l[0] (bys vs t)):=fun j hj=>by
       refine⟨by rw[List.length_append];omega,?_⟩;rw[List.getElem_append_right (by omega)];simp only[Nat.add_sub_cancel_left,zM,List.getElem_zip,List.getElem_map];exact⟨trivial,fun e=>by subst e;rfl⟩
      obtain⟨k1,k2,k3⟩:=hat 0 h0;have:=zCM (l:=w.env++zM xs l (bys vs t)) (s:=xs[0]) k1 k2 fun j g hj e=>by
       have hj2:j-w.env.length<xs.length:=by rw[List.length_append] at hj;omega
       obtain⟨m1,m2,_⟩:=hat (j-w.env.length) hj2;have ej:w.env.length+(j-w.env.length)=j:=by omega
       simp only[ej] at m2;rw[m2] at e;have:=(List.getElem_inj hnd (h₀:=hj2) (h₁:=h0)).1 e;omega
      rw[k3 rfl] at this;exact this
     have hel2:(w.more (zM xs l (bys vs t))).env.length<=1000:=by
      show (w.env++zM xs l (bys vs t)).length<=_;rw[List.length_append];have:(zM xs l (bys vs t)).length<=xs.length:=by unfold zM;rw[List.length_zip];omega
      omega
     exact zEM (jQ (j:=0) (f:=116) rfl rfl rfl ((zFL (by omega)).1 _ hn)) ((zRW (by omega)).1 _ hn) ⟨g1,g2,by have:=hz0.1;have:l[0].sz*300<=300*300:=Nat.mul_le_mul_right _ hz0.1;omega⟩ hto2 rfl hk q
   ·obtain⟨K,hK1,hK2,hK3⟩:=zGY _ hnd;have q:=zKA (q:=b) (m:=0) (xs:=xs) (t:=t) (by omega) hff (by omega) (by omega) hsp hs hc hel (fun x hx2=>⟨1000,hfit x hx2⟩) K (by omega) (fun j hj g=>hK3 j hj g) (.inr ⟨hK1,hK2⟩);rw[decide_eq_false (by omega)] at q;exact no ⟨_,q⟩ (zT9 rfl (by omega) hff hfo hs hsp hc2 hnd hfit hel)
  ·exact no ⟨w,zRT (by omega) hff (by omega) (by omega) hsp hs hc⟩ (zYB rfl (by omega) hff hfo hs hsp hc)
abbrev csC (to:Tp) (xs:List ByteArray) (b:Cr):Cr := .node 9 0 .empty to (.kid (vr sx) (.alt 1 0 sKK xs b (.alt 3 0 .empty [] (.node 11 0 .empty to .nil) .nil)))
def CsR (f:Fd) (t to:Tp) (c:Cr) (v:Bool):Prop :=
 zC Tryz.prog 12 [.sl (zA8 [f]),.sl (wQ [(sx,t)]),eC c] (if v=true then .tup [eTy to,.lit (.int .i64 0)] else .tup [eTy .no,.lit (.int .i64 50)])/\zC Tryz.prog 35 [.sl (zA8 [f]),.sl (wQ [(sx,t)]),eC c] (if v=true then .tup [eTy to,.lit (.int .i64 0)] else .tup [eTy .no,.lit (.int .i64 50)])
theorem zS9 {f:Fd} {t to:Tp} {xs:List ByteArray} {b:Cr} (hnm:f.nm=sKK) (hf:ShT f.t) (har:0<=f.ar/\f.ar<4) (ht:ShT t) (hto:ShT to) (hx:xs.length<=4) (hb:b=zPN 0∨∃h:0<xs.length,b=vr xs[0]):∃v,CsR f t to (csC to xs b) v:=by
 obtain⟨v,h1,h2,h3⟩:=zM2 (w := .of [f] [(sx,t)]) rfl (Nat.le_of_ble_eq_true rfl:([(sx,t)]:List Nm2).length<=100) hnm hf har ht hto hx hb;have htz:=hto.2.2;have em:∀u,(Wd.of [f] [(sx,t)]).mean u=u:=fun u=>zL2 u;have hfit:FitX 1000 to (Wd.of [f] [(sx,t)]).ps:=qI (by show to.sz+0<=_;omega) (by show 0<=1000;omega) (fun p hp=>by cases hp) (by omega);have hn:zAP (Wd.of [f] [(sx,t)]).env sx=some t:=zCM (k:=0) (l:=[(sx,t)]) (by simp) rfl (fun j h1 h2=>by simp at h2;omega);have o1:OfS (.of [f] [(sx,t)]) (vr sx) t:=jQ (j:=0) (f:=116) rfl rfl rfl ((zFL (by show 1<_;omega)).1 _ hn);have o2:OfR (.of [f] [(sx,t)]) (vr sx) t true:=(zRW (by show 1<=_;omega)).1 _ hn;have f1:OfS (.of [f] [(sx,t)]) (.node 11 0 .empty to .nil) to:=by
  have q:=jQ (w := .of [f] [(sx,t)]) (c := .node 11 0 .empty to .nil) (j:=10) (f:=126) rfl rfl rfl (zR1 _ _ hfit);rw[show (Wd.of [f] [(sx,t)]).mean (Cr.node 11 0 .empty to .nil).t=to from em to] at q;exact q
 have f2:OfR (.of [f] [(sx,t)]) (.node 11 0 .empty to .nil) to true:=by
  have q:=zVZ (w := .of [f] [(sx,t)]) (n:=0) (s := .empty) hfit;rw[em] at q;exact q
 have hdp:=jJ to;have a2:zT5 (.of [f] [(sx,t)]) t to ((3,0,.empty),[],.node 11 0 .empty to .nil):=⟨.of [f] [(sx,t)],zSO _ _ rfl,to,f1,zYP to,by omega⟩
 have hss:zC Tryz.prog yL [eTy to,eTy to] (.sb true):=zSF (K:=10) rfl rfl hto.1 hto.2.1 (by omega) (by decide);have v2:zN4 (.of [f] [(sx,t)]) t to ((3,0,.empty),[],.node 11 0 .empty to .nil) true:=⟨.of [f] [(sx,t)],true,zQK,fun _=>⟨to,true,f2,fun _=>hss,fun h=>by cases h⟩,fun h=>by cases h⟩
 refine⟨v,?_,?_⟩
 ·cases v with
  | true =>
   have q:=zNB (w := .of [f] [(sx,t)]) (c:=csC to xs b) rfl o1 hfit (Nat.le_of_ble_eq_true rfl) (fun a ha=>by
    rw[em];simp only[Cr.alts,List.mem_cons,List.not_mem_nil,or_false] at ha;rcases ha with rfl|rfl
    ·exact h2 rfl
    ·exact a2)
   rw[em] at q;rw[if_pos rfl];exact zFP (jQ (j:=8) (f:=124) rfl rfl rfl q) (K:=1000) (qI (by show to.sz+0<=_;omega) (by simp) (fun p hp=>by cases hp) (by omega))
  | false =>
   rw[if_neg (by decide)];exact zKX (zR9 (j:=8) (f:=124) rfl rfl rfl (zQX (c:=csC to xs b) (m:=0) rfl o1 hfit (Nat.zero_lt_succ _) (fun k hk g=>by omega) (by rw[em];exact h3 rfl) (Nat.le_of_ble_eq_true rfl)))
 ·have q:=zRG (w := .of [f] [(sx,t)]) (c:=csC to xs b) (t:=t) hfit (Nat.le_of_ble_eq_true rfl) (fun a=>if a.1.1=3 then true else v) (fun a ha=>by
   rw[em];simp only[Cr.alts,List.mem_cons,List.not_mem_nil,or_false] at ha;rcases ha with rfl|rfl
   ·rw[if_neg (show ¬(1:Int)=3 by decide)];exact h1
   ·rw[if_pos rfl];exact v2)
  have e:(csC to xs b).alts.all (fun a=>if a.1.1=3 then true else v)=v:=by simp[Cr.alts]
  rw[e] at q;have q2:=zU4 (n:=0) (s := .empty) (p:=vr sx) (g := .alt 1 0 sKK xs b (.alt 3 0 .empty [] (.node 11 0 .empty to .nil) .nil)) hfit rfl o2 q;rw[em] at q2;exact zWU q2
theorem zRC {l:List Int} (hl:l.length<9223372036854775808) (hr:∀x∈l,InR x):∃t:Tp,zC Tryz.prog 34 [.sl (eIs l)] (eTy t)/\good t/\t.sz<=193:=by
 obtain⟨t,rest,h1,h2,h3,h4,h5⟩:=zM7 (l.take 24).length (l.take 24) 0 false rfl (by simp;omega) (fun x hx=>hr x (List.mem_of_mem_take hx)) (by simp;omega);refine⟨t,?_,h4,by simp at h5;omega⟩;refine zA ttok mixed Tryz.func34 rfl (by rfl) (Nat.le_of_ble_eq_true rfl) (by kernel_rfl) ?_;refine .inl ⟨_,zMP (n:=24) hl (by decide),?_⟩;refine .inl ⟨_,h1,?_⟩;exact rfl
theorem zWV (f t:Tp):zC Tryz.prog 33 [eTy f,.sl [eTy t]] (eTy (.app f t)):=by
 refine zB ttok mixed Tryz.func33 rfl (by rfl) (Nat.le_of_ble_eq_true rfl) (by kernel_rfl) ?_;refine .inl ⟨_,qR f,?_⟩;refine⟨{k:Nat // k<=1},fun k=>{vs:=[(4,.box 0 (eTy .no)),(5,.box 0 (eTy (if k.1=0 then f else .app f t))),(10,.v (.sl [eTy t])),(11,sv 1),(12,sv (k.1:Nat))]},fun k=>1-k.1,⟨0,by decide⟩,⟨⟨rfl,rfl,rfl,rfl,rfl,trivial⟩,trivial,rfl⟩,?_⟩;rintro⟨k,hk⟩;refine⟨fun h=>?_,fun h=>?_⟩
 ·have h:k=0:=by have h:=of_decide_eq_true h;simp only at h;omega
  subst h;refine⟨eTy t,Int.le_refl _,rfl,rfl,?_⟩;refine .inl ⟨_,qR t,?_⟩;refine .inl ⟨_,zER f t,?_⟩;refine⟨by kernel_rfl,?_⟩;exact⟨⟨1,Nat.le_refl _⟩,Nat.zero_lt_one,⟨rfl,rfl,rfl,rfl,rfl,trivial⟩,trivial,rfl⟩
 ·have h:k=1:=by have h:=of_decide_eq_false h;simp only at h;omega
  subst h;exact rfl
abbrev CW8 (q:Code) (f:Fr):Prop:=Wsem Tryz.prog q (mkC f) (fun c2=>zNZ tt Tryz.f8.results.toList (.sb true) (den c2)) (fun _ _=>False) (fun c2=>zNZ tt Tryz.f8.results.toList (.sb true) (den c2))
theorem zSL {t:Tp} (h:good t) (hs:t.sz<=193):ShT t:=⟨(zE3 h).1,(zE3 h).2,by omega⟩
abbrev uvwu:List ByteArray:=[⟨#[117]⟩,⟨#[118]⟩,⟨#[119]⟩,⟨#[117]⟩]
theorem zJV {l0 l1:List Int} {n2 n3 n4:Int} (hl0:l0.length<9223372036854775808) (hr0:∀x∈l0,InR x) (hl1:l1.length<9223372036854775808) (hr1:∀x∈l1,InR x) (hn2:InR n2) (hn3:InR n3) (hn4:InR n4):zC Tryz.prog 8 [.sl (eIs l0),.sl (eIs l1),.lit (.int .i64 n2),.lit (.int .i64 n3),.lit (.int .i64 n4)] (.sb true):=by
 obtain⟨ra,hra,haa⟩:=xX (n:=n2) (m:=4) hn2 (by decide) (by decide);obtain⟨rv,hrv,hav⟩:=xX (n:=n3) (m:=5) hn3 (by decide) (by decide);obtain⟨rt,hrt,hat⟩:=xX (n:=n4) (m:=3) hn4 (by decide) (by decide);obtain⟨T,hT,hTc⟩:=zUV hl0 hr0 hn4;obtain⟨T0,hT0,hg0,hs0⟩:=zR8 hl1 hr1;obtain⟨Tp1,hTp,hgp,hsp⟩:=zRC hl1 hr1;have hlen:(uvwu.take rv).length=rv:=by simp;omega
 have exs:([str ⟨#[117]⟩,str ⟨#[118]⟩,str ⟨#[119]⟩,str ⟨#[117]⟩].take rv).drop 0=eSs (uvwu.take rv):=by simp[eSs,List.map_take]
 obtain⟨t,ht,hts⟩:∃t,t=(if rt=0 then .app (.con sTT) Tp1 else T0)/\ShT t:=by
  refine⟨_,rfl,?_⟩;split
  ·have:=zE3 hgp;exact⟨⟨⟨by decide,_,_,rfl,by decide⟩,this.1⟩,⟨Nat.le_of_ble_eq_true rfl,this.2⟩,by simp only[Tp.sz];omega⟩
  ·exact zSL hg0 hs0
 obtain⟨b,hb0,hb⟩:∃b,b=(if h:0<(uvwu.take rv).length then vr (uvwu.take rv)[0] else zPN 0)/\(b=zPN 0∨∃h:0<(uvwu.take rv).length,b=vr (uvwu.take rv)[0]):=by
  refine⟨_,rfl,?_⟩;split
  ·rename_i h;exact .inr ⟨h,rfl⟩
  ·exact .inl rfl
 have both:=fun to (hto:ShT to)=>zS9 (f:=⟨sKK,0,0,(ra:Int),T⟩) (xs:=uvwu.take rv) (b:=b) rfl hT ⟨by show (0:Int)<=(ra:Int);omega,hra⟩ hts hto (by omega) hb;have hloop:CW8 (xZ (xZ (xZ (xZ (xZ (xZ (xZ (bodyC Tryz.f8)))))))) {vs:=[(1,.v (.sl (eIs l1))),(11,.box 0 (eFd ⟨sKK,0,0,(ra:Int),T⟩)),(12,.v (.sl (eSs (uvwu.take rv)))),(13,.box 0 (eC b)),(14,.box 0 (eTy t))]}:=by
  refine Wsem.seq ttok mixed ?_;refine⟨{k:Nat // k<=2},fun k=>{vs:=[(1,.v (.sl (eIs l1))),(11,.box 0 (eFd ⟨sKK,0,0,(ra:Int),T⟩)),(12,.v (.sl (eSs (uvwu.take rv)))),(13,.box 0 (eC b)),(14,.box 0 (eTy t)),(15,sv (k.1:Nat))]},fun k=>2-k.1,⟨0,by decide⟩,⟨⟨rfl,rfl,rfl,rfl,rfl,rfl,trivial⟩,trivial,rfl⟩,?_⟩;rintro⟨k,hk⟩;refine⟨fun h=>?_,fun h=>?_⟩
  ·have h:k<2:=by have h:=of_decide_eq_true h;simp only at h;omega
   refine .inl ⟨_,zBZ xI,?_⟩;have step:∀to,ShT to->∃v,CsR ⟨sKK,0,0,(ra:Int),T⟩ t to (csC to (uvwu.take rv) b) v/\zC Tryz.prog yL [eTy to,eTy to] (.sb true):=fun to hto=>by
    obtain⟨v,hv⟩:=both to hto;have:=hto.2.2;exact⟨v,hv,zSF (K:=10) rfl rfl hto.1 hto.2.1 (by omega) (by decide)⟩
   refine⟨fun h2=>?_,fun h2=>?_⟩
   ·refine .inl ⟨_,hTp,?_⟩;obtain⟨v,⟨c1,c2⟩,hsm⟩:=step Tp1 (zSL hgp hsp);refine .inl ⟨_,zES sx,?_⟩;refine⟨by kernel_rfl,?_⟩;cases v with
    | true =>
     refine .inl ⟨_,c1,?_⟩;refine .inl ⟨_,c2,?_⟩;refine⟨fun _=>?_,fun h=>Bool.noConfusion (show false=true from h)⟩;refine⟨fun _=>?_,fun h=>Bool.noConfusion (show true=false from h)⟩;refine .inl ⟨_,hsm,?_⟩;refine⟨fun h=>Bool.noConfusion (show false=true from h),fun _=>?_⟩;exact⟨⟨k+1,h⟩,by simp only;omega,⟨rfl,rfl,rfl,rfl,rfl,svc (wrap_succ (k:=k) (by omega)),trivial⟩,trivial,rfl⟩
    | false =>
     refine .inl ⟨_,c1,?_⟩;refine .inl ⟨_,c2,?_⟩;refine⟨fun _=>?_,fun h=>Bool.noConfusion (show false=true from h)⟩;refine⟨fun h=>Bool.noConfusion (show false=true from h),fun _=>?_⟩;exact⟨⟨k+1,h⟩,by simp only;omega,⟨rfl,rfl,rfl,rfl,rfl,svc (wrap_succ (k:=k) (by omega)),trivial⟩,trivial,rfl⟩
   ·obtain⟨v,⟨c1,c2⟩,hsm⟩:=step (.con xI) ⟨gs_int.2.1,Nat.le_of_ble_eq_true rfl,by decide⟩;refine .inl ⟨_,zES sx,?_⟩;refine⟨by kernel_rfl,?_⟩;cases v with
    | true =>
     refine .inl ⟨_,c1,?_⟩;refine .inl ⟨_,c2,?_⟩;refine⟨fun _=>?_,fun h=>Bool.noConfusion (show false=true from h)⟩;refine⟨fun _=>?_,fun h=>Bool.noConfusion (show true=false from h)⟩;refine .inl ⟨_,hsm,?_⟩;refine⟨fun h=>Bool.noConfusion (show false=true from h),fun _=>?_⟩;exact⟨⟨k+1,h⟩,by simp only;omega,⟨rfl,rfl,rfl,rfl,rfl,svc (wrap_succ (k:=k) (by omega)),trivial⟩,trivial,rfl⟩
    | false =>
     refine .inl ⟨_,c1,?_⟩;refine .inl ⟨_,c2,?_⟩;refine⟨fun _=>?_,fun h=>Bool.noConfusion (show false=true from h)⟩;refine⟨fun h=>Bool.noConfusion (show false=true from h),fun _=>?_⟩;exact⟨⟨k+1,h⟩,by simp only;omega,⟨rfl,rfl,rfl,rfl,rfl,svc (wrap_succ (k:=k) (by omega)),trivial⟩,trivial,rfl⟩
  ·refine Wsem.of ttok mixed ?_;refine .inl ⟨_,zQW,?_⟩;exact rfl
 have hmid:CW8 (xZ (xZ (xZ (xZ (xZ (bodyC Tryz.f8)))))) {vs:=[(1,.v (.sl (eIs l1))),(4,sv n4),(11,.box 0 (eFd ⟨sKK,0,0,(ra:Int),T⟩)),(12,.v (.sl (eSs (uvwu.take rv)))),(13,.box 0 (eC b))]}:=by
  refine Wsem.seq ttok mixed ?_;refine .inl ⟨_,hT0,?_⟩;refine Wsem.seq ttok mixed ?_;refine .inl ⟨_,hat,?_⟩;refine⟨fun h=>?_,fun h=>?_⟩
  ·have h:rt=0:=by have h:=of_decide_eq_true h;omega
   rw[if_pos h] at ht;subst ht;refine .inl ⟨_,zBZ sTT,?_⟩;refine .inl ⟨_,hTp,?_⟩;refine .inl ⟨_,zWV (.con sTT) Tp1,?_⟩;refine Wsem.cut _ ?_ hloop;exact⟨⟨rfl,rfl,rfl,rfl,rfl,trivial⟩,trivial,rfl⟩
  ·have h:¬rt=0:=by have h:=of_decide_eq_false h;omega
   rw[if_neg h] at ht;subst ht;refine Wsem.cut _ ?_ hloop;exact⟨⟨rfl,rfl,rfl,rfl,rfl,trivial⟩,trivial,rfl⟩
 refine zJ3 ttok mixed Tryz.func8 rfl (by rfl) (Nat.le_of_ble_eq_true rfl) (by kernel_rfl) ?_;refine Wsem.seq ttok mixed ?_;refine Wsem.seq ttok mixed ?_;refine .inl ⟨_,haa,?_⟩;refine .inl ⟨_,hTc,?_⟩;refine Wsem.seq ttok mixed ?_;refine .inl ⟨_,hav,?_⟩;refine⟨by omega,by omega,by simp;omega,.inl rfl,?_⟩;refine Wsem.cut {vs:=[(1,.v (.sl (eIs l1))),(4,sv n4),(11,.box 0 (eFd ⟨sKK,0,0,(ra:Int),T⟩)),(12,.v (.sl (eSs (uvwu.take rv))))]} ⟨⟨rfl,rfl,rfl,?_,trivial⟩,trivial,rfl⟩ ?_
 ·rw[<-exs];exact rfl
 refine Wsem.seq ttok mixed ?_;refine Wsem.seq ttok mixed ?_;refine⟨fun h=>?_,fun h=>?_⟩
 ·have h:0<(uvwu.take rv).length:=by have h:=of_decide_eq_true h;rw[wC] at h;omega
  rw[dif_pos h] at hb0;subst hb0;refine⟨_,by decide,zBI h,rfl,?_⟩;refine .inl ⟨_,zES _,?_⟩;refine Wsem.cut _ ?_ hmid;exact⟨⟨rfl,rfl,rfl,rfl,rfl,trivial⟩,trivial,rfl⟩
 ·have h:¬0<(uvwu.take rv).length:=by have h:=of_decide_eq_false h;rw[wC] at h;omega
  rw[dif_neg h] at hb0;subst hb0;refine Wsem.cut _ ?_ hmid;exact⟨⟨rfl,rfl,rfl,rfl,rfl,trivial⟩,trivial,rfl⟩
end Go.Proofs.YtdmbahepaglcbaaGreatDoor
