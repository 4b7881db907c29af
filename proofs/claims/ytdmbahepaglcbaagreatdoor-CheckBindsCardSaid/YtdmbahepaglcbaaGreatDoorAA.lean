/- The document's alt: what an alternative takes. No condition but on lengths. -/
import Derived.Test.YtdmbahepaglcbaaGreatDoorZ
import Derived.Test.YtdmbahepaglcbaaGreatDoorFpE
set_option linter.unusedSimpArgs false
set_option linter.unusedVariables false
namespace Go.Proofs.YtdmbahepaglcbaaGreatDoor
open Go Fp
set_option maxRecDepth 10000
set_option maxHeartbeats 8000000
set_option linter.unusedVariables false
theorem zQ0 {f:Fd} {l:List Tp} {n:ByteArray} {vs:List ByteArray} (hd:f.t.sz<100000) (ha:f.ar<=1000000) (h:xQ f=some (l,n,vs)):zC Tryz.prog 150 [eFd f] (.tup [.sl (zO l),.lit (.string n),.sl (eSs vs),.sb true]):=by
 have q:=zU5 hd ha;unfold shR at q;rw[h] at q;exact q
theorem zRH {w:Wd} {t:Tp} {m:Int} {s:ByteArray} {xs:List ByteArray} {q:Cr}:zC Tryz.prog 139 [eW w,eTy t,eAl ((3,m,s),xs,q)] (.tup [eW w,.sb true]):=by
 refine zA ttok mixed Tryz.func139 rfl (by rfl) (Nat.le_of_ble_eq_true rfl) (by kernel_rfl) ?_;refine⟨fun _=>?_,fun h=>Bool.noConfusion (show true=false from h)⟩;exact rfl
theorem zVL {w:Wd} {t:Tp} {m:Int} {s:ByteArray} {xs:List ByteArray} {q:Cr} {b:Bool} (h:zC Tryz.prog zL [eTy t,eTy (.con yE)] (.sb b)):zC Tryz.prog 139 [eW w,eTy t,eAl ((2,m,s),xs,q)] (.tup [eW w,.sb b]):=by
 refine zA ttok mixed Tryz.func139 rfl (by rfl) (Nat.le_of_ble_eq_true rfl) (by kernel_rfl) ?_;refine⟨fun h=>Bool.noConfusion (show false=true from h),fun _=>?_⟩;refine⟨fun _=>?_,fun h=>Bool.noConfusion (show true=false from h)⟩;refine .inl ⟨_,yG yE,?_⟩;refine .inl ⟨_,h,?_⟩;refine⟨by kernel_rfl,?_⟩;exact rfl
def z7V (t:Tp) (xs:List ByteArray) (l:List Tp) (n:ByteArray) (vs:List ByteArray):Prop:=(jC t).form=3/\(jC t).nam=n/\(zS t).length=vs.length/\xs.length=l.length
theorem zVS {w:Wd} {t:Tp} {m:Int} {s:ByteArray} {xs:List ByteArray} {q:Cr} {f:Fd} {l:List Tp} {n:ByteArray} {vs:List ByteArray} (hfl:w.fs.length<=1000000) (h:wO w.fs s=some f) (hd:f.t.sz<100000) (ha:f.ar<=1000000) (hsp:(zS t).length<1000000) (hs:xQ f=some (l,n,vs)) (hc:z7V t xs l n vs) (hel:w.env.length+xs.length<=100000) (hfit:∀x∈l,∃K,FitX K x (bys vs t))
  (K:Nat) (hK:K<=l.length) (hnd:∀j (hj:j<xs.length),j<K->xs[j]∉xs.take j) (hend:K=l.length∨∃hj:K<xs.length,xs[K]∈xs.take K):zC Tryz.prog 139 [eW w,eTy t,eAl ((1,m,s),xs,q)] (.tup [eW (w.more (yM (xs.take K) (l.take K) (bys vs t))),.sb (decide (K=l.length))]):=by
 have e1:(zO (zS t).reverse).length=(zS t).length:=by simp[zO]
 have e2:=zCY vs;have e3:=zCY xs;have e4:(zO l).length=l.length:=by simp[zO]
 obtain⟨c1,c2,c3,c4⟩:=hc;have hN:eN (bys vs t)=eSs vs:=zY1 (by simp;omega);have hB:eB (bys vs t)=zO (zS t).reverse:=zW8 (by simp;omega);obtain⟨r,hr⟩:∃r,r=AV.tup [eW (w.more (yM (xs.take K) (l.take K) (bys vs t))),.sb (decide (K=l.length))]:=⟨_,rfl⟩
 rw[<-hr];refine zA ttok mixed Tryz.func139 rfl (by rfl) (Nat.le_of_ble_eq_true rfl) (by kernel_rfl) ?_;refine⟨fun h=>Bool.noConfusion (show false=true from h),fun _=>?_⟩;refine⟨fun h=>Bool.noConfusion (show false=true from h),fun _=>?_⟩;refine⟨fun _=>?_,fun h=>Bool.noConfusion (show true=false from h)⟩;refine .inl ⟨_,(zJW hfl).1 f h,?_⟩;refine⟨fun h=>Bool.noConfusion (show false=true from h),fun _=>?_⟩;refine .inl ⟨_,zQ0 hd ha hs,?_⟩;refine .inl ⟨_,yY t hsp,?_⟩;refine⟨fun _=>?_,fun h=>Bool.noConfusion (show false=true from h)⟩;refine⟨fun _=>?_,fun h1=>absurd h1 (by simp[c1])⟩;refine⟨fun _=>?_,fun h1=>absurd h1 (by simp[c2])⟩;refine⟨fun _=>?_,fun h1=>absurd h1 (by rw[e1,e2,c3];simp)⟩;refine⟨fun h1=>absurd h1 (by rw[e4];show ¬(!decide ((((eSs xs).length:Nat):Int)=(l.length:Nat)))=true;rw[e3,c4];simp),fun _=>?_⟩;refine⟨{k:Nat // k<=K},fun k=>{vs:=[(3,.box 0 (eW (w.more (yM (xs.take k.1) (l.take k.1) (bys vs t))))),(5,.box 0 (eAl ((1,m,s),xs,q))),(6,.box 0 (.agg [.sl [],.sl [],.sl [],.sl [],.lit (.int .i64 0)])),(10,.v (.sl (zO l))),(12,.v (.sl (eSs vs))),(15,.v (.sl (zO (zS t).reverse))),(16,sv (k.1:Nat))]},fun k=>K-k.1,⟨0,Nat.zero_le _⟩,⟨⟨?_,rfl,rfl,rfl,rfl,rfl,rfl,trivial⟩,trivial,rfl⟩,?_⟩
 ·show SV.box 0 (eW w)=SV.box 0 (eW (w.more (yM [] [] (bys vs t))));rw[show w.more (yM [] [] (bys vs t))=w from zCD w]
 rintro⟨k,hk⟩;refine⟨fun h1=>?_,fun h1=>?_⟩
 ·have h1:k<l.length:=by have h:=of_decide_eq_true h1;rw[e4] at h;simp only at h;omega
  have h2:k<xs.length:=by omega
  have hat:(eSs xs)[k]? = some (str xs[k]):=zIG h2;have hh:zC Tryz.prog zB8 [.sl (((eSs xs).take k).drop 0),str xs[k]] (.sb (memb xs[k] (xs.take k))):=by
   rw[List.drop_zero,show (eSs xs).take k=eSs (xs.take k) by simp[eSs,List.map_take]];exact zCR (by simp;omega)
  refine⟨by omega,by omega,by show (k:Int)<=((eSs xs).length:Nat);rw[e3];omega,.inl rfl,?_⟩;refine⟨_,by omega,hat,rfl,?_⟩;refine .inl ⟨_,hh,?_⟩;refine⟨by kernel_rfl,?_⟩;refine⟨fun h5=>?_,fun h5=>?_⟩
  ·have h5:xs[k]∈xs.take k:=memb_iff.1 h5;have hKk:K=k:=by
    rcases Nat.lt_or_ge k K with g|g
    ·exact absurd h5 (hnd k h2 g)
    ·omega
   have e:r = .tup [eW (w.more (yM (xs.take k) (l.take k) (bys vs t))),.sb false]:=by rw[hr,hKk,decide_eq_false (by omega)]
   rw[e];exact rfl
  ·have h5:¬xs[k]∈xs.take k:=fun q=>by have h5:memb xs[k] (xs.take k)=false:=h5;rw[yV q] at h5;cases h5
   have hKk:k<K:=by
    rcases Nat.lt_or_ge k K with g|g
    ·exact g
    ·have hk':k=K:=by omega
     subst hk';rcases hend with q|⟨q,q2⟩
     ·omega
     ·exact absurd q2 h5
   obtain⟨KF,hKF⟩:=hfit l[k] (List.getElem_mem h1);have hsub:=zFC l[k].sz l[k] (Nat.le_refl _) KF _ hKF;unfold qM at hsub;rw[hN,hB] at hsub;have hatl:(zO l)[k]? = some (eTy l[k]):=by simp[zO,h1]
   have hwith:=zHM (w.more (yM (xs.take k) (l.take k) (bys vs t))) xs[k] (sub l[k] (bys vs t)) (by
    show (w.env++yM _ _ _).length<=_;rw[List.length_append];have:(yM (xs.take k) (l.take k) (bys vs t)).length<=xs.length:=by unfold yM;rw[List.length_zip,List.length_take];omega
    omega)
   refine⟨_,by omega,hat,rfl,?_⟩;refine⟨_,by omega,hatl,rfl,?_⟩;refine .inl ⟨_,hsub,?_⟩;refine .inl ⟨_,hwith,?_⟩;refine⟨by kernel_rfl,?_⟩;refine⟨⟨k+1,hKk⟩,by simp only;omega,⟨?_,rfl,rfl,rfl,rfl,rfl,svc (wrap_succ (k:=k) (by omega)),trivial⟩,trivial,rfl⟩;have e:(w.more (yM (xs.take k) (l.take k) (bys vs t))).more [(xs[k],sub l[k] (bys vs t))]=w.more (yM (xs.take (k+1)) (l.take (k+1)) (bys vs t)):=by
    show ({fs:=w.fs,env:=(w.env++_)++_,ps:=w.ps,deep:=w.deep}:Wd)={fs:=w.fs,env:=w.env++_,ps:=w.ps,deep:=w.deep};rw[List.append_assoc]
    congr 2
    unfold yM;rw[List.take_succ_eq_append_getElem h2,List.take_succ_eq_append_getElem h1,List.map_append,List.zip_append (by simp;omega)]
    rfl
   exact congrArg (fun w'=>SV.box 0 (eW w')) e
 ·have h1:k=l.length:=by have h:=of_decide_eq_false h1;rw[e4] at h;simp only at h;omega
  have hKl:K=k:=by omega
  have e:r = .tup [eW (w.more (yM (xs.take k) (l.take k) (bys vs t))),.sb true]:=by rw[hr,hKl,decide_eq_true h1]
  rw[e];exact rfl
theorem zOA {w:Wd} {n:Int} {s:ByteArray} {t0:Tp} (hl:w.env.length<=100000):(∀t,wP w.env s=some t->OfR w (.node 1 n s t0 .nil) t true)/\(wP w.env s=none->OfR w (.node 1 n s t0 .nil) .no false):=by
 have hln:=zUB w.env;have hk:=xX 1 (by decide) (by decide);have main:∀r:AV,(∀k (hk:k<w.env.length),(∀j (hj:j<w.env.length),k<j->w.env[j].1≠s)->w.env[k].1=s->r = .tup [eTy w.env[k].2,.sb true])->((∀j (hj:j<w.env.length),w.env[j].1≠s)->r = .tup [eTy .no,.sb false])->zC Tryz.prog 69 [eW w,eC (.node 1 n s t0 .nil)] r:=by
  intro r hy hn;refine zA ttok mixed Tryz.func69 rfl (by rfl) (Nat.le_of_ble_eq_true rfl) (by kernel_rfl) ?_;refine .inl ⟨_,hk,?_⟩;refine⟨by kernel_rfl,?_⟩;refine⟨fun h=>Bool.noConfusion (show false=true from h),fun _=>?_⟩;refine⟨fun _=>?_,fun h=>Bool.noConfusion (show true=false from h)⟩;refine⟨{k:Nat // k<=w.env.length/\∀j (hj:j<w.env.length),k<=j->w.env[j].1≠s},fun k=>{vs:=[(2,.box 0 (eW w)),(3,.box 0 (eC (.node 1 n s t0 .nil))),(4,.box 0 (eTy .no)),(6,sv ((k.1:Int)-1))]},fun k=>k.1,⟨w.env.length,Nat.le_refl _,fun j hj h=>by omega⟩,⟨⟨rfl,rfl,rfl,?_,trivial⟩,trivial,rfl⟩,?_⟩
  ·exact svc (by rw[hln,wrap_in (by unfold InR;omega)])
  rintro⟨k,hk,hinv⟩;refine⟨fun h=>?_,fun h=>?_⟩
  ·have h:0<k:=by have h:=of_decide_eq_true h;simp only at h;omega
   obtain⟨k,rfl⟩:∃j,k=j+1:=⟨k-1,by omega⟩
   have hk':k<w.env.length:=hk;have ei:(((k+1:Nat):Int)-1)=(k:Nat):=by omega
   have hat:(yZ w.env)[((((k+1:Nat):Int)-1)).toNat]? = some (eNa w.env[k]):=by rw[ei];exact zUM hk'
   have hge:(0:Int)<=(((k+1:Nat):Int)-1):=by omega
   have hw7:sv (IntKind.i64.wrap ((((k+1:Nat):Int)-1)-1))=sv ((k:Int)-1):=svc (by rw[ei,wrap_in (by unfold InR;omega)]);refine⟨_,hge,hat,rfl,?_⟩;refine⟨by kernel_rfl,?_⟩;refine⟨fun h2=>?_,fun h2=>?_⟩
   ·have h2:w.env[k].1=s:=of_decide_eq_true h2;rw[hy k hk' (fun j hj g=>hinv j hj g) h2];refine⟨_,hge,hat,rfl,?_⟩;exact rfl
   ·have h2:¬w.env[k].1=s:=of_decide_eq_false h2;refine⟨⟨k,by omega,fun j hj g=>?_⟩,Nat.lt_succ_self k,⟨rfl,rfl,rfl,hw7,trivial⟩,trivial,rfl⟩;by_cases e:j=k
    ·subst e;exact h2
    ·exact hinv j hj (by omega)
  ·have h:k=0:=by have h:=of_decide_eq_false h;simp only at h;omega
   subst h;rw[hn fun j hj=>hinv j hj (by omega)];exact rfl
 refine⟨fun t ht=>main _ (fun k hk h1 h2=>?_) (fun h=>?_),fun ht=>main _ (fun k hk h1 h2=>?_) (fun h=>rfl)⟩
 ·have e:=zGP (s:=s) hk h2 fun j g hj=>h1 j hj g;rw[e] at ht;cases ht;rfl
 ·unfold wP at ht;obtain⟨p,hp,_⟩:=Option.map_eq_some_iff.1 ht;have hm:=List.mem_reverse.1 (List.mem_of_find?_eq_some hp);obtain⟨j,hj,rfl⟩:=List.getElem_of_mem hm;exact absurd (of_decide_eq_true (List.find?_some (p:=fun p:Nm2=>decide (p.1=s)) hp)) (h j hj)
 ·have e:=zGP (s:=s) hk h2 fun j g hj=>h1 j hj g;rw[e] at ht;cases ht
def z7J (w:Wd) (t to:Tp) (a:Alg) (v:Bool):Prop := ∃wa oka,zC Tryz.prog 139 [eW w,eTy t,eAl a] (.tup [eW wa,.sb oka])/\(oka=true->∃ta okb,OfR wa a.2.2 ta okb/\(okb=true->zC Tryz.prog zL [eTy ta,eTy to] (.sb v))/\(okb=false->v=false))/\(oka=false->v=false)
theorem zSG {w:Wd} {c:Cr} {t:Tp} {K:Nat} (hf:FitX K c.t w.ps) (hl:c.alts.length<=1000000) (V:Alg->Bool) (h:∀a∈c.alts,z7J w t (w.mean c.t) a (V a)):zC Tryz.prog 114 [eW w,eC c,eTy t] (.sb (c.alts.all V)):=by
 obtain⟨r,hr⟩:∃r,r=c.alts.all V:=⟨_,rfl⟩
 rw[<-hr];have hno:∀k (hk:k<c.alts.length),V c.alts[k]=false->r=false:=fun k hk q=>by
  rw[hr];refine Bool.eq_false_iff.2 fun q2=>?_;have:=List.all_eq_true.1 q2 _ (List.getElem_mem hk);rw[q] at this;cases this
 refine zA ttok mixed Tryz.func114 rfl (by rfl) (Nat.le_of_ble_eq_true rfl) (by kernel_rfl) ?_;refine .inl ⟨_,zBF w c.t hf,?_⟩;refine⟨{k:Nat // k<=c.alts.length/\∀j (hj:j<c.alts.length),j<k->V c.alts[j]=true},fun k=>{vs:=[(3,.box 0 (eW w)),(4,.box 0 (eC c)),(5,.box 0 (eTy t)),(7,.box 0 (eTy (w.mean c.t))),(8,sv (k.1:Nat))]},fun k=>c.alts.length-k.1,⟨0,Nat.zero_le _,fun j _ g=>by omega⟩,⟨⟨rfl,rfl,rfl,rfl,rfl,trivial⟩,trivial,rfl⟩,?_⟩;rintro⟨k,hk,hinv⟩;refine⟨fun h1=>?_,fun h1=>?_⟩
 ·have h1:k<c.alts.length:=by have h:=of_decide_eq_true h1;rw[z7H] at h;simp only at h;omega
  obtain⟨wa,oka,q1,q2,q3⟩:=h _ (List.getElem_mem h1);refine⟨_,by omega,z3N h1,rfl,?_⟩;refine .inl ⟨_,q1,?_⟩;refine⟨by kernel_rfl,?_⟩;refine⟨fun h2=>?_,fun h2=>?_⟩
  ·have h2:oka=false:=by have h2:=h2;simpa using h2
   have e:=hno k h1 (q3 h2);subst e;exact rfl
  ·have h2:oka=true:=by have h2:=h2;simpa using h2
   obtain⟨ta,okb,p1,p2,p3⟩:=q2 h2;refine⟨_,by omega,z3N h1,rfl,?_⟩;refine .inl ⟨_,p1,?_⟩;refine⟨by kernel_rfl,?_⟩;refine⟨fun h3=>?_,fun h3=>?_⟩
   ·have h3:okb=true:=by have h3:=h3;simpa using h3
    refine .inl ⟨_,p2 h3,?_⟩;refine⟨fun h4=>?_,fun h4=>?_⟩
    ·have h4:V c.alts[k]=false:=by have h4:=h4;simpa using h4
     have e:=hno k h1 h4;subst e;exact rfl
    ·have h4:V c.alts[k]=true:=by have h4:=h4;simpa using h4
     refine⟨⟨k+1,h1,fun j hj g=>?_⟩,by simp only;omega,⟨rfl,rfl,rfl,rfl,svc (wrap_succ (k:=k) (by omega)),trivial⟩,trivial,rfl⟩;by_cases e:j=k
     ·subst e;exact h4
     ·exact hinv j hj (by omega)
   ·have h3:okb=false:=by have h3:=h3;simpa using h3
    have e:=hno k h1 (p3 h3);subst e;exact rfl
 ·have h1:k=c.alts.length:=by have h:=of_decide_eq_false h1;rw[z7H] at h;simp only at h;omega
  have e:r=true:=by
   rw[hr];refine List.all_eq_true.2 fun a ha=>?_;obtain⟨j,hj,rfl⟩:=List.getElem_of_mem ha;exact hinv j hj (by omega)
  subst e;exact rfl
noncomputable def bdN (w:Wd) (l:List Bdg):List Nm2:=l.map fun b=>(b.1,w.mean b.2.1)
def zUI (e:Wd) (b:Bdg) (v:Bool):Prop := ∃tb okb,OfR e b.2.2 tb okb/\(okb=true->zC Tryz.prog zL [eTy tb,eTy (e.mean b.2.1)] (.sb v))/\(okb=false->v=false)
theorem zKK {w:Wd} {l:List Bdg} {K:Nat} (hl:l.length<=1000) (he:w.env.length<=90000) (hf:∀b∈l,FitX K b.2.1 w.ps) (r:AV) (V:Bdg->Bool) (hV:∀b∈l,zUI (w.more (bdN w l)) b (V b)) (hno:¬(l.map (·.1)).Nodup->r = .tup [eW w,.sb false]) (hyes:(l.map (·.1)).Nodup->r = .tup [eW (w.more (bdN w l)),.sb (l.all V)]):zC Tryz.prog 66 [eW w,.sl (zN l)] r:=by
 have hln:(zN l).length=l.length:=by simp[zN]
 refine zA ttok mixed Tryz.func66 rfl (by rfl) (Nat.le_of_ble_eq_true rfl) (by kernel_rfl) ?_;refine⟨{i:Nat // i<=l.length/\∀a b (ha:a<l.length) (hb:b<a),a<i->l[a].1≠l[b].1},fun i=>{vs:=[(1,.v (.sl (zN l))),(2,.box 0 (eW w)),(4,.box 0 (.agg [.sl [],.sl [],.sl [],.sl [],.lit (.int .i64 0)])),(6,sv (i.1:Nat))]},fun i=>l.length-i.1,⟨0,Nat.zero_le _,fun a b _ _ g=>by omega⟩,⟨⟨rfl,rfl,rfl,rfl,trivial⟩,trivial,rfl⟩,?_⟩;rintro⟨i,hi,hinv⟩;refine⟨fun h=>?_,fun h=>?_⟩
 ·have h:i<l.length:=by have h:=of_decide_eq_true h;rw[hln] at h;simp only at h;omega
  refine⟨{j:Nat // j<=i/\∀b (hb:b<i),b<j->l[i].1≠l[b].1},fun j=>{vs:=[(1,.v (.sl (zN l))),(2,.box 0 (eW w)),(4,.box 0 (.agg [.sl [],.sl [],.sl [],.sl [],.lit (.int .i64 0)])),(6,sv (i:Nat)),(7,sv (j.1:Nat))]},fun j=>i-j.1,⟨0,Nat.zero_le _,fun b _ g=>by omega⟩,⟨⟨rfl,rfl,rfl,rfl,rfl,trivial⟩,trivial,rfl⟩,?_⟩;rintro⟨j,hj,hjv⟩;refine⟨fun h2=>?_,fun h2=>?_⟩
  ·have h2:j<i:=by have h:=of_decide_eq_true h2;simp only at h;omega
   refine⟨_,by omega,zCE h,rfl,?_⟩;refine⟨_,by omega,zCE (show j<l.length by omega),rfl,?_⟩;refine⟨by kernel_rfl,?_⟩;refine⟨fun h3=>?_,fun h3=>?_⟩
   ·have h3:l[i].1=l[j].1:=of_decide_eq_true h3;have hdup:¬(l.map (·.1)).Nodup:=fun hn=>by
     have q:=List.pairwise_iff_getElem.1 hn j i (by simp;omega) (by simp;omega) h2;simp only[List.getElem_map] at q;exact q h3.symm
    rw[hno hdup];exact rfl
   ·have h3:¬l[i].1=l[j].1:=of_decide_eq_false h3;refine⟨⟨j+1,h2,fun b hb g=>?_⟩,by simp only;omega,⟨rfl,rfl,rfl,rfl,svc (wrap_succ (k:=j) (by omega)),trivial⟩,trivial,rfl⟩;by_cases e:b=j
    ·subst e;exact h3
    ·exact hjv b hb (by omega)
  ·have h2:j=i:=by have h:=of_decide_eq_false h2;simp only at h;omega
   refine⟨⟨i+1,h,fun a b ha hb g=>?_⟩,by simp only;omega,⟨rfl,rfl,rfl,svc (wrap_succ (k:=i) (by omega)),trivial⟩,trivial,rfl⟩;by_cases e:a=i
   ·subst e;exact hjv b hb (by omega)
   ·exact hinv a b ha hb (by omega)
 have hi2:i=l.length:=by have h:=of_decide_eq_false h;rw[hln] at h;simp only at h;omega
 have hnd:(l.map (·.1)).Nodup:=by
  refine List.pairwise_iff_getElem.2 fun a b ha hb hab q=>?_;simp only[List.length_map] at ha hb;simp only[List.getElem_map] at q;exact hinv b a hb hab (by omega) q.symm
 have hr:=hyes hnd;have hbl:(bdN w l).length=l.length:=by simp[bdN]
 refine⟨{k:Nat // k<=l.length},fun k=>{vs:=[(1,.v (.sl (zN l))),(2,.box 0 (eW (w.more (bdN w (l.take k.1))))),(4,.box 0 (.agg [.sl [],.sl [],.sl [],.sl [],.lit (.int .i64 0)])),(8,sv (k.1:Nat))]},fun k=>l.length-k.1,⟨0,Nat.zero_le _⟩,⟨⟨rfl,?_,rfl,rfl,trivial⟩,trivial,rfl⟩,?_⟩
 ·show SV.box 0 (eW w)=SV.box 0 (eW (w.more []));rw[zCD]
 rintro⟨k,hk⟩;refine⟨fun h=>?_,fun h=>?_⟩
 ·have h:k<l.length:=by have h:=of_decide_eq_true h;rw[hln] at h;simp only at h;omega
  have hwith:=zHM (w.more (bdN w (l.take k))) l[k].1 (w.mean l[k].2.1) (by
   show (w.env++bdN w (l.take k)).length<=_;rw[List.length_append];have:(bdN w (l.take k)).length<=l.length:=by unfold bdN;rw[List.length_map,List.length_take];omega
   omega)
  refine⟨_,by omega,zCE h,rfl,?_⟩;refine⟨_,by omega,zCE h,rfl,?_⟩;refine .inl ⟨_,zBF (w.more (bdN w (l.take k))) l[k].2.1 (hf _ (List.getElem_mem h)),?_⟩;refine .inl ⟨_,hwith,?_⟩;refine⟨by kernel_rfl,?_⟩;refine⟨⟨k+1,h⟩,by simp only;omega,⟨rfl,?_,rfl,svc (wrap_succ (k:=k) (by omega)),trivial⟩,trivial,rfl⟩;have e:(w.more (bdN w (l.take k))).more [(l[k].1,w.mean l[k].2.1)]=w.more (bdN w (l.take (k+1))):=by
   show ({fs:=w.fs,env:=(w.env++_)++_,ps:=w.ps,deep:=w.deep}:Wd)={fs:=w.fs,env:=w.env++_,ps:=w.ps,deep:=w.deep};rw[List.append_assoc]
   congr 2
   unfold bdN;rw[List.take_succ_eq_append_getElem h,List.map_append]
   rfl
  exact congrArg (fun w'=>SV.box 0 (eW w')) e
 have hk2:k=l.length:=by have h:=of_decide_eq_false h;rw[hln] at h;simp only at h;omega
 obtain⟨e,hee⟩:∃e,e=w.more (bdN w l):=⟨_,rfl⟩
 rw[<-hee] at hr hV;have hfe:∀b∈l,FitX K b.2.1 e.ps:=fun b hb=>by rw[hee];exact hf b hb
 obtain⟨v,hv⟩:∃v,v=l.all V:=⟨_,rfl⟩
 rw[<-hv] at hr;have hnv:∀k (hk:k<l.length),V l[k]=false->r = .tup [eW e,.sb false]:=fun k hk q=>by
  rw[hr,hv];have:l.all V=false:=Bool.eq_false_iff.2 fun q2=>by
   have:=List.all_eq_true.1 q2 _ (List.getElem_mem hk);rw[q] at this;cases this
  rw[this]
 refine⟨{k:Nat // k<=l.length/\∀j (hj:j<l.length),j<k->V l[j]=true},fun k=>{vs:=[(1,.v (.sl (zN l))),(2,.box 0 (eW e)),(4,.box 0 (.agg [.sl [],.sl [],.sl [],.sl [],.lit (.int .i64 0)])),(9,sv (k.1:Nat))]},fun k=>l.length-k.1,⟨0,Nat.zero_le _,fun j _ g=>by omega⟩,⟨⟨rfl,?_,rfl,rfl,trivial⟩,trivial,rfl⟩,?_⟩
 ·show SV.box 0 (eW (w.more (bdN w (l.take k))))=SV.box 0 (eW e);rw[hk2,List.take_length,hee]
 rintro⟨m,hm,hinv⟩;refine⟨fun h=>?_,fun h=>?_⟩
 ·have h:m<l.length:=by have h:=of_decide_eq_true h;rw[hln] at h;simp only at h;omega
  obtain⟨tb,okb,p1,p2,p3⟩:=hV _ (List.getElem_mem h);refine⟨_,by omega,zCE h,rfl,?_⟩;refine .inl ⟨_,p1,?_⟩;refine⟨by kernel_rfl,?_⟩;refine⟨fun h3=>?_,fun h3=>?_⟩
  ·have h3:okb=true:=by have h3:=h3;simpa using h3
   refine⟨_,by omega,zCE h,rfl,?_⟩;refine .inl ⟨_,zBF e l[m].2.1 (hfe _ (List.getElem_mem h)),?_⟩;refine .inl ⟨_,p2 h3,?_⟩;refine⟨by kernel_rfl,?_⟩;refine⟨fun h4=>?_,fun h4=>?_⟩
   ·have h4:V l[m]=false:=by have h4:=h4;simpa using h4
    rw[hnv m h h4];exact rfl
   ·have h4:V l[m]=true:=by have h4:=h4;simpa using h4
    refine⟨⟨m+1,h,fun j hj g=>?_⟩,by simp only;omega,⟨rfl,rfl,rfl,svc (wrap_succ (k:=m) (by omega)),trivial⟩,trivial,rfl⟩;by_cases q:j=m
    ·subst q;exact h4
    ·exact hinv j hj (by omega)
  ·have h3:okb=false:=by have h3:=h3;simpa using h3
   refine⟨by kernel_rfl,?_⟩;rw[hnv m h (p3 h3)];exact rfl
 ·have h:m=l.length:=by have h:=of_decide_eq_false h;rw[hln] at h;simp only at h;omega
  have hall:v=true:=by
   rw[hv];refine List.all_eq_true.2 fun a ha=>?_;obtain⟨j,hj,rfl⟩:=List.getElem_of_mem ha;exact hinv j hj (by omega)
  rw[hr,hall];exact rfl
theorem zSN {B:Nat} (hB:B<=60000) {w w':Wd} {u:Tp} {a:Alg} (hw:WOk B w) (hu:u.sz<=500) (ha:a.2.1.length<=100) (hs:zC Tryz.prog zL [eTy u,eTy (.con yE)] (.sb (smb u (.con yE) [] []))) (h:zAL w u a=some w'):zC Tryz.prog 139 [eW w,eTy u,eAl a] (.tup [eW w',.sb true]):=by
 obtain⟨⟨f0,m,s⟩,xs,q⟩:=a;have hsp:=zF5 u;have hfl:=hw.fl;have hel:=hw.el
 dsimp only at ha
 unfold zAL at h;simp only at h;split at h
 ·rename_i h3;cases h;subst h3;exact zRH
 ·split at h
  ·rename_i h2;subst h2;split at h
   ·rename_i hb;cases h;rw[hb] at hs;exact zVL hs
   ·cases h
  ·split at h
   ·rename_i h1;subst h1;split at h
    ·cases h
    ·rename_i f hf;have hfo:=hw.fo f (List.mem_of_find?_eq_some hf);split at h
     ·cases h
     ·rename_i l n vs hsh;split at h
      ·rename_i hc;cases h
       have q:=zVS (q:=q) (m:=m) (xs:=xs) (t:=u) (by omega) hf (by omega) (by omega) (by omega) hsh ⟨hc.1,hc.2.1,hc.2.2.1,hc.2.2.2.1⟩ (by omega) (fun x hx=>⟨1000,?_⟩) l.length (Nat.le_refl _) (fun j hj _ hm=>?_) (.inl rfl)
       ·rw[decide_eq_true rfl,List.take_length,show xs.take l.length=xs by rw[<-hc.2.2.2.1,List.take_length]] at q;exact q
       ·refine zTN ?_ hu;unfold xQ at hsh;split at hsh
        ·cases hsh
        ·rename_i vs' t0 hA;split at hsh
         ·cases hsh
         ·rename_i l' u' hF;split at hsh
          ·cases hsh
           have h1:=zHW _ _ _ _ hA;have h2:=(zEE _ _ _ _ hF).2.2 x hx;omega
          ·cases hsh
       ·have hn:=hc.2.2.2.2;obtain⟨i,hi,e⟩:=List.getElem_of_mem hm;rw[List.getElem_take] at e;have hi2:i<j:=by rw[List.length_take] at hi;omega
        exact List.pairwise_iff_getElem.1 hn i j (by omega) hj hi2 e
      ·cases h
   ·cases h
theorem zDR {a b:Tp} (ha:Gs a) (h:smb a b [] []=true):zC Tryz.prog zL [eTy a,eTy b] (.sb true):=z1C (K:=1000) rfl (smb_db0.1 h).symm ha.2.1 ha.2.2 ha.1 (by decide)
theorem z2K {B:Nat} (hB:B<=60000) {w:Wd} {c:Cr} {t:Tp} (h:TyW zFP B w c t):OfR w c t true:=by
 induction h with
 | var hw h hs=>exact (zOA (by have:=hw.el;omega)).1 _ h
 | con hw h=>exact z2N (by have:=hw.fl;omega) h
 | int hw=>exact z0O
 | app hw h1 h2 h hs i1 i2=>exact z0G (zZN i1 i2 (zDR h1.gs.fn.1 h))
 | lam hw ht h hr ih=>exact z0Y (hw.fit ht) (by have:=hw.el;omega) ih
 | tapp hw ht hm ha h hr ih=>exact zZE (hw.fit ht) ih (zUK ha hm)
 | tlam hw h hr ih=>exact zYC (zWF (by have:=hw.pl;omega) hw.dl ih)
 | @bind w n s x t0 t u v p q hw ht h1 h hs h2 i1 i2 =>
  refine z15 (w':=w.more [(x,w.mean t)]) ?_ i2;exact zKK (l:=[(x,t,q)]) (by simp) (by have:=hw.el;omega) (K:=1000) (fun b hb=>by rw[List.mem_singleton.1 hb];exact hw.fit ht) _ (fun _=>true) (fun b hb=>by
   rw[List.mem_singleton.1 hb];exact⟨u,true,i1,fun _=>zDR h1.gs h,fun h=>by cases h⟩) (fun h=>absurd (by simp) h) (fun _=>rfl)
 | @case w n s t u p g fW fu hw ht hu hk hl h1 h2 h3 h4 hr i1 i3 =>
  refine zYG (hw.fit ht) hk i1 ?_;have q:=zSG (w:=w) (c := .node 9 n s t (.kid p g)) (t:=u) (hw.fit ht) (by show g.alts.length<=_;omega) (fun _=>true) (fun a ha=>⟨fW a,true,zSN hB hw hu (h2 a ha).2 (zKZ h1.gs zJ3) (h2 a ha).1,fun _=>⟨fu a,true,i3 a ha,fun _=>zDR (h3 a ha).gs (h4 a ha).1,fun h=>by cases h⟩,fun h=>by cases h⟩);rw[List.all_eq_true.2 fun _ _=>rfl] at q;exact q
 | prim hw h1 h2 hu hv hr i1 i2=>exact zX7 (zVU i1 i2 (zDR h1.gs hu.1) (zDR h2.gs hv.1) hr)
 | fail hw ht hr=>exact zXX (hw.fit ht)
theorem zL9 {fs:List Fd} {env:List Nm2} {l:List Bdg} {e:Wd} {b:Bool} (h:zC Tryz.prog 66 [eW (.of fs env),.sl (zN l)] (.tup [eW e,.sb b])):zC Tryz.prog 31 [.sl (qL fs),.sl (yZ env),.sl (zN l)] (.lit (.int .i64 (if b=true then 0 else 50))):=by
 refine zA ttok mixed Tryz.func31 rfl (by rfl) (Nat.le_of_ble_eq_true rfl) (by kernel_rfl) ?_;refine .inl ⟨_,h,?_⟩;refine⟨fun h2=>?_,fun h2=>?_⟩
 ·have h2:b=false:=by have h2:=h2;simpa using h2
  subst h2;exact rfl
 ·have h2:b=true:=by have h2:=h2;simpa using h2
  subst h2;exact rfl
abbrev sf:ByteArray:=⟨#[102]⟩
structure BdT (b:Bdg):Prop where
 gs:Gs b.2.1
 sz:b.2.1.sz<=300
 bd:(∃tc,zTL b.2.2 tc)∨b.2.2=vr sf
theorem zGN {e:Wd} (hc:∀own,Cmp own v0 e) (hp:e.ps=[]) (he:∀p∈e.env,Gs p.2) (hel:e.env.length<=1000) {b:Bdg} (hb:BdT b):∃v,zUI e b v/\(v=true->IsT e (e.mean b.2.1) b.2.2)/\(v=false->z5P e (e.mean b.2.1) b.2.2):=by
 have em:e.mean b.2.1=b.2.1:=by show sub b.2.1 e.ps=_;rw[hp];exact zF1 _
 rw[em];unfold zUI;rw[em];have hz:=hb.gs.1;rcases hb.bd with⟨tc,hm⟩|hv
 ·obtain⟨t1,h1,a1⟩:=zI2 hm zOV (hc zDY);obtain⟨t2,h2,a2⟩:=zI2 hm ownR_ok (hc zFP);have e2:smb t1 b.2.1 [] []=smb t2 b.2.1 [] []:=by
   have q:smb t1 b.2.1 [] []=true↔smb t2 b.2.1 [] []=true:=by rw[smb_db0,smb_db0,a1.db [] [],a2.db [] []]
   cases g1:smb t1 b.2.1 [] [] with
   | true=>exact (q.1 g1).symm
   | false =>
    cases g2:smb t2 b.2.1 [] [] with
    | true=>rw[q.2 g2] at g1;cases g1
    | false=>rfl
  refine⟨smb t1 b.2.1 [] [],⟨t2,true,z2K (by decide) h2,fun _=>by rw[e2];exact zKZ h2.gs hb.gs,fun h=>by cases h⟩,fun h=>zNW (zHH (by decide) h1) h (by have:=h1.sz;omega),fun h=>?_⟩;exact .inr ⟨t1,zHH (by decide) h1,h,by have:=zAM t1;have:=h1.sz;omega⟩
 ·rw[hv];cases hn:wP e.env sf with
  | none =>
   refine⟨false,⟨.no,false,(zOA (by omega)).2 hn,(fun h=>by cases h),fun _=>rfl⟩,(fun h=>by cases h),fun _ => .inl ?_⟩;exact zTU (j:=0) (f:=116) rfl rfl rfl ((zG5 (by omega)).2 hn)
  | some t =>
   have hm:Gs t:=by
    unfold wP at hn;obtain⟨p,h1,h2⟩:=Option.map_eq_some_iff.1 hn;rw[<-h2];exact he p (List.mem_reverse.1 (List.mem_of_find?_eq_some h1))
   have hof:OfS e (vr sf) t:=zC6 (j:=0) (f:=116) rfl rfl rfl ((zG5 (by omega)).1 _ hn);refine⟨smb t b.2.1 [] [],⟨t,true,(zOA (by omega)).1 _ hn,fun _=>zKZ hm hb.gs,fun h=>by cases h⟩,fun h=>zNW hof h (by have:=hm.1;omega),fun h=>?_⟩;exact .inr ⟨t,hof,h,by have:=zAM t;have:=hm.1;omega⟩
theorem z5W {P:Nat->Prop}:∀n,P n->∃m,m<=n/\P m/\∀k,k<m->¬P k:=by
 intro n;induction n using Nat.strongRecOn with
 | _ n ih =>
  intro h;by_cases q:∃k,k<n/\P k
  ·obtain⟨k,hk,hp⟩:=q;obtain⟨m,h1,h2,h3⟩:=ih k hk hp;exact⟨m,by omega,h2,h3⟩
  ·exact⟨n,Nat.le_refl _,h,fun k hk hp=>q ⟨k,hk,hp⟩⟩
theorem zRW {l:List Bdg} (hl:l.length<=8) (hb:∀b∈l,BdT b):∃r:Int,zC Tryz.prog 30 [.sl (qL yS),.sl (yZ []),.sl (zN l)] (.lit (.int .i64 r))/\zC Tryz.prog 31 [.sl (qL yS),.sl (yZ []),.sl (zN l)] (.lit (.int .i64 r)):=by
 have hf:∀b∈l,FitX 1000 b.2.1 wF.ps:=fun b hq=>jQ (by have:=(hb b hq).gs.1;show b.2.1.sz+0<=_;omega) (by decide) (fun p hp=>by cases hp) (hb b hq).gs.1;have hee:bdN wF l=bdL wF l:=rfl;have hbl:(bdL wF l).length=l.length:=by simp[bdL]
 have hc:∀own,Cmp own v0 (wF.more (bdL wF l)):=fun own=>cmp0 rfl (by show (bdL wF l).length<=10;omega) (Nat.le_of_ble_eq_true rfl) (Nat.le_of_ble_eq_true rfl) (fun p hp=>by cases hp);have hge:∀p∈(wF.more (bdL wF l)).env,Gs p.2:=fun p hp=>by
  have hp:p∈bdL wF l:=hp;obtain⟨b,hb2,rfl⟩:=List.mem_map.1 hp;show Gs (sub b.2.1 []);rw[zF1];exact (hb b hb2).gs
 have hel:(wF.more (bdL wF l)).env.length<=1000:=by show (bdL wF l).length<=_;omega
 obtain⟨V,hV⟩:∃V:Bdg->Bool,∀b∈l,zUI (wF.more (bdL wF l)) b (V b)/\(V b=true->IsT (wF.more (bdL wF l)) (wF.mean b.2.1) b.2.2)/\(V b=false->z5P (wF.more (bdL wF l)) (wF.mean b.2.1) b.2.2):=by
  classical
  refine⟨fun b=>if h:b∈l then (zGN hc rfl hge hel (hb b h)).choose else false,fun b h=>?_⟩;simp only[dif_pos h];exact (zGN hc rfl hge hel (hb b h)).choose_spec
 have href:=fun r h1 h2=>zKK (w:=wF) (l:=l) (K:=1000) (by omega) (by decide) hf r V (fun b hq=>(hV b hq).1) h1 h2;by_cases hnd:(l.map (·.1)).Nodup
 ·have q:=href (.tup [eW (wF.more (bdN wF l)),.sb (l.all V)]) (fun h=>absurd hnd h) (fun _=>rfl);have q2:=zL9 q;by_cases hall:l.all V=true
  ·refine⟨0,zS7 (zLU (w:=wF) (by show 0+l.length<=_;omega) hnd hf fun b hq=>(hV b hq).2.1 (List.all_eq_true.1 hall b hq)),?_⟩;rw[if_pos hall] at q2;exact q2
  ·refine⟨50,?_,?_⟩
   ·have hex:∃m,∃hm:m<l.length,V l[m]=false/\∀k (hk:k<l.length),k<m->V l[k]=true:=by
     have h0:∃m,∃hm:m<l.length,V l[m]=false:=by
      refine Classical.byContradiction fun q=>hall (List.all_eq_true.2 fun b hq=>?_);obtain⟨j,hj,rfl⟩:=List.getElem_of_mem hq;cases hv:V l[j] with
      | true=>rfl
      | false=>exact absurd ⟨j,hj,hv⟩ q
     obtain⟨n,hn⟩:=h0;obtain⟨m,_,⟨hm,hv⟩,hmin⟩:=z5W (P:=fun m => ∃hm:m<l.length,V l[m]=false) n hn;refine⟨m,hm,hv,fun k hk hlt=>?_⟩;cases hvk:V l[k] with
     | true=>rfl
     | false=>exact absurd ⟨hk,hvk⟩ (hmin k hlt)
    obtain⟨m,hm,hv,hmin⟩:=hex;exact zLB (zP9 (w:=wF) (by show 0+l.length<=_;omega) hnd hf hm (fun k hk hlt=>(hV _ (List.getElem_mem hk)).2.1 (hmin k hk hlt)) ((hV _ (List.getElem_mem hm)).2.2 hv))
   ·rw[if_neg hall] at q2;exact q2
 ·have q:=href (.tup [eW wF,.sb false]) (fun _=>rfl) (fun h=>absurd h hnd);have q2:=zL9 q;rw[if_neg (by decide)] at q2;exact⟨50,zLB (zPA (w:=wF) (by show 0+l.length<=_;omega) hnd hf),q2⟩
def hpB (x:Gr) (L:List Bdg):List (Nat×HO):=match x with
 | none=>[]
 | some (b,_,rest)=>[(b,.cells (flR (zN L) rest))]
def GrB (x:Gr) (k:Nat):Prop:=match x with
 | none=>k=0
 | some (_,cap,rest)=>0<k/\k<=cap/\rest.length=(cap-k)*15
theorem zDZ (L:List Bdg):(zN L).length=L.length:=by simp[zN]
theorem zMM (L:List Bdg):((zN L).flatMap AV.cells).length=L.length*15:=by have:=zAN (qR L) [];unfold flR at this;rw[List.append_nil,zDZ] at this;simpa using this
theorem zXB (L:List Bdg) (x:Bdg) (rest rest':List AV):(flR (zN L) rest).take (L.length*15)++([eBd x].flatMap AV.cells++rest')=flR (zN (L++[x])) rest':=by
 have h1:=zMM L;unfold flR;rw[List.take_append_of_le_length (by omega),List.take_of_length_le (by omega)];simp[zN]
theorem zZH (L:List Bdg) (x:Bdg) (rest:List AV):setAt (flR (zN L) rest) (0+L.length*15) ([eBd x].flatMap AV.cells)=flR (zN (L++[x])) (rest.drop 15):=by
 have h:=zMM L;rw[Nat.zero_add];unfold flR setAt;rw[List.take_append_of_le_length (by rw[h];omega),<-h,List.take_length];have h4:([eBd x].flatMap AV.cells).length=15:=rfl;rw[h4,List.drop_length_add_append];simp[zN]
theorem z8B {x:Gr} {L:List Bdg} (hx:GrB x L.length):Frz (hpB x L) (.lit (slG x L.length)) (.sl (zN L)):=by
 cases x with
 | none =>
  have h0:L=[]:=List.length_eq_zero_iff.1 hx;subst h0;exact .nilL
 | some q =>
  obtain⟨b,cap,rest⟩:=q;obtain⟨h1,h2,h3⟩:=hx;refine .sl b 0 L.length cap 15 (flR (zN L) rest) (zN L) (List.mem_singleton.2 rfl) (zDZ L) h2 (qR L) z3L (by rw[zAN (qR L),zDZ,h3];omega) fun i x j c c' hi hj hc=>?_;have hil:=(List.getElem?_eq_some_iff.1 hi).1;have hjl:=(List.getElem?_eq_some_iff.1 hj).1;rw[qR L x (List.mem_of_getElem? hi)] at hjl;rw[Nat.zero_add,zFS (qR L) rest hil j hjl] at hc;rw[List.getElem?_eq_getElem hil] at hi;injection hi with hi;subst hi
  rw[hj] at hc;injection hc with hc;subst hc
  exact .refl _
theorem z3I {n:Nat} {x:Gr} {L:List Bdg} {r:Int} (hx:GrB x L.length) (h:zC Tryz.prog n [.sl (qL yS),.sl (yZ []),.sl (zN L)] (.lit (.int .i64 r))):CallsG Tryz.prog (fnv n) (hpB x L) [.sl (qL yS),.sl [],.lit (slG x L.length)] [] fun r' o h=>r' = .lit (.int .i64 r)/\o=0/\h=hpB x L:=by
 refine CallsG.lend h rfl (fun i a a' h1 h2=>?_) fun F w v hv F' w'=>by cases hv;exact .lit _ rfl
 match i,h1,h2 with
 | 0,h1,h2=>cases h1;cases h2;exact .refl _
 | 1,h1,h2=>cases h1;cases h2;exact .refl _
 | 2,h1,h2=>cases h1;cases h2;exact z8B hx
 | i+3,h1,h2=>simp at h1
abbrev BW (q:Code) (f:Fr):Prop:=Wsem Tryz.prog q (mkC f) (fun c2=>wH tt Tryz.f7.results.toList (fun r o h=>r = .sb true/\o=0/\∃x L,h=hpB x L) (den c2)) (fun _ _=>False) (fun c2=>wH tt Tryz.f7.results.toList (fun r o h=>r = .sb true/\o=0/\∃x L,h=hpB x L) (den c2))
theorem zW3 {x:Gr} {L:List Bdg} (hl:L.length<=8) (hb:∀b∈L,BdT b) (hx:GrB x L.length):BW (qN (qN (qN (qN (bodyC Tryz.f7))))) {vs:=[(5,.v (.lit (slG x L.length)))],hp:=hpB x L}:=by
 obtain⟨r,h1,h2⟩:=zRW hl hb;have c1:=z3I hx h1;have c2:=z3I hx h2;refine Wsem.of ttok mixed ?_;refine .inl ⟨_,zBS,?_⟩;cases x with
 | none =>
  refine .inr (.inr (.inl ⟨[],[],_,rfl,by decide,c1,?_⟩));refine .inl ⟨_,zBS,?_⟩;refine .inr (.inr (.inl ⟨[],[],_,rfl,by decide,c2,?_⟩));refine⟨fun _=>?_,fun h=>absurd h (by simp)⟩;refine .inl ⟨_,zJB,?_⟩;exact⟨rfl,rfl,none,L,rfl⟩
 | some q =>
  obtain⟨b,cap,rest⟩:=q;refine .inr (.inr (.inl ⟨[0],hpB (some (b,cap,rest)) L,_,rfl,by decide,c1,?_⟩));refine .inl ⟨_,zBS,?_⟩;refine .inr (.inr (.inl ⟨[0],hpB (some (b,cap,rest)) L,_,rfl,by decide,c2,?_⟩));refine⟨fun _=>?_,fun h=>absurd h (by simp)⟩;refine .inl ⟨_,zJB,?_⟩;exact⟨rfl,rfl,some (b,cap,rest),L,rfl⟩
theorem z02 {b:Bdg} (h:BdT b):BdT (b.1,b.2.1,vr sf):=⟨h.gs,h.sz,.inr rfl⟩
theorem z4L {x:Gr} {L:List Bdg} {n:Int} (hn:InR n) (hl:L.length<=8) (hb:∀b∈L,BdT b) (hx:GrB x L.length):BW (qN (qN (qN (bodyC Tryz.f7)))) {vs:=[(1,sv n),(5,.v (.lit (slG x L.length)))],hp:=hpB x L}:=by
 obtain⟨r,hr,har⟩:=zAB (n:=n) (m:=4) hn (by decide) (by decide);refine Wsem.seq ttok mixed ?_;cases x with
 | none =>
  have h0:L=[]:=List.length_eq_zero_iff.1 hx;subst h0;refine⟨Unit,fun _=>{vs:=[(5,.v (.lit (.slice none 0 0))),(9,sv 0)]},fun _=>0,(),⟨⟨.inr rfl,rfl,trivial⟩,trivial,rfl⟩,?_⟩;rintro⟨⟩;refine⟨fun h=>?_,fun h=>?_⟩
  ·exact absurd h (by decide)
  ·refine Wsem.cut _ ?_ (zW3 (x:=none) (L:=[]) (by decide) (fun b hb=>by cases hb) rfl);exact⟨⟨.inr rfl,trivial⟩,trivial,rfl⟩
 | some q =>
  obtain⟨b0,cap,rest⟩:=q;obtain⟨x1,x2,x3⟩:=hx;refine⟨{s:Nat×List Bdg // s.1<=L.length/\s.2.length=L.length/\∀b∈s.2,BdT b},fun s=>{vs:=[(1,sv n),(5,.v (.lit (.slice (some ⟨b0,0,none⟩) L.length cap))),(9,sv (s.1.1:Nat))],hp:=[(b0,.cells (flR (zN s.1.2) rest))]},fun s=>L.length-s.1.1,⟨(0,L),Nat.zero_le _,rfl,hb⟩,⟨⟨rfl,rfl,rfl,trivial⟩,trivial,rfl⟩,?_⟩;rintro⟨⟨j,M⟩,hj,hM,hbM⟩
  dsimp only at hj hM hbM
  refine⟨fun h=>?_,fun h=>?_⟩
  ·have h:j<L.length:=by have h:=of_decide_eq_true h;simp only at h;omega
   refine .inl ⟨_,har,?_⟩;refine⟨fun h2=>?_,fun h2=>?_⟩
   ·refine .inl ⟨_,zPI sf,?_⟩;have hjM:j<M.length:=by omega
    have hml:j<(zN M).length:=by rw[zDZ];omega
    have hget:(zN M)[j]=eBd M[j]:=by simp[zN]
    have hfit:0+j*15+5+10<=(flR (zN M) rest).length:=by have:=zBX (qR M) rest hml 5 10 (by decide);omega
    refine⟨by omega,by simp only;omega,?_⟩;refine⟨rfl,0,_,rfl,hfit,?_⟩;refine⟨⟨(j+1,M.set j (M[j].1,M[j].2.1,vr sf)),h,by simp;omega,fun b hb2=>?_⟩,by simp only;omega,⟨rfl,rfl,svc (wrap_succ (k:=j) (by omega)),trivial⟩,trivial,?_⟩
    ·rcases List.mem_or_eq_of_mem_set hb2 with q|rfl
     ·exact hbM b q
     ·exact z02 (hbM _ (List.getElem_mem hjM))
    ·show [(b0,HO.cells (setAt (flR (zN M) rest) (0+j*15+5) (eC (vr sf)).cells))]=[(b0,HO.cells (flR (zN (M.set j (M[j].1,M[j].2.1,vr sf))) rest))];rw[Nat.zero_add,zD5 (qR M) rest hml 5 (eC (vr sf)).cells (by decide),hget];unfold zN;rw[List.map_set]
     rfl
   ·exact⟨⟨(j+1,M),h,hM,hbM⟩,by simp only;omega,⟨rfl,rfl,svc (wrap_succ (k:=j) (by omega)),trivial⟩,trivial,rfl⟩
  ·refine Wsem.cut _ ?_ (zW3 (x:=some (b0,cap,rest)) (L:=M) (by omega) hbM (by rw[hM];exact⟨x1,x2,x3⟩));refine⟨⟨?_,trivial⟩,trivial,rfl⟩;exact congrArg (fun k:Nat=>SV.v (AV.lit (Value.slice (some ⟨b0,0,none⟩) k cap))) hM.symm
theorem z7A (i r:Nat) (hi:i<4) (hr:r<7):∃nm,[str ⟨#[102]⟩,str ⟨#[103]⟩,str ⟨#[104]⟩,str ⟨#[102]⟩][((IntKind.i64.wrap ((i:Int)+IntKind.i64.wrap ((r:Int).tdiv 6))).tmod 4).toNat]? = some (str nm)/\0<=(IntKind.i64.wrap ((i:Int)+IntKind.i64.wrap ((r:Int).tdiv 6))).tmod 4:=by
 have h1:(r:Int).tdiv 6=((r / 6:Nat):Int):=by rw[Int.tdiv_eq_ediv_of_nonneg (by omega)];omega
 have h2:IntKind.i64.wrap (((r / 6:Nat):Int))=((r / 6:Nat):Int):=yO (by omega);have h3:IntKind.i64.wrap ((i:Int)+((r / 6:Nat):Int))=((i+r / 6:Nat):Int):=by rw[show (i:Int)+((r / 6:Nat):Int)=((i+r / 6:Nat):Int) by omega];exact yO (by omega)
 rw[h1,h2,h3,Int.tmod_eq_emod_of_nonneg (by omega),show (((i+r / 6:Nat):Int) % 4)=(((i+r / 6) % 4:Nat):Int) by omega];have h4:(i+r / 6) % 4<4:=Nat.mod_lt _ (by decide);generalize (i+r / 6) % 4=v at h4;refine (match v,h4 with
  | 0,_=>⟨_,rfl,by decide⟩
  | 1,_=>⟨_,rfl,by decide⟩
  | 2,_=>⟨_,rfl,by decide⟩
  | 3,_=>⟨_,rfl,by decide⟩)
theorem z5O {t' t:Tp} (h:Alk t' t):Gs t/\t.sz<=300:=⟨⟨by have:=h.sz;omega,h.tk2.1,zB0 (by decide) h.tk2.2⟩,by have:=h.sz;omega⟩
theorem zQO {c:Cr} {t:Tp} (h:zTL c t):Gs t/\t.sz<=300:=by
 obtain⟨_,_,a⟩:=zI2 h zOV z7W;exact z5O a
theorem z0T {t:Tp} (h:good t) (hs:t.sz<=193):Gs t/\t.sz<=300:=⟨⟨by omega,(zUE h).1,zB0 (by decide) (zUE h).2⟩,by omega⟩
theorem z2W {l:List (List Int)} {n:Int} (hl:l.length<9223372036854775808) (hr:∀r∈l,(∀x∈r,InR x)/\r.length<9223372036854775808) (hn:InR n):BW (qN (qN (bodyC Tryz.f7))) {vs:=[(0,.v (.sl (zBI l))),(1,sv n),(5,.v (.lit (.slice none 0 0)))]}:=by
 obtain⟨r5,hr5,har5⟩:=zAB (n:=n) (m:=5) hn (by decide) (by decide);obtain⟨r7,hr7,har7⟩:=zAB (n:=n) (m:=7) hn (by decide) (by decide);have hlen:(zBI l).length=l.length:=by simp[zBI]
 refine Wsem.seqS (Wsem.seq ttok mixed ?_);refine Wsem.block (Wsem.loop (α:={s:List Bdg×Gr // s.1.length<=4/\(∀b∈s.1,BdT b)/\GrB s.2 s.1.length}) (fun s=>{vs:=[(0,.v (.sl (zBI l))),(1,sv n),(5,.v (.lit (slG s.1.2 s.1.1.length))),(6,sv (s.1.1.length:Nat))],hp:=hpB s.1.2 s.1.1}) (fun s=>4-s.1.1.length) ⟨([],none),by decide,(fun b hb=>by cases hb),rfl⟩ ⟨⟨rfl,rfl,.inr rfl,rfl,trivial⟩,trivial,rfl⟩ ?_);rintro⟨⟨L,x⟩,hL4,hL,hx⟩
 dsimp only at hL4 hL hx
 refine Wsem.seq ttok mixed ?_;have out:BW (qN (qN (qN (bodyC Tryz.f7)))) {vs:=[(1,sv n),(5,.v (.lit (slG x L.length)))],hp:=hpB x L}:=z4L hn (by omega) hL hx;refine⟨fun h1=>?_,fun h1=>?_⟩
 ·have h1:L.length<l.length:=by have h:=of_decide_eq_true h1;rw[hlen] at h;simp only at h;omega
  refine⟨fun h2=>?_,fun h2=>?_⟩
  ·have h2:L.length<4:=by have h:=of_decide_eq_true h2;simp only at h;omega
   have hrow:(zBI l)[((L.length:Nat):Int).toNat]? = some (.sl (eIs l[L.length])):=by simp[zBI,h1]
   have hri:=hr _ (List.getElem_mem h1);obtain⟨c,T,hmade,hty⟩:=zY3 hri.2 hri.1;obtain⟨T1,hmk,hg1,hs1⟩:=z1D hri.2 hri.1;have hgT1:=z0T hg1 hs1;obtain⟨nm,hnm,hnm0⟩:=z7A L.length r7 h2 (by omega);clear hl hr;cases x with
   | none =>
    have h0:L=[]:=List.length_eq_zero_iff.1 hx;subst h0;refine Wsem.seqS (Wsem.block ?_);refine Wsem.seq ttok mixed ?_;refine⟨_,by omega,hrow,rfl,?_⟩;refine .inl ⟨_,hty,?_⟩;refine Wsem.seq ttok mixed ?_;refine .inl ⟨_,har5,?_⟩;refine⟨fun h5=>?_,fun h5=>?_⟩
    ·refine⟨_,by omega,hrow,rfl,?_⟩;refine .inl ⟨_,hmk,?_⟩;obtain⟨T2,hT2,hbd0⟩:∃T2,T2=T1/\(Gs T2/\T2.sz<=300):=⟨T1,rfl,hgT1⟩
     subst hT2;have hbd:BdT (nm,T2,c):=⟨hbd0.1,hbd0.2,.inl ⟨_,hmade⟩⟩
     refine Wsem.cut {vs:=[(0,.v (.sl (zBI l))),(1,sv n),(5,.v (.lit (.slice none 0 0))),(6,sv (0:Nat)),(7,.box 0 (eC c)),(8,.box 0 (eTy T2))],hp:=[]} ⟨⟨rfl,rfl,.inr rfl,rfl,rfl,rfl,trivial⟩,trivial,rfl⟩ ?_;refine Wsem.regionTA (xN ttok).two ttok mixed [0,1,2,3,4,5,6,7,8,9,10,11,12,13,14,15] [false,false,false,false,false,false,false,false,false,false,false,false,false,false,true] (by kernel_rfl) ?_;refine .inl ⟨_,har7,?_⟩;refine⟨by decide,?_⟩;refine⟨by decide,?_⟩;refine⟨_,hnm0,hnm,rfl,?_⟩;refine⟨by simp,by simp,qR [(nm,T2,c)],rfl,rfl,fun b' cap' zs g1 g2=>?_⟩;refine⟨by kernel_rfl,?_⟩;refine Wsem.of ttok mixed ?_;exact⟨⟨([(nm,T2,c)],some (b',cap',zs)),by simp only[List.length_singleton];omega,fun b hb=>by rw[List.mem_singleton.1 hb];exact hbd,Nat.zero_lt_one,g1,by simpa using g2⟩,by simp,⟨rfl,rfl,rfl,svc (wrap_succ (k:=0) (by omega)),trivial⟩,trivial,rfl⟩
    ·obtain⟨T2,hT2,hbd0⟩:∃T2,T2=T/\(Gs T2/\T2.sz<=300):=⟨T,rfl,zQO hmade⟩
     subst hT2;have hbd:BdT (nm,T2,c):=⟨hbd0.1,hbd0.2,.inl ⟨_,hmade⟩⟩
     refine Wsem.cut {vs:=[(0,.v (.sl (zBI l))),(1,sv n),(5,.v (.lit (.slice none 0 0))),(6,sv (0:Nat)),(7,.box 0 (eC c)),(8,.box 0 (eTy T2))],hp:=[]} ⟨⟨rfl,rfl,.inr rfl,rfl,rfl,rfl,trivial⟩,trivial,rfl⟩ ?_;refine Wsem.regionTA (xN ttok).two ttok mixed [0,1,2,3,4,5,6,7,8,9,10,11,12,13,14,15] [false,false,false,false,false,false,false,false,false,false,false,false,false,false,true] (by kernel_rfl) ?_;refine .inl ⟨_,har7,?_⟩;refine⟨by decide,?_⟩;refine⟨by decide,?_⟩;refine⟨_,hnm0,hnm,rfl,?_⟩;refine⟨by simp,by simp,qR [(nm,T2,c)],rfl,rfl,fun b' cap' zs g1 g2=>?_⟩;refine⟨by kernel_rfl,?_⟩;refine Wsem.of ttok mixed ?_;exact⟨⟨([(nm,T2,c)],some (b',cap',zs)),by simp only[List.length_singleton];omega,fun b hb=>by rw[List.mem_singleton.1 hb];exact hbd,Nat.zero_lt_one,g1,by simpa using g2⟩,by simp,⟨rfl,rfl,rfl,svc (wrap_succ (k:=0) (by omega)),trivial⟩,trivial,rfl⟩
   | some q =>
    obtain⟨b0,cap,rest⟩:=q;obtain⟨x1,x2,x3⟩:=hx;have hfitB:0+cap*15<=(flR (zN L) rest).length:=by rw[zAN (qR L),zDZ,x3];omega
    refine Wsem.seqS (Wsem.block ?_);refine Wsem.seq ttok mixed ?_;refine⟨_,by omega,hrow,rfl,?_⟩;refine .inl ⟨_,hty,?_⟩;refine Wsem.seq ttok mixed ?_;refine .inl ⟨_,har5,?_⟩;refine⟨fun h5=>?_,fun h5=>?_⟩
    ·refine⟨_,by omega,hrow,rfl,?_⟩;refine .inl ⟨_,hmk,?_⟩;obtain⟨T2,hT2,hbd0⟩:∃T2,T2=T1/\(Gs T2/\T2.sz<=300):=⟨T1,rfl,hgT1⟩
     subst hT2;have hbd:BdT (nm,T2,c):=⟨hbd0.1,hbd0.2,.inl ⟨_,hmade⟩⟩
     refine Wsem.cut {vs:=[(0,.v (.sl (zBI l))),(1,sv n),(5,.v (.lit (.slice (some ⟨b0,0,none⟩) L.length cap))),(6,sv (L.length:Nat)),(7,.box 0 (eC c)),(8,.box 0 (eTy T2))],hp:=[(b0,.cells (flR (zN L) rest))]} ⟨⟨rfl,rfl,rfl,rfl,rfl,rfl,trivial⟩,trivial,rfl⟩ ?_;refine Wsem.regionTA (xN ttok).two ttok mixed [0,1,2,3,4,5,6,7,8,9,10,11,12,13,14,15] [false,false,false,false,false,false,false,false,false,false,false,false,false,false,true] (by kernel_rfl) ?_;refine .inl ⟨_,har7,?_⟩;refine⟨by decide,?_⟩;refine⟨by decide,?_⟩;refine⟨_,hnm0,hnm,rfl,?_⟩;refine⟨by simp,by simp;omega,qR [(nm,T2,c)],0,_,rfl,x2,hfitB,fun _ b' cap' zs g1 g2=>?_,fun hin=>?_⟩
     ·refine⟨by kernel_rfl,?_⟩;refine Wsem.of ttok mixed ?_;refine⟨⟨(L++[(nm,T2,c)],some (b',cap',zs)),by simp;omega,fun b hb=>(List.mem_append.1 hb).elim (hL b) (fun hb=>by rw[List.mem_singleton.1 hb];exact hbd),by simp,by simpa using g1,by simpa using g2⟩,by simp;omega,⟨rfl,rfl,?_,?_,trivial⟩,trivial,?_⟩
      ·show _=SV.v (.lit (.slice (some ⟨b',0,none⟩) (L++[(nm,T2,c)]).length cap'));exact congrArg (fun k:Nat=>SV.v (AV.lit (Value.slice (some ⟨b',0,none⟩) k cap'))) (by simp)
      ·show _=sv ((L++[(nm,T2,c)]).length:Nat);exact svc (by rw[wrap_succ (k:=L.length) (by omega)];simp)
      ·show [(b',HO.cells (((flR (zN L) rest).drop 0).take (L.length*15)++([eBd (nm,T2,c)].flatMap AV.cells++zs)))]=[(b',HO.cells (flR (zN (L++[(nm,T2,c)])) zs))];rw[List.drop_zero,zXB]
     ·refine⟨by kernel_rfl,?_⟩;refine Wsem.of ttok mixed ?_;have hin:L.length+1<=cap:=hin;refine⟨⟨(L++[(nm,T2,c)],some (b0,cap,rest.drop 15)),by simp;omega,fun b hb=>(List.mem_append.1 hb).elim (hL b) (fun hb=>by rw[List.mem_singleton.1 hb];exact hbd),by simp,by simpa using hin,by simp only[List.length_drop,x3,List.length_append,List.length_singleton];omega⟩,by simp;omega,⟨rfl,rfl,?_,?_,trivial⟩,trivial,?_⟩
      ·show _=SV.v (.lit (.slice (some ⟨b0,0,none⟩) (L++[(nm,T2,c)]).length cap));exact congrArg (fun k:Nat=>SV.v (AV.lit (Value.slice (some ⟨b0,0,none⟩) k cap))) (by simp)
      ·show _=sv ((L++[(nm,T2,c)]).length:Nat);exact svc (by rw[wrap_succ (k:=L.length) (by omega)];simp)
      ·show [(b0,HO.cells (setAt (flR (zN L) rest) (0+L.length*15) ([eBd (nm,T2,c)].flatMap AV.cells)))]=[(b0,HO.cells (flR (zN (L++[(nm,T2,c)])) (rest.drop 15)))];rw[zZH]
    ·obtain⟨T2,hT2,hbd0⟩:∃T2,T2=T/\(Gs T2/\T2.sz<=300):=⟨T,rfl,zQO hmade⟩
     subst hT2;have hbd:BdT (nm,T2,c):=⟨hbd0.1,hbd0.2,.inl ⟨_,hmade⟩⟩
     refine Wsem.cut {vs:=[(0,.v (.sl (zBI l))),(1,sv n),(5,.v (.lit (.slice (some ⟨b0,0,none⟩) L.length cap))),(6,sv (L.length:Nat)),(7,.box 0 (eC c)),(8,.box 0 (eTy T2))],hp:=[(b0,.cells (flR (zN L) rest))]} ⟨⟨rfl,rfl,rfl,rfl,rfl,rfl,trivial⟩,trivial,rfl⟩ ?_;refine Wsem.regionTA (xN ttok).two ttok mixed [0,1,2,3,4,5,6,7,8,9,10,11,12,13,14,15] [false,false,false,false,false,false,false,false,false,false,false,false,false,false,true] (by kernel_rfl) ?_;refine .inl ⟨_,har7,?_⟩;refine⟨by decide,?_⟩;refine⟨by decide,?_⟩;refine⟨_,hnm0,hnm,rfl,?_⟩;refine⟨by simp,by simp;omega,qR [(nm,T2,c)],0,_,rfl,x2,hfitB,fun _ b' cap' zs g1 g2=>?_,fun hin=>?_⟩
     ·refine⟨by kernel_rfl,?_⟩;refine Wsem.of ttok mixed ?_;refine⟨⟨(L++[(nm,T2,c)],some (b',cap',zs)),by simp;omega,fun b hb=>(List.mem_append.1 hb).elim (hL b) (fun hb=>by rw[List.mem_singleton.1 hb];exact hbd),by simp,by simpa using g1,by simpa using g2⟩,by simp;omega,⟨rfl,rfl,?_,?_,trivial⟩,trivial,?_⟩
      ·show _=SV.v (.lit (.slice (some ⟨b',0,none⟩) (L++[(nm,T2,c)]).length cap'));exact congrArg (fun k:Nat=>SV.v (AV.lit (Value.slice (some ⟨b',0,none⟩) k cap'))) (by simp)
      ·show _=sv ((L++[(nm,T2,c)]).length:Nat);exact svc (by rw[wrap_succ (k:=L.length) (by omega)];simp)
      ·show [(b',HO.cells (((flR (zN L) rest).drop 0).take (L.length*15)++([eBd (nm,T2,c)].flatMap AV.cells++zs)))]=[(b',HO.cells (flR (zN (L++[(nm,T2,c)])) zs))];rw[List.drop_zero,zXB]
     ·refine⟨by kernel_rfl,?_⟩;refine Wsem.of ttok mixed ?_;have hin:L.length+1<=cap:=hin;refine⟨⟨(L++[(nm,T2,c)],some (b0,cap,rest.drop 15)),by simp;omega,fun b hb=>(List.mem_append.1 hb).elim (hL b) (fun hb=>by rw[List.mem_singleton.1 hb];exact hbd),by simp,by simpa using hin,by simp only[List.length_drop,x3,List.length_append,List.length_singleton];omega⟩,by simp;omega,⟨rfl,rfl,?_,?_,trivial⟩,trivial,?_⟩
      ·show _=SV.v (.lit (.slice (some ⟨b0,0,none⟩) (L++[(nm,T2,c)]).length cap));exact congrArg (fun k:Nat=>SV.v (AV.lit (Value.slice (some ⟨b0,0,none⟩) k cap))) (by simp)
      ·show _=sv ((L++[(nm,T2,c)]).length:Nat);exact svc (by rw[wrap_succ (k:=L.length) (by omega)];simp)
      ·show [(b0,HO.cells (setAt (flR (zN L) rest) (0+L.length*15) ([eBd (nm,T2,c)].flatMap AV.cells)))]=[(b0,HO.cells (flR (zN (L++[(nm,T2,c)])) (rest.drop 15)))];rw[zZH]
  ·refine Wsem.cut _ ?_ out;cases x with
   | none=>exact⟨⟨rfl,.inr rfl,trivial⟩,trivial,rfl⟩
   | some q=>obtain⟨b0,cap,rest⟩:=q;exact⟨⟨rfl,rfl,trivial⟩,trivial,rfl⟩
 ·refine Wsem.cut _ ?_ out;cases x with
  | none=>exact⟨⟨rfl,.inr rfl,trivial⟩,trivial,rfl⟩
  | some q=>obtain⟨b0,cap,rest⟩:=q;exact⟨⟨rfl,rfl,trivial⟩,trivial,rfl⟩
theorem zLH {l:List (List Int)} {n:Int} (hl:l.length<9223372036854775808) (hr:∀r∈l,(∀x∈r,InR x)/\r.length<9223372036854775808) (hn:InR n):zC Tryz.prog 7 [.sl (zBI l),.lit (.int .i64 n)] (.sb true):=by
 refine CallsG.pure ?_ (post:=fun r o h=>r = .sb true/\o=0/\∃x L,h=hpB x L) (by
  rintro r o h ⟨rfl,rfl,x,L,rfl⟩;exact⟨.refl _,rfl⟩)
 refine zI (first:=[]) (cap:=[]) ttok mixed Tryz.func7 rfl (by rfl) rfl (Nat.le_of_ble_eq_true rfl) (by kernel_rfl) ?_;refine Wsem.seq ttok mixed ?_;refine Wsem.seq ttok mixed ?_;refine Wsem.cut _ ?_ (z2W hl hr hn);exact⟨⟨rfl,rfl,.inl rfl,trivial⟩,trivial,rfl⟩
end Go.Proofs.YtdmbahepaglcbaaGreatDoor
