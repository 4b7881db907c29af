/- Places of core: read and written. No condition. -/
import Derived.Test.YtgonkhaebmfgiaaGreatDoorG
import Derived.Test.YtgonkhaebmfgiaaGreatDoorFpM
set_option linter.unusedSimpArgs false
set_option linter.unusedVariables false
namespace Go.Proofs.YtgonkhaebmfgiaaGreatDoor
open Go Fp
set_option maxRecDepth 10000
set_option maxHeartbeats 16000000
set_option linter.unusedVariables false
deriving instance DecidableEq for Pp
deriving instance DecidableEq for Pn
theorem zI5 {x:Nd} {p q:Pp} {c d:Cr} (h:zX x p=some d):zX (zBC x p c) q=if p=q then some c else zX x q:=by
 cases p with
 | kid j =>
  have hj:=(List.getElem?_eq_some_iff.1 (show x.ks[j]? = some d from h)).1;cases q with
  | kid i =>
   show (x.ks.set j c)[i]? = _;rw[List.getElem?_set];by_cases hi:j=i
   ·subst hi;simp[hj]
   ·have:Pp.kid j≠Pp.kid i:=fun e=>hi (by injection e);simp[hi,this,zX]
  | bind i=>rfl
  | alt i=>rfl
 | bind j =>
  have h:(x.bs[j]?).map (·.2.2)=some d:=h;cases q with
  | bind i =>
   show ((x.bs.modify j _)[i]?).map _=_;rw[List.getElem?_modify];by_cases hi:j=i
   ·subst hi;cases hb:x.bs[j]? with
    | none=>rw[hb] at h;cases h
    | some b=>simp
   ·have:Pp.bind j≠Pp.bind i:=fun e=>hi (by injection e);simp[hi,this,zX]
  | kid i=>rfl
  | alt i=>rfl
 | alt j =>
  have h:(x.ls[j]?).map (·.2.2)=some d:=h;cases q with
  | alt i =>
   show ((x.ls.modify j _)[i]?).map _=_;rw[List.getElem?_modify];by_cases hi:j=i
   ·subst hi;cases hb:x.ls[j]? with
    | none=>rw[hb] at h;cases h
    | some b=>simp
   ·have:Pp.alt j≠Pp.alt i:=fun e=>hi (by injection e);simp[hi,this,zX]
  | kid i=>rfl
  | bind i=>rfl
theorem zGJ {x:Nd} {p:Pn} {q:Pp} {s:ByteArray}:zX (zE4 x p s) q=zX x q:=by
 cases p with
 | own=>cases q<;>rfl
 | bind j =>
  cases q with
  | bind i =>
   show ((x.bs.modify j _)[i]?).map _=(x.bs[i]?).map _;rw[List.getElem?_modify];by_cases hi:j=i
   ·subst hi;cases x.bs[j]?<;>simp
   ·simp[hi]
  | kid i=>rfl
  | alt i=>rfl
 | var j i =>
  cases q with
  | alt k =>
   show ((x.ls.modify j _)[k]?).map _=(x.ls[k]?).map _;rw[List.getElem?_modify];by_cases hi:j=k
   ·subst hi;cases x.ls[j]?<;>simp
   ·simp[hi]
  | kid i=>rfl
  | bind i=>rfl
theorem zUN {x:Nd} {p:Pp} {q:Pn} {c:Cr}:yI (zBC x p c) q=yI x q:=by
 cases p with
 | kid j=>cases q<;>rfl
 | bind j =>
  cases q with
  | own=>rfl
  | var k i=>rfl
  | bind i =>
   show ((x.bs.modify j _)[i]?).map _=(x.bs[i]?).map _;rw[List.getElem?_modify];by_cases hi:j=i
   ·subst hi;cases x.bs[j]?<;>simp
   ·simp[hi]
 | alt j =>
  cases q with
  | own=>rfl
  | bind i=>rfl
  | var k i =>
   show ((x.ls.modify j _)[k]?).bind _=(x.ls[k]?).bind _;rw[List.getElem?_modify];by_cases hi:j=k
   ·subst hi;cases x.ls[j]?<;>simp
   ·simp[hi]
theorem zC0 {x:Nd} {p q:Pn} {s t:ByteArray} (h:yI x p=some t):yI (zE4 x p s) q=if p=q then some s else yI x q:=by
 cases p with
 | own =>
  have h:(if x.f=5 then some x.s else none)=some t:=h;have h5:x.f=5:=by by_cases h5:x.f=5;exact h5;rw[if_neg h5] at h;cases h
  cases q with
  | own=>show (if x.f=5 then some s else none)=_;simp[h5]
  | bind i=>rfl
  | var k i=>rfl
 | bind j =>
  have h:(x.bs[j]?).map (·.1)=some t:=h;cases q with
  | bind i =>
   show ((x.bs.modify j _)[i]?).map _=_;rw[List.getElem?_modify];by_cases hi:j=i
   ·subst hi;cases hb:x.bs[j]? with
    | none=>rw[hb] at h;cases h
    | some b=>simp
   ·have:Pn.bind j≠Pn.bind i:=fun e=>hi (by injection e);simp[hi,this,yI]
  | own=>rfl
  | var k i=>rfl
 | var j i =>
  have h:(x.ls[j]?).bind (·.2.1[i]?)=some t:=h;cases q with
  | var k m =>
   show ((x.ls.modify j _)[k]?).bind _=_;rw[List.getElem?_modify];by_cases hj:j=k
   ·subst hj;cases hb:x.ls[j]? with
    | none=>rw[hb] at h;cases h
    | some b =>
     rw[hb] at h;have h:b.2.1[i]? = some t:=h;have hi:=(List.getElem?_eq_some_iff.1 h).1;simp only[if_true,Option.map_some,Option.bind_some,List.getElem?_set,hi];by_cases hm:i=m
     ·subst hm;simp[hi]
     ·have:Pn.var j i≠Pn.var j m:=fun e=>hm (by injection e);simp[hm,this,yI,hb]
   ·have:Pn.var j i≠Pn.var k m:=fun e=>hj (by injection e);simp[hj,this,yI]
  | own=>rfl
  | bind i=>rfl
def updP (φ:Cr->Cr):List Pp->Nd->Nd
 | [],x=>x
 | p::ps,x=>updP φ ps (match zX x p with|some d=>zBC x p (φ d)|none=>x)
theorem zHL {φ:Cr->Cr} {p:Pp}:∀{ps:List Pp} {x:Nd},updP φ (ps++[p]) x=match zX (updP φ ps x) p with|some d=>zBC (updP φ ps x) p (φ d)|none=>updP φ ps x
 | [],x=>rfl
 | q::ps,x=>zHL (ps:=ps)
theorem zBZ {φ:Cr->Cr} {q:Pp}:∀{ps:List Pp} {x:Nd},q∉ps->zX (updP φ ps x) q=zX x q
 | [],x,_=>rfl
 | p::ps,x,h=>by
  simp only[List.mem_cons,not_or] at h;show zX (updP φ ps _) q=_;rw[zBZ h.2];cases hp:zX x p with
  | none=>rfl
  | some d=>rw[zI5 hp,if_neg (Ne.symm h.1)]
theorem zIC {φ:Cr->Cr} {q:Pp} {d:Cr}:∀{ps:List Pp} {x:Nd},ps.Nodup->q∈ps->zX x q=some d->zX (updP φ ps x) q=some (φ d)
 | p::ps,x,hn,h,hd=>by
  rw[List.nodup_cons] at hn;show zX (updP φ ps _) q=_;rcases List.mem_cons.1 h with rfl|h
  ·rw[zBZ hn.1,hd];simp only;rw[zI5 hd,if_pos rfl]
  ·have hne:p≠q:=fun e=>hn.1 (e ▸ h);refine zIC hn.2 h ?_;cases hp:zX x p with
   | none=>exact hd
   | some d'=>simp only;rw[zI5 hp,if_neg hne];exact hd
theorem xA {φ:Cr->Cr} {q:Pn}:∀{ps:List Pp} {x:Nd},yI (updP φ ps x) q=yI x q
 | [],x=>rfl
 | p::ps,x=>by
  show yI (updP φ ps _) q=_;rw[xA];cases hp:zX x p with
  | none=>rfl
  | some d=>exact zUN
theorem zII {ad:Ad} {x:Nd} (hok:AdOk ad x) {p:Pn} {s:ByteArray} (hs:yI x p=some s):∃(i:Nat) (l:List AV),(HP ad x)[i]? = some ((adN ad p).1,HO.cells l)/\(adN ad p).2+1<=l.length/\l[(adN ad p).2]? = some (.lit (.string s)) /\
  ∀s',(HP ad x).set i ((adN ad p).1,HO.cells (setAt l (adN ad p).2 [.lit (.string s')]))=HP ad (zE4 x p s')/\AdOk ad (zE4 x p s'):=by
 cases p with
 | own =>
  have hs:(if x.f=5 then some x.s else none)=some s:=hs;have h5:x.f=5:=by by_cases h5:x.f=5;exact h5;rw[if_neg h5] at hs;cases hs
  rw[if_pos h5] at hs;injection hs with hs;subst hs
  refine⟨(hM ad x).length,yN ad x,?_,by show 2+1<=10;decide,rfl,fun s'=>⟨?_,⟨hok.k,hok.b,hok.a,hok.len,hok.vs⟩⟩⟩
  ·show (hM ad x++[_])[_]? = _;simp[adN]
  ·show (hM ad x++[(ad.b0,HO.cells (yN ad x))]).set (hM ad x).length _=hM ad x++_;rw[jK];rfl
 | bind j =>
  have hs:(x.bs[j]?).map (·.1)=some s:=hs;cases hb:x.bs[j]? with
  | none=>rw[hb] at hs;cases hs
  | some b =>
   rw[hb] at hs;simp at hs;subst hs;have hj:=(List.getElem?_eq_some_iff.1 hb).1;have hbk:∀l,blk ad.b x.bs.length l=[(ad.b.no,HO.cells l)]:=fun l=>jR hok.b (by omega);have hjc:j<(yM x.bs).length:=by simp[yM];exact hj
   have hx:(yM x.bs)[j]=eBd b:=by
    have:=zO4 hj;rw[List.getElem?_eq_getElem hjc] at this;rw[List.getElem?_eq_getElem hj] at hb;injection hb with hb
    rw[hb] at this;exact Option.some.inj this
   have hf:=jT (jZ x.bs) ad.b.z hjc 0 1 (by decide);have hr:=zCL (jZ x.bs) ad.b.z hjc 0 (by decide);rw[hx] at hr;refine⟨(blk ad.k x.ks.length (flR (eCs x.ks) ad.k.z)).length,flR (yM x.bs) ad.b.z,?_,hf,hr,fun s'=>⟨?_,?_⟩⟩
   ·unfold HP hM;rw[hbk,List.append_assoc];simp[adN]
   ·have hm:zE4 x (.bind j) s'={x with bs:=x.bs.set j (s',b.2.1,b.2.2)}:=by show ({x with bs:=x.bs.modify j _}:Nd)=_;rw[yV hb]
    rw[hm];unfold HP hM;have e1:=zBU (jZ x.bs) ad.b.z hjc 0 [.lit (.string s')] (Nat.le_of_ble_eq_true rfl);rw[hx] at e1;have e2:yN ad {x with bs:=x.bs.set j (s',b.2.1,b.2.2)} = yN ad x:=by simp[yN]
    rw[e2];simp only[List.length_set];rw[hbk,hbk];simp only[List.append_assoc,List.cons_append,List.nil_append,adN];rw[jK];rw[Nat.add_zero] at e1;rw[e1]
    congr 4
    rw[yM,yM,zCZ];rfl
   ·have hm:zE4 x (.bind j) s'={x with bs:=x.bs.set j (s',b.2.1,b.2.2)}:=by show ({x with bs:=x.bs.modify j _}:Nd)=_;rw[yV hb]
    rw[hm];exact⟨hok.k,by simpa using hok.b,hok.a,hok.len,hok.vs⟩
 | var j i =>
  have hs:(x.ls[j]?).bind (·.2.1[i]?)=some s:=hs;cases hb:x.ls[j]? with
  | none=>rw[hb] at hs;cases hs
  | some b =>
   rw[hb] at hs;have hs:b.2.1[i]? = some s:=hs;have hi:=(List.getElem?_eq_some_iff.1 hs).1;have hj:=(List.getElem?_eq_some_iff.1 hb).1;have hvl:j<ad.vs.length:=by rw[hok.len];exact hj
   have hv:=List.getElem?_eq_getElem hvl;have hvok:=hok.vs j b _ hb hv;have hno:adN ad (.var j i)=(ad.vs[j].no,i):=by simp[adN,hv]
   have hbl:∀l,blk ad.vs[j] b.2.1.length l=[(ad.vs[j].no,HO.cells l)]:=fun l=>jR hvok (by omega);have hjc:i<(eSs b.2.1).length:=by simp[eSs];exact hi
   have hx:(eSs b.2.1)[i] = .lit (.string s):=by
    rw[List.getElem?_eq_getElem hi] at hs;injection hs with hs
    simp[eSs,hs]
   have hf:=jT (xU b.2.1) ad.vs[j].z hjc 0 1 (by decide);have hr:=zCL (xU b.2.1) ad.vs[j].z hjc 0 (by decide);rw[hx] at hr;have hset:∀b':Alg,hV (x.ls.set j b') ad.vs=hV (x.ls.take j) (ad.vs.take j)++(blk ad.vs[j] b'.2.1.length (flR (eSs b'.2.1) ad.vs[j].z)++hV (x.ls.drop (j+1)) (ad.vs.drop (j+1))):=fun b'=>by
    unfold hV;have e1:x.ls.set j b'=x.ls.take j++b'::x.ls.drop (j+1):=by rw[List.set_eq_take_append_cons_drop,if_pos hj]
    have e2:ad.vs=ad.vs.take j++ad.vs[j]::ad.vs.drop (j+1):=by rw[<-List.drop_eq_getElem_cons hvl,List.take_append_drop]
    rw[e1]
    conv=>lhs;rw[e2]
    rw[List.zipWith_append (by simp;omega)];simp only[List.zipWith_cons_cons,List.flatten_append,List.flatten_cons]
   have hV0:hV x.ls ad.vs=hV (x.ls.take j) (ad.vs.take j)++((ad.vs[j].no,HO.cells (flR (eSs b.2.1) ad.vs[j].z))::hV (x.ls.drop (j+1)) (ad.vs.drop (j+1))):=by
    have:=hset b;rw[zBN hb,hbl] at this;exact this
   obtain⟨pre,hpre⟩:∃pre,pre=blk ad.k x.ks.length (flR (eCs x.ks) ad.k.z)++(blk ad.b x.bs.length (flR (yM x.bs) ad.b.z)++(blk ad.a x.ls.length (flR (xK x.ls ad.vs) ad.a.z)++hV (x.ls.take j) (ad.vs.take j))):=⟨_,rfl⟩
   have hHP:HP ad x=pre++((ad.vs[j].no,HO.cells (flR (eSs b.2.1) ad.vs[j].z))::(hV (x.ls.drop (j+1)) (ad.vs.drop (j+1))++[(ad.b0,HO.cells (yN ad x))])):=by
    unfold HP hM;rw[hV0,hpre];simp only[List.append_assoc,List.cons_append]
   rw[hno];refine⟨pre.length,flR (eSs b.2.1) ad.vs[j].z,by rw[hHP,zZ9],by omega,by rw[Nat.mul_one,Nat.add_zero] at hr;exact hr,fun s'=>?_⟩;have hm:zE4 x (.var j i) s'={x with ls:=x.ls.set j (b.1,b.2.1.set i s',b.2.2)}:=by show ({x with ls:=x.ls.modify j _}:Nd)=_;rw[yV hb]
   rw[hm];have e1:setAt (flR (eSs b.2.1) ad.vs[j].z) (i*1) [.lit (.string s')]=_:=zLH (xU b.2.1) ad.vs[j].z hjc (.lit (.string s')) rfl;rw[Nat.mul_one] at e1;have e3:xK (x.ls.set j (b.1,b.2.1.set i s',b.2.2)) ad.vs=xK x.ls ad.vs:=by
    unfold xK;rw[zIF _ _ _ _ _ _ hv];refine zBN ?_;rw[List.getElem?_zipWith,hb,hv];simp[zO6]
   constructor
   ·rw[hHP,jK,e1];unfold HP hM;have e2:yN ad {x with ls:=x.ls.set j (b.1,b.2.1.set i s',b.2.2)} = yN ad x:=by simp[yN]
    have hbl2:∀l,blk ad.vs[j] (b.2.1.set i s').length l=[(ad.vs[j].no,HO.cells l)]:=fun l=>by rw[List.length_set];exact hbl l
    rw[e2,e3,hset,hpre,hbl2];have e4:(eSs b.2.1).set i (.lit (.string s'))=eSs (b.2.1.set i s'):=by unfold eSs;rw[zCZ]
    rw[e4];simp only[List.length_set,List.append_assoc,List.cons_append,List.nil_append]
   ·refine⟨hok.k,hok.b,by simpa using hok.a,by simpa using hok.len,fun k a v ha hv2=>?_⟩;simp only[List.getElem?_set] at ha;by_cases hk:j=k
    ·subst hk;rw[if_pos rfl,if_pos hj] at ha;injection ha with ha;subst ha
     simpa using hok.vs j b v hb hv2
    ·rw[if_neg hk] at ha;exact hok.vs k a v ha hv2
abbrev str (s:ByteArray):AV := .lit (.string s)
theorem AdOk.updP {ad:Ad} {φ:Cr->Cr}:∀{ps:List Pp} {x:Nd},AdOk ad x->AdOk ad (updP φ ps x)
 | [],x,h=>h
 | p::ps,x,h=>by
  show AdOk ad (Proofs.YtgonkhaebmfgiaaGreatDoor.updP φ ps _);refine AdOk.updP ?_;cases hp:zX x p with
  | none=>exact h
  | some d=>obtain⟨_,_,_,_,_,r⟩:=zA2 h hp;exact (r _).2
theorem zSK {ad:Ad} {x:Nd} (hok:AdOk ad x) {g:List Pn×List Pp} (hg:g.2.Nodup) (hl:g.2.length<=1000000) (y:ByteArray) (b:Cr) (φ:Cr->Cr) (hin:∀p∈g.2,∃d,zX x p=some d/\zF Tryz.prog y8 [eC d,str y,eC b] (eC (φ d))) :
  CallsG Tryz.prog (fnv 104) (HP ad x) [str y,eC b,.ptr (eGp ad g).cells] [] fun r o h=>o=0/\h=HP ad (updP φ g.2 x):=by
 refine zM (first:=[]) (cap:=[]) ttok mixed Tryz.func104 rfl (by rfl) rfl (Nat.le_of_ble_eq_true rfl) (by kernel_rfl) ?_;refine Wsem.of ttok mixed ?_;refine⟨{j:Nat // j<=g.2.length},fun j=>{vs:=[(0,.v (str y)),(2,.v (.ptr (eGp ad g).cells)),(4,.box 0 (eC b)),(8,.v (.sl (g.2.map (ptP ad)))),(9,sv (g.2.length:Nat)),(10,sv (j.1:Nat))],hp:=HP ad (updP φ (g.2.take j.1) x)},
  fun j=>g.2.length-j.1,⟨0,Nat.zero_le _⟩,⟨⟨rfl,rfl,rfl,rfl,?_,rfl,trivial⟩,trivial,rfl⟩,?_⟩
 ·show sv _=sv _;simp
 rintro⟨j,hjj⟩;refine⟨fun h2=>?_,fun h2=>?_⟩
 ·have h2:j<g.2.length:=by have h:=of_decide_eq_true h2;simp only at h;omega
  have hp:=List.getElem?_eq_getElem h2;have hnin:g.2[j]∉g.2.take j:=by
   have:=hg;rw[<-List.take_append_drop j g.2,List.drop_eq_getElem_cons h2] at this;have h3:=(List.nodup_append.1 this).2.2;exact fun hm=>h3 _ hm _ List.mem_cons_self rfl
  obtain⟨d,hd,hcall⟩:=hin _ (List.getElem_mem h2);have hd2:zX (updP φ (g.2.take j) x) g.2[j]=some d:=by rw[zBZ hnin];exact hd
  have hsn:updP φ (g.2.take (j+1)) x=zBC (updP φ (g.2.take j) x) g.2[j] (φ d):=by
   rw[List.take_succ_eq_append_getElem h2,zHL,hd2]
  generalize g.2[j]=p at hp hd2 hsn;obtain⟨i,l,r1,r2,r3,r4⟩:=zA2 (hok.updP (φ:=φ) (ps:=g.2.take j)) hd2;refine⟨_,by omega,by show (g.2.map (ptP ad))[(j:Int).toNat]? = _;rw[show (j:Int).toNat=j from rfl,List.getElem?_map,hp];rfl,rfl,?_⟩;refine⟨i,l,r1,r2,?_⟩;refine .inr (.inl ⟨eC (φ d),by rw[r3];exact hcall,?_⟩);refine⟨rfl,i,l,r1,r2,?_⟩;refine⟨by kernel_rfl,?_⟩;refine⟨⟨j+1,h2⟩,by simp;omega,⟨rfl,rfl,rfl,rfl,rfl,svc (wrap_succ (k:=j) (by omega)),trivial⟩,trivial,?_⟩;show (HP ad (updP φ (g.2.take j) x)).set i ((adP ad p).1,HO.cells (setAt l (adP ad p).2 (eC (φ d)).cells))=HP ad (updP φ (g.2.take (j+1)) x);rw[(r4 _).1,hsn]
 ·have h:j=g.2.length:=by have h:=of_decide_eq_false h2;simp only at h;omega
  subst h;refine⟨rfl,?_⟩;show HP ad (updP φ (g.2.take g.2.length) x)=_;rw[List.take_length]
theorem zFW (s:ByteArray):zF Tryz.prog zRB [str s] (eC (vr s)):=by
 refine zD ttok mixed Tryz.func27 rfl (by rfl) (Nat.le_of_ble_eq_true rfl) (by kernel_rfl) ?_;exact rfl
noncomputable def renL (ren:ByteArray->ByteArray->Cr->Cr) (far:List ByteArray) (ps:List Pp):List Pn->List ByteArray->Nd->Nd
 | [],_,x=>x
 | q::r,tk,x=>match yI x q with
  | some n=>if n∈far then renL ren far ps r (tk++[lett (ff tk)]) (zE4 (updP (ren n (lett (ff tk))) ps x) q (lett (ff tk))) else renL ren far ps r tk x
  | none=>renL ren far ps r tk x
structure zYC (Q:Cr->Prop) (y:ByteArray) (b:Cr) (ren:ByteArray->ByteArray->Cr->Cr) (fin:Cr->Cr):Prop where
 free:∀d,Q d->zF Tryz.prog qI [eC d] (.sl (eSs d.fv))
 freeB:zF Tryz.prog qI [eC b] (.sl (eSs b.fv))
 ren:∀d n z,Q d->zF Tryz.prog y8 [eC d,str n,eC (vr z)] (eC (ren n z d))/\Q (ren n z d)
 fin:∀d,Q d->zF Tryz.prog y8 [eC d,str y,eC b] (eC (fin d))
abbrev sn8 (q:Code):Code:=sn4 (sn4 q)
theorem zUJ {ad:Ad} {g:List Pn×List Pp} (hgp:g.2.Nodup) (hgn:g.1.Nodup) (hl1:g.1.length<=1000) (hl:g.2.length<=1000000) {Q:Cr->Prop} {y:ByteArray} {b:Cr} {ren:ByteArray->ByteArray->Cr->Cr} {fin:Cr->Cr} (hq:zYC Q y b ren fin)
  {x:Nd} (hok:AdOk ad x) (hP:∀p∈g.2,∃d,zX x p=some d/\Q d) (hN:∀q∈g.1,∃n,yI x q=some n) (tk:List ByteArray) (htk:tk.length+g.1.length<2500) (hfar:b.fv.length<1000000) (X:Nd) (hX:X=updP fin g.2 (renL ren b.fv g.2 g.1 tk x)) :
  Wsem Tryz.prog (sn8 (bodyC Tryz.f58)) (mkC {vs:=[(1,.v (str y)),(3,.v (.ptr (eGp ad g).cells)),(5,.box 0 (eC b)),(6,.v (.sl (eSs tk))),(11,.v (.sl (eSs b.fv))),(12,.v (.fn (.func 104) [] [.ptr (eGp ad g).cells]))],ow:=[(6,0,2)],hp:=HP ad x})
   (fun c2=>yP tt Tryz.f58.results.toList (fun r o h=>o=0/\h=HP ad X) (den c2)) (fun _ _=>False) (fun c2=>yP tt Tryz.f58.results.toList (fun r o h=>o=0/\h=HP ad X) (den c2)):=by
 refine Wsem.seqS (Wsem.seqS (Wsem.of ttok mixed ?_));refine Wsem.block (Wsem.loop (α:={p:Nat×List ByteArray×Nd // p.1<=g.1.length/\AdOk ad p.2.2/\p.2.1.length<=tk.length+p.1/\renL ren b.fv g.2 (g.1.drop p.1) p.2.1 p.2.2=renL ren b.fv g.2 g.1 tk x/\(∀q∈g.2,∃d,zX p.2.2 q=some d/\Q d)/\∀q∈g.1.drop p.1,∃n,yI p.2.2 q=some n})
  (fun p=>{vs:=[(1,.v (str y)),(3,.v (.ptr (eGp ad g).cells)),(5,.box 0 (eC b)),(6,.v (.sl (eSs p.1.2.1))),(11,.v (.sl (eSs b.fv))),(12,.v (.fn (.func 104) [] [.ptr (eGp ad g).cells])),(60,.v (.sl (g.1.map (ptN ad)))),(61,sv (g.1.length:Nat)),(62,sv (p.1.1:Nat))],ow:=[(6,0,2)],hp:=HP ad p.1.2.2})
  (fun p=>g.1.length-p.1.1) ⟨(0,tk,x),Nat.zero_le _,hok,by simp,rfl,hP,hN⟩ ⟨⟨rfl,rfl,rfl,rfl,rfl,rfl,rfl,?_,rfl,trivial⟩,⟨rfl,trivial⟩,rfl⟩ ?_)
 ·show sv _=sv _;simp
 rintro⟨⟨j,tj,xj⟩,hjj,hoj,htj,hrj,hPj,hNj⟩;simp only at hjj hoj htj hrj hPj hNj;refine Wsem.seq ttok mixed ?_;refine Wsem.seq ttok mixed ?_;refine⟨fun h0=>?_,fun h0=>?_⟩
 ·have h:j<g.1.length:=by have h:=of_decide_eq_true h0;simp only at h;omega
  clear h0;have hp:=List.getElem?_eq_getElem h;have hdr:=List.drop_eq_getElem_cons h;obtain⟨n,hn⟩:=hNj g.1[j] (by rw[hdr];exact List.mem_cons_self);have hne:∀q∈g.1.drop (j+1),g.1[j]≠q:=by
   have:=hgn;rw[<-List.take_append_drop j g.1,hdr] at this;have h3:=(List.nodup_cons.1 (List.nodup_append.1 this).2.1).1;exact fun q hq e=>h3 (e ▸ hq)
  rw[hdr] at hrj;have hNd:∀q∈g.1.drop (j+1),∃n,yI xj q=some n:=fun q hq=>hNj q (by rw[hdr];exact List.mem_cons_of_mem _ hq);simp only[renL,hn] at hrj;generalize g.1[j]=pn at hp hn hne hrj;obtain⟨i,l,r1,r2,r3,r4⟩:=zII hoj hn;refine Wsem.seqS (Wsem.block ?_);refine Wsem.seq ttok mixed ?_;refine⟨_,by omega,by show (g.1.map (ptN ad))[(j:Int).toNat]? = _;rw[show (j:Int).toNat=j from rfl,List.getElem?_map,hp];rfl,rfl,?_⟩;refine Wsem.seq ttok mixed ?_;refine⟨i,l,_,r1,r3,?_⟩;refine .inl ⟨_,yS (l:=b.fv) (s:=n) (by omega),?_⟩;refine Wsem.cond rfl (fun hm=>?_) (fun hm=>?_)
  ·have hm:n∈b.fv:=memb_iff.1 hm;rw[if_pos hm] at hrj;have hff:=zE5 tj;obtain⟨z,hz⟩:∃z,z=lett (ff tj):=⟨_,rfl⟩
   have hfr:=zOZ tj (by omega) (by omega);rw[<-hz] at hfr hrj;have hput:CallsG Tryz.prog (fnv 104) (HP ad xj) [str n,eC (vr z),.ptr (eGp ad g).cells] [] fun r o h=>o=0/\h=HP ad (updP (ren n z) g.2 xj):=zSK hoj hgp hl n (vr z) (ren n z) fun p hp=>by
    obtain⟨d,h1,h2⟩:=hPj p hp;exact⟨d,h1,(hq.ren d n z h2).1⟩
   have hoj2:AdOk ad (updP (ren n z) g.2 xj):=hoj.updP;have hn2:yI (updP (ren n z) g.2 xj) pn=some n:=by rw[xA];exact hn
   obtain⟨i2,l2,s1,s2,s3,s4⟩:=zII hoj2 hn2;refine Wsem.seq ttok mixed ?_;refine .inl ⟨_,hfr,?_⟩;refine Wsem.seq ttok mixed ?_;refine⟨by show (eSs tj).length+1<=_;simp[eSs];omega,xU _,xU [z],?_⟩;refine Wsem.seqS (Wsem.regionTA zHT ttok mixed [0,1,2,3,4,5,6] [false,false,false,false,false,false,true] (by kernel_rfl) ?_);refine⟨i,l,_,r1,r3,?_⟩;refine .inl ⟨_,zFW z,?_⟩;refine⟨List.range (HP ad xj).length,HP ad xj,_,xX _,List.nodup_range,hput,⟨.nil,_,_,rfl,rfl⟩,?_⟩;rintro r o h1 ⟨rfl,rfl⟩;refine⟨by kernel_rfl,?_⟩;have hh:zT (List.range (HP ad xj).length) (HP ad xj)++HP ad (updP (ren n z) g.2 xj)=HP ad (updP (ren n z) g.2 xj):=by rw[qF,List.nil_append]
   refine Wsem.of ttok mixed ?_;refine⟨rfl,i2,l2,by show (zT (List.range (HP ad xj).length) (HP ad xj)++HP ad (updP (ren n z) g.2 xj))[i2]? = _;rw[hh];exact s1,s2,?_⟩;refine Wsem.of ttok mixed ?_;refine⟨⟨(j+1,tj++[z],zE4 (updP (ren n z) g.2 xj) pn z),h,(s4 z).2,by simp;omega,hrj,fun q hq2=>?_,fun q hq2=>?_⟩,by show g.1.length-(j+1)<g.1.length-j;omega,⟨rfl,rfl,rfl,?_,rfl,rfl,rfl,rfl,svc (wrap_succ (k:=j) (by omega)),trivial⟩,⟨rfl,trivial⟩,?_⟩
   ·obtain⟨d,h1,h2⟩:=hPj q hq2;exact⟨ren n z d,by simp only;rw[zGJ];exact zIC hgp hq2 h1,(hq.ren d n z h2).2⟩
   ·obtain⟨n2,h2⟩:=hNd q hq2;exact⟨n2,by simp only;rw[zC0 hn2,if_neg (hne q hq2),xA];exact h2⟩
   ·show SV.v (.sl (eSs tj++[str z]))=SV.v (.sl (eSs (tj++[z])));simp[eSs]
   ·show (zT (List.range (HP ad xj).length) (HP ad xj)++HP ad (updP (ren n z) g.2 xj)).set i2 ((adN ad pn).1,HO.cells (setAt l2 (adN ad pn).2 [str z]))=_;rw[hh];exact (s4 z).1
  ·have hm:n∉b.fv:=fun h=>by rw[memb_iff.2 h] at hm;cases hm
   rw[if_neg hm] at hrj;refine Wsem.of ttok mixed ?_;refine Wsem.of ttok mixed ?_;refine⟨⟨(j+1,tj,xj),h,hoj,by simp only;omega,hrj,hPj,hNd⟩,by show g.1.length-(j+1)<g.1.length-j;omega,⟨rfl,rfl,rfl,rfl,rfl,rfl,rfl,rfl,svc (wrap_succ (k:=j) (by omega)),trivial⟩,⟨rfl,trivial⟩,rfl⟩
 ·have h:j=g.1.length:=by have h:=of_decide_eq_false h0;simp only at h;omega
  subst h;rw[List.drop_length] at hrj;have hrj:xj=renL ren b.fv g.2 g.1 tk x:=hrj;rw[<-hrj] at hX;refine Wsem.of ttok mixed ?_;refine .inr (.inr ⟨List.range (HP ad xj).length,HP ad xj,_,xX _,List.nodup_range,zSK hoj hgp hl y b fin (fun p hp=>?_),?_⟩)
  ·obtain⟨d,h1,h2⟩:=hPj p hp;exact⟨d,h1,hq.fin d h2⟩
  rintro r o h ⟨rfl,rfl⟩;refine⟨rfl,?_⟩;show zT (List.range _) (HP ad xj)++HP ad (updP fin g.2 xj)=_;rw[qF,List.nil_append,hX]
def fvP (x:Nd) (p:Pp):List ByteArray:=match zX x p with|some d=>d.fv|none=>[]
def nmN (x:Nd) (q:Pn):ByteArray:=match yI x q with|some n=>n|none => .empty
abbrev frX (x:Nd) (ps:List Pp):List ByteArray:=ps.flatMap (fvP x)
abbrev nsX (x:Nd) (qs:List Pn):List ByteArray:=qs.map (nmN x)
noncomputable def putX (ren:ByteArray->ByteArray->Cr->Cr) (fin:Cr->Cr) (far:List ByteArray) (y:ByteArray) (g:List Pn×List Pp) (x:Nd):Nd :=
 if y∈frX x g.2/\y∉nsX x g.1 then updP fin g.2 (renL ren far g.2 g.1 (frX x g.2++nsX x g.1++far) x) else x
theorem z2U {ad:Ad} {g:List Pn×List Pp} (hgp:g.2.Nodup) (hgn:g.1.Nodup) (hl1:g.1.length<=1000) (hl:g.2.length<=1000000) {Q:Cr->Prop} {y:ByteArray} {b:Cr} {ren:ByteArray->ByteArray->Cr->Cr} {fin:Cr->Cr} (hq:zYC Q y b ren fin)
  {x:Nd} (hok:AdOk ad x) (hP:∀p∈g.2,∃d,zX x p=some d/\Q d) (hN:∀q∈g.1,∃n,yI x q=some n) (hsz:(frX x g.2).length+2*g.1.length+b.fv.length<2500) :
  CallsG Tryz.prog (fnv 58) (HP ad x) [eGp ad g,str y,eC b] [] fun r o h=>o=0/\h=HP ad (putX ren fin b.fv y g x):=by
 refine zM (first:=[]) (cap:=[]) ttok mixed Tryz.func58 rfl (by rfl) rfl (Nat.le_of_ble_eq_true rfl) (by kernel_rfl) ?_;refine Wsem.seq ttok mixed ?_;refine Wsem.seq ttok mixed ?_;refine Wsem.seq ttok mixed ?_;refine⟨{j:Nat // j<=g.2.length},fun j=>{vs:=[(1,.v (str y)),(3,.box 0 (eGp ad g)),(5,.box 0 (eC b)),(6,.v (.sl (eSs (frX x (g.2.take j.1))))),(17,.v (.sl (g.2.map (ptP ad)))),(18,sv (g.2.length:Nat)),(19,sv (j.1:Nat))],ow:=[(6,0,2)],hp:=HP ad x},
  fun j=>g.2.length-j.1,⟨0,Nat.zero_le _⟩,⟨⟨rfl,rfl,rfl,rfl,rfl,?_,rfl,trivial⟩,⟨trivial,trivial⟩,rfl⟩,?_⟩
 ·show sv _=sv _;simp
 rintro⟨j,hjj⟩;refine⟨fun h=>?_,fun h=>?_⟩
 ·have h:j<g.2.length:=by have h:=of_decide_eq_true h;simp only at h;omega
  have hp:=List.getElem?_eq_getElem h;obtain⟨d,hd,hQ⟩:=hP _ (List.getElem_mem h);have hsn:frX x (g.2.take (j+1))=frX x (g.2.take j)++d.fv:=by
   have hfv:fvP x g.2[j]=d.fv:=by unfold fvP;rw[hd]
   rw[List.take_succ_eq_append_getElem h];unfold frX;rw[List.flatMap_append];simp only[List.flatMap_cons,List.flatMap_nil,List.append_nil,hfv]
  have hle:(frX x (g.2.take (j+1))).length<=(frX x g.2).length:=by
   have:frX x g.2=frX x (g.2.take (j+1))++frX x (g.2.drop (j+1)):=by
    unfold frX;rw[<-List.flatMap_append,List.take_append_drop]
   rw[this,List.length_append];omega
  rw[hsn,List.length_append] at hle;generalize g.2[j]=p at hp hd;obtain⟨i,l,r1,r2,r3,r4⟩:=zA2 hok hd;refine⟨_,by omega,by show (g.2.map (ptP ad))[(j:Int).toNat]? = _;rw[show (j:Int).toNat=j from rfl,List.getElem?_map,hp];rfl,rfl,?_⟩;refine⟨i,l,r1,r2,?_⟩;refine .inr (.inl ⟨.sl (eSs d.fv),by rw[r3];exact hq.free d hQ,?_⟩);refine⟨by show (eSs (frX x (g.2.take j))).length+(eSs d.fv).length<=_;simp only[eSs,List.length_map];omega,xU _,xU _,?_⟩;refine⟨⟨j+1,h⟩,by simp;omega,⟨rfl,rfl,rfl,?_,rfl,rfl,svc (wrap_succ (k:=j) (by omega)),trivial⟩,⟨rfl,trivial⟩,rfl⟩;show SV.v (.sl (eSs (frX x (g.2.take j))++eSs d.fv))=SV.v (.sl (eSs (frX x (g.2.take (j+1)))));rw[hsn];simp[eSs]
 ·have h:j=g.2.length:=by have h:=of_decide_eq_false h;simp only at h;omega
  subst h;obtain⟨fr,hfr⟩:∃fr,fr=frX x g.2:=⟨_,rfl⟩
  refine Wsem.cut {vs:=[(1,.v (str y)),(3,.box 0 (eGp ad g)),(5,.box 0 (eC b)),(6,.v (.sl (eSs fr)))],ow:=[(6,0,2)],hp:=HP ad x} ⟨⟨rfl,rfl,rfl,by show SV.v (.sl (eSs (frX x (g.2.take g.2.length))))=_;rw[List.take_length,hfr],trivial⟩,⟨rfl,trivial⟩,rfl⟩ ?_;rw[<-hfr] at hsz;refine Wsem.seq ttok mixed ?_;refine .inl ⟨_,yS (l:=fr) (s:=y) (by omega),?_⟩;refine⟨fun h=>?_,fun h=>?_⟩
  ·have h:y∉fr:=fun hm=>by rw[memb_iff.2 hm] at h;cases h
   refine⟨rfl,?_⟩;show HP ad x=_;unfold putX;rw[<-hfr,if_neg (fun e=>h e.1)]
  ·have hy:y∈fr:=memb_iff.1 (by cases hm:memb y fr with|true=>rfl|false=>rw[hm] at h;cases h);refine Wsem.seq ttok mixed ?_;refine⟨{j:Nat // j<=g.1.length/\y∉nsX x (g.1.take j)},fun j=>{vs:=[(1,.v (str y)),(3,.box 0 (eGp ad g)),(5,.box 0 (eC b)),(6,.v (.sl (eSs (fr++nsX x (g.1.take j.1))))),(35,.v (.sl (g.1.map (ptN ad)))),(36,sv (g.1.length:Nat)),(37,sv (j.1:Nat))],ow:=[(6,0,2)],hp:=HP ad x},
    fun j=>g.1.length-j.1,⟨0,Nat.zero_le _,by simp⟩,⟨⟨rfl,rfl,rfl,?_,rfl,?_,rfl,trivial⟩,⟨rfl,trivial⟩,rfl⟩,?_⟩
   ·show SV.v (.sl (eSs fr))=SV.v (.sl (eSs (fr++[])));rw[List.append_nil]
   ·show sv _=sv _;simp
   rintro⟨j,hjj,hyj⟩;refine⟨fun h2=>?_,fun h2=>?_⟩
   ·have h2:j<g.1.length:=by have h:=of_decide_eq_true h2;simp only at h;omega
    have hp:=List.getElem?_eq_getElem h2;obtain⟨n,hn⟩:=hN _ (List.getElem_mem h2);have hsn:nsX x (g.1.take (j+1))=nsX x (g.1.take j)++[n]:=by
     have hnm:nmN x g.1[j]=n:=by unfold nmN;rw[hn]
     rw[List.take_succ_eq_append_getElem h2];unfold nsX;rw[List.map_append];simp only[List.map_cons,List.map_nil,hnm]
    have hin:n∈nsX x g.1:=List.mem_map.2 ⟨_,List.getElem_mem h2,by simp[nmN,hn]⟩;generalize g.1[j]=p at hp hn;obtain⟨i,l,r1,r2,r3,r4⟩:=zII hok hn;refine⟨_,by omega,by show (g.1.map (ptN ad))[(j:Int).toNat]? = _;rw[show (j:Int).toNat=j from rfl,List.getElem?_map,hp];rfl,rfl,?_⟩;refine⟨i,l,_,r1,r3,?_⟩;refine⟨fun h3=>?_,fun h3=>?_⟩
    ·have h3:n=y:=by simpa using h3
     refine⟨rfl,?_⟩;show HP ad x=_;unfold putX;rw[if_neg (fun e=>e.2 (h3 ▸ hin))]
    ·have h3:n≠y:=by simpa using h3
     refine⟨i,l,_,r1,r3,?_⟩;refine⟨by show (eSs (fr++nsX x (g.1.take j))).length+1<=_;simp[eSs];omega,xU _,xU [n],?_⟩;refine⟨⟨j+1,h2,by rw[hsn];simp only[List.mem_append,List.mem_singleton];exact fun e=>e.elim hyj (fun e=>h3 e.symm)⟩,by simp;omega,⟨rfl,rfl,rfl,?_,rfl,rfl,svc (wrap_succ (k:=j) (by omega)),trivial⟩,⟨rfl,trivial⟩,rfl⟩;show SV.v (.sl (eSs (fr++nsX x (g.1.take j))++[str n]))=SV.v (.sl (eSs (fr++nsX x (g.1.take (j+1)))));rw[hsn];simp[eSs]
   ·have h:j=g.1.length:=by have h:=of_decide_eq_false h2;simp only at h;omega
    subst h;rw[List.take_length] at hyj;refine Wsem.cut {vs:=[(1,.v (str y)),(3,.box 0 (eGp ad g)),(5,.box 0 (eC b)),(6,.v (.sl (eSs (fr++nsX x g.1))))],ow:=[(6,0,2)],hp:=HP ad x} ⟨⟨rfl,rfl,rfl,by show SV.v (.sl (eSs (fr++nsX x (g.1.take g.1.length))))=_;rw[List.take_length],trivial⟩,⟨rfl,trivial⟩,rfl⟩ ?_;refine Wsem.seq ttok mixed ?_;refine .inl ⟨_,hq.freeB,?_⟩;refine Wsem.seq ttok mixed ?_;refine⟨by show (eSs (fr++nsX x g.1)).length+(eSs b.fv).length<=_;simp[eSs];omega,xU _,xU _,?_⟩;refine Wsem.seq ttok mixed ?_;refine .inl ?_;refine Wsem.cut _ ?_ (zUJ hgp hgn hl1 hl hq hok hP hN (fr++nsX x g.1++b.fv) (by simp[nsX];omega) (by omega) (putX ren fin b.fv y g x) (by unfold putX;rw[<-hfr,if_pos ⟨hy,hyj⟩]));refine⟨⟨rfl,rfl,rfl,?_,rfl,rfl,trivial⟩,⟨rfl,trivial⟩,rfl⟩;show SV.v (.sl (eSs (fr++nsX x g.1)++eSs b.fv))=SV.v (.sl (eSs (fr++nsX x g.1++b.fv)));simp[eSs]
def z0J (x:Nd) (t:Tp):Nd:={x with t:=t}
def zIY (x:Nd) (j:Nat) (t:Tp):Nd:={x with bs:=x.bs.modify j fun b=>(b.1,t,b.2.2)}
theorem z5B {ad:Ad} {x:Nd} (hok:AdOk ad x):(HP ad x)[(hM ad x).length]? = some (ad.b0,HO.cells (yN ad x))/\((yN ad x).drop 3).take 4=(eTy x.t).cells /\
  ∀t,(HP ad x).set (hM ad x).length (ad.b0,HO.cells (setAt (yN ad x) 3 (eTy t).cells))=HP ad (z0J x t)/\AdOk ad (z0J x t):=by
 refine⟨?_,rfl,fun t=>⟨?_,⟨hok.k,hok.b,hok.a,hok.len,hok.vs⟩⟩⟩
 ·show (hM ad x++[_])[_]? = _;simp
 ·show (hM ad x++[(ad.b0,HO.cells (yN ad x))]).set (hM ad x).length _=hM ad x++_;rw[jK];rfl
theorem z2F {ad:Ad} {x:Nd} (hok:AdOk ad x) {j:Nat} {b:Bdg} (hb:x.bs[j]? = some b):∃(i:Nat) (l:List AV),(HP ad x)[i]? = some (ad.b.no,HO.cells l)/\0+j*15+1+4<=l.length/\(l.drop (0+j*15+1)).take 4=(eTy b.2.1).cells /\
  ∀t,(HP ad x).set i (ad.b.no,HO.cells (setAt l (0+j*15+1) (eTy t).cells))=HP ad (zIY x j t)/\AdOk ad (zIY x j t):=by
 have hj:=(List.getElem?_eq_some_iff.1 hb).1;have hbk:∀l,blk ad.b x.bs.length l=[(ad.b.no,HO.cells l)]:=fun l=>jR hok.b (by omega);have hjc:j<(yM x.bs).length:=by simp[yM];exact hj
 have hx:(yM x.bs)[j]=eBd b:=by
  have:=zO4 hj;rw[List.getElem?_eq_getElem hjc] at this;rw[List.getElem?_eq_getElem hj] at hb;injection hb with hb
  rw[hb] at this;exact Option.some.inj this
 rw[Nat.zero_add];refine⟨(blk ad.k x.ks.length (flR (eCs x.ks) ad.k.z)).length,flR (yM x.bs) ad.b.z,?_,?_,?_,fun t=>⟨?_,?_⟩⟩
 ·unfold HP hM;rw[hbk,List.append_assoc];simp
 ·exact jT (jZ _) ad.b.z hjc 1 4 (by decide)
 ·have:=zDN (jZ x.bs) ad.b.z hjc 1 4 (by decide);rw[hx] at this;exact this
 ·have hm:zIY x j t={x with bs:=x.bs.set j (b.1,t,b.2.2)}:=by show ({x with bs:=x.bs.modify j _}:Nd)=_;rw[yV hb]
  rw[hm];unfold HP hM;have e1:=zBU (jZ x.bs) ad.b.z hjc 1 (eTy t).cells (by show 1+4<=15;decide);rw[hx] at e1;have e2:yN ad {x with bs:=x.bs.set j (b.1,t,b.2.2)} = yN ad x:=by simp[yN]
  rw[e2];simp only[List.length_set];rw[hbk,hbk];simp only[List.append_assoc,List.cons_append,List.nil_append];rw[jK,e1]
  congr 4
  rw[yM,yM,zCZ];rfl
 ·have hm:zIY x j t={x with bs:=x.bs.set j (b.1,t,b.2.2)}:=by show ({x with bs:=x.bs.modify j _}:Nd)=_;rw[yV hb]
  rw[hm];exact⟨hok.k,by simpa using hok.b,hok.a,hok.len,hok.vs⟩
def zEG (φ:Cr->Cr) (x:Nd):Nd:={x with ks:=x.ks.map φ,bs:=x.bs.map fun b=>(b.1,b.2.1,φ b.2.2),ls:=x.ls.map fun a=>(a.1,a.2.1,φ a.2.2)}
def zMQ (x:Nd):List Pp:=(zS x).flatMap (·.2)
theorem zBL {φ:Cr->Cr}:∀{ps qs:List Pp} {x:Nd},updP φ (ps++qs) x=updP φ qs (updP φ ps x)
 | [],qs,x=>rfl
 | p::ps,qs,x=>zBL (ps:=ps)
theorem take_set {α:Type} {f:α->α} {l:List α} {k:Nat} (h:k<l.length):((l.take k).map f++l.drop k).set k (f l[k])=(l.take (k+1)).map f++l.drop (k+1):=by
 have h1:((l.take k).map f).length=k:=by simp;omega
 rw[List.set_append_right _ _ (by omega),h1,Nat.sub_self,List.drop_eq_getElem_cons h,List.take_succ_eq_append_getElem h,List.map_append,List.set_cons_zero,List.append_assoc]
 rfl
theorem zC6 {α:Type} {f:α->α} {l:List α} {k:Nat} (h:k<l.length):((l.take k).map f++l.drop k)[k]? = some l[k]:=by
 have h1:((l.take k).map f).length=k:=by simp;omega
 rw[List.getElem?_append_right (by omega),h1,Nat.sub_self,List.getElem?_drop,Nat.add_zero,List.getElem?_eq_getElem h]
theorem zLL {φ:Cr->Cr} {x:Nd}:∀k,k<=x.ks.length->updP φ ((List.range k).map .kid) x={x with ks:=(x.ks.take k).map φ++x.ks.drop k}
 | 0,_=>by simp[updP]
 | k+1,h=>by
  rw[List.range_succ,List.map_append,zBL,zLL k (by omega)];show updP φ [Pp.kid k] _=_;have hk:k<x.ks.length:=by omega
  have hg:zX {x with ks:=(x.ks.take k).map φ++x.ks.drop k} (.kid k)=some x.ks[k]:=zC6 hk;simp only[updP,hg];show ({x with ks:=((x.ks.take k).map φ++x.ks.drop k).set k _}:Nd)=_;rw[take_set hk]
theorem zKS {φ:Cr->Cr} {x:Nd}:∀k,k<=x.bs.length->updP φ ((List.range k).map .bind) x={x with bs:=(x.bs.take k).map (fun b=>(b.1,b.2.1,φ b.2.2))++x.bs.drop k}
 | 0,_=>by simp[updP]
 | k+1,h=>by
  rw[List.range_succ,List.map_append,zBL,zKS k (by omega)];show updP φ [Pp.bind k] _=_;have hk:k<x.bs.length:=by omega
  have hg0:=zC6 (f:=fun b:Bdg=>(b.1,b.2.1,φ b.2.2)) hk;have hg:zX {x with bs:=(x.bs.take k).map (fun b=>(b.1,b.2.1,φ b.2.2))++x.bs.drop k} (.bind k)=some x.bs[k].2.2:=by
   show (((x.bs.take k).map _++x.bs.drop k)[k]?).map _=_;rw[hg0];rfl
  simp only[updP,hg];show ({x with bs:=((x.bs.take k).map _++x.bs.drop k).modify k _}:Nd)=_;rw[yV hg0,take_set (f:=fun b:Bdg=>(b.1,b.2.1,φ b.2.2)) hk]
theorem zLK {φ:Cr->Cr} {x:Nd}:∀k,k<=x.ls.length->updP φ ((List.range k).map .alt) x={x with ls:=(x.ls.take k).map (fun a=>(a.1,a.2.1,φ a.2.2))++x.ls.drop k}
 | 0,_=>by simp[updP]
 | k+1,h=>by
  rw[List.range_succ,List.map_append,zBL,zLK k (by omega)];show updP φ [Pp.alt k] _=_;have hk:k<x.ls.length:=by omega
  have hg0:=zC6 (f:=fun a:Alg=>(a.1,a.2.1,φ a.2.2)) hk;have hg:zX {x with ls:=(x.ls.take k).map (fun a=>(a.1,a.2.1,φ a.2.2))++x.ls.drop k} (.alt k)=some x.ls[k].2.2:=by
   show (((x.ls.take k).map _++x.ls.drop k)[k]?).map _=_;rw[hg0];rfl
  simp only[updP,hg];show ({x with ls:=((x.ls.take k).map _++x.ls.drop k).modify k _}:Nd)=_;rw[yV hg0,take_set (f:=fun a:Alg=>(a.1,a.2.1,φ a.2.2)) hk]
theorem zNE (x:Nd):zMQ x=((List.range x.ks.length).map .kid++(List.range x.bs.length).map .bind)++(List.range x.ls.length).map .alt:=by
 unfold zMQ zS;rw[List.flatMap_cons]
 congr 1
 rw[List.flatMap_map];generalize List.range x.ls.length=l;induction l with
 | nil=>rfl
 | cons a l ih=>rw[List.flatMap_cons,ih];rfl
theorem zYU {φ:Cr->Cr} {x:Nd}:updP φ (zMQ x) x=zEG φ x:=by
 rw[zNE,zBL,zBL,zLL _ (Nat.le_refl _)];have:=zKS (φ:=φ) (x:={x with ks:=(x.ks.take x.ks.length).map φ++x.ks.drop x.ks.length}) x.bs.length (Nat.le_refl _);rw[this];have:=zLK (φ:=φ) (x:={x with ks:=(x.ks.take x.ks.length).map φ++x.ks.drop x.ks.length,bs:=(x.bs.take x.bs.length).map (fun b=>(b.1,b.2.1,φ b.2.2))++x.bs.drop x.bs.length}) x.ls.length (Nat.le_refl _);rw[this];simp[zEG]
theorem zET (x:Nd):(zMQ x).Nodup:=by
 rw[zNE];have h1:∀n,((List.range n).map Pp.kid).Nodup:=fun n=>List.Pairwise.map _ (fun a b h e=>h (by injection e)) List.nodup_range;have h2:∀n,((List.range n).map Pp.bind).Nodup:=fun n=>List.Pairwise.map _ (fun a b h e=>h (by injection e)) List.nodup_range;have h3:∀n,((List.range n).map Pp.alt).Nodup:=fun n=>List.Pairwise.map _ (fun a b h e=>h (by injection e)) List.nodup_range;refine List.nodup_append.2 ⟨List.nodup_append.2 ⟨h1 _,h2 _,?_⟩,h3 _,?_⟩
 ·intro a ha b hb e;obtain⟨i,_,rfl⟩:=List.mem_map.1 ha;obtain⟨j,_,rfl⟩:=List.mem_map.1 hb;cases e
 ·intro a ha b hb e;obtain⟨j,_,rfl⟩:=List.mem_map.1 hb;rcases List.mem_append.1 ha with ha|ha
  ·obtain⟨i,_,rfl⟩:=List.mem_map.1 ha;cases e
  ·obtain⟨i,_,rfl⟩:=List.mem_map.1 ha;cases e
theorem zXD {K:Nat} {u t:Tp} {v:ByteArray} (hf:Fit K u [(v,t)]):zF Tryz.prog zE0 [eTy u,.ptr [str v],.ptr (eTy t).cells] (eTy (sub u [(v,t)])):=by
 have hc:=zOM u.sz u (Nat.le_refl _) K [(v,t)] hf;refine zD ttok mixed Tryz.func64 rfl (by rfl) (Nat.le_of_ble_eq_true rfl) (by kernel_rfl) ?_;refine .inl ⟨_,hc,?_⟩;exact rfl
set_option linter.unusedSimpArgs false
def Cr.wt:Cr->Nat
 | .nil=>0
 | .node _ _ _ t g=>1+t.sz+g.wt
 | .kid p r=>p.wt+r.wt
 | .bind _ t p r=>1+t.sz+p.wt+r.wt
 | .alt _ _ _ vs p r=>1+vs.length+p.wt+r.wt
def Cr.LowC (K:Nat):Cr->Prop
 | .nil=>True
 | .node _ _ _ t g=>LowT K t/\g.LowC K
 | .kid p r=>p.LowC K/\r.LowC K
 | .bind _ t p r=>LowT K t/\p.LowC K/\r.LowC K
 | .alt _ _ _ _ p r=>p.LowC K/\r.LowC K
structure Sm (c:Cr):Prop where
 n:c.isN=true
 ok:c.Ok
 wt:c.wt<=590
 low:c.LowC 2000
theorem z5I (c:Cr):c.sz<=c.wt:=by
 induction c with
 | nil=>simp[Cr.sz]
 | node f n s t g ih=>simp only[Cr.sz,Cr.wt];omega
 | kid p r ihp ihr=>simp only[Cr.sz,Cr.wt];omega
 | bind x t p r ihp ihr=>simp only[Cr.sz,Cr.wt];omega
 | alt f n s vs p r ihp ihr=>simp only[Cr.sz,Cr.wt];omega
theorem zLC (c:Cr):c.tn<=c.wt:=by
 induction c with
 | nil=>simp[Cr.tn]
 | node f n s t g ih=>simp only[Cr.tn,Cr.wt];omega
 | kid p r ihp ihr=>simp only[Cr.tn,Cr.wt];omega
 | bind x t p r ihp ihr=>simp only[Cr.tn,Cr.wt];omega
 | alt f n s vs p r ihp ihr=>simp only[Cr.tn,Cr.wt];omega
theorem z3K (c:Cr):c.wt<=10000->c.Few:=by
 induction c with
 | nil=>intro _;trivial
 | node f n s t g ih=>intro h;simp only[Cr.wt] at h;exact ih (by omega)
 | kid p r ihp ihr=>intro h;simp only[Cr.wt] at h;exact⟨ihp (by omega),ihr (by omega)⟩
 | bind x t p r ihp ihr=>intro h;simp only[Cr.wt] at h;exact⟨ihp (by omega),ihr (by omega)⟩
 | alt f n s vs p r ihp ihr=>intro h;simp only[Cr.wt] at h;exact⟨by omega,ihp (by omega),ihr (by omega)⟩
theorem z5F (c:Cr):c.wt<=590->c.LowC 2000->c.TyA:=by
 have one:∀t:Tp,t.sz<=590->LowT 2000 t->TyS t:=fun t h1 h2=>⟨h2,Nat.le_trans (z1M t) h1,by omega⟩
 induction c with
 | nil=>intro _ _;trivial
 | node f n s t g ih=>intro h hl;simp only[Cr.wt] at h;exact⟨one t (by omega) hl.1,ih (by omega) hl.2⟩
 | kid p r ihp ihr=>intro h hl;simp only[Cr.wt] at h;exact⟨ihp (by omega) hl.1,ihr (by omega) hl.2⟩
 | bind x t p r ihp ihr=>intro h hl;simp only[Cr.wt] at h;exact⟨one t (by omega) hl.1,ihp (by omega) hl.2.1,ihr (by omega) hl.2.2⟩
 | alt f n s vs p r ihp ihr=>intro h hl;simp only[Cr.wt] at h;exact⟨ihp (by omega) hl.1,ihr (by omega) hl.2⟩
theorem Sm.gd {c:Cr} (h:Sm c):Gd c:=⟨h.n,h.ok,z3K c (Nat.le_trans h.wt (by decide)),z5F c h.wt h.low⟩
theorem Sm.sz {c:Cr} (h:Sm c):c.sz<=590:=Nat.le_trans (z5I c) h.wt
theorem zRP {K:Nat} {c p:Cr} (hp:p∈c.kids):p.wt<=c.wt/\(c.LowC K->p.LowC K):=by
 induction c with
 | nil=>cases hp
 | node f n s t g ih=>have:=ih hp;exact⟨by simp only[Cr.wt];omega,fun h=>this.2 h.2⟩
 | kid q r _ ih =>
  simp only[Cr.wt];rcases List.mem_cons.1 hp with rfl|hp
  ·exact⟨by omega,fun h=>h.1⟩
  ·have:=ih hp;exact⟨by omega,fun h=>this.2 h.2⟩
 | bind x t q r _ ih=>have:=ih hp;exact⟨by simp only[Cr.wt];omega,fun h=>this.2 h.2.2⟩
 | alt f n s vs q r _ ih=>have:=ih hp;exact⟨by simp only[Cr.wt];omega,fun h=>this.2 h.2⟩
theorem zD4 {K:Nat} {c:Cr} {b:Bdg} (hp:b∈c.binds):1+b.2.1.sz+b.2.2.wt<=c.wt/\(c.LowC K->LowT K b.2.1/\b.2.2.LowC K):=by
 induction c with
 | nil=>cases hp
 | node f n s t g ih=>have:=ih hp;exact⟨by simp only[Cr.wt];omega,fun h=>this.2 h.2⟩
 | kid q r _ ih=>have:=ih hp;exact⟨by simp only[Cr.wt];omega,fun h=>this.2 h.2⟩
 | bind x t q r _ ih =>
  simp only[Cr.wt];rcases List.mem_cons.1 hp with rfl|hp
  ·exact⟨by simp only;omega,fun h=>⟨h.1,h.2.1⟩⟩
  ·have:=ih hp;exact⟨by omega,fun h=>this.2 h.2.2⟩
 | alt f n s vs q r _ ih=>have:=ih hp;exact⟨by simp only[Cr.wt];omega,fun h=>this.2 h.2⟩
theorem zGN {K:Nat} {c:Cr} {a:Alg} (hp:a∈c.alts):1+a.2.1.length+a.2.2.wt<=c.wt/\(c.LowC K->a.2.2.LowC K):=by
 induction c with
 | nil=>cases hp
 | node f n s t g ih=>have:=ih hp;exact⟨by simp only[Cr.wt];omega,fun h=>this.2 h.2⟩
 | kid q r _ ih=>have:=ih hp;exact⟨by simp only[Cr.wt];omega,fun h=>this.2 h.2⟩
 | bind x t q r _ ih=>have:=ih hp;exact⟨by simp only[Cr.wt];omega,fun h=>this.2 h.2.2⟩
 | alt f n s vs q r _ ih =>
  simp only[Cr.wt];rcases List.mem_cons.1 hp with rfl|hp
  ·exact⟨by simp only;omega,fun h=>h.1⟩
  ·have:=ih hp;exact⟨by omega,fun h=>this.2 h.2⟩
theorem Sm.part {c d:Cr} (h:Sm c) {p:Pp} (hd:zX (zJ c) p=some d):Sm d/\d.sz<c.sz:=by
 obtain⟨g1,g2⟩:=h.gd.part hd;refine⟨⟨g1.n,g1.ok,?_,?_⟩,g2⟩
 ·cases p with
  | kid j=>have hm:d∈c.kids:=List.mem_of_getElem? hd;exact Nat.le_trans (zRP (K:=0) hm).1 h.wt
  | bind j =>
   have hd:(c.binds[j]?).map (·.2.2)=some d:=hd;cases hb:c.binds[j]? with
   | none=>rw[hb] at hd;cases hd
   | some b=>rw[hb] at hd;simp at hd;subst hd;have:=(zD4 (K:=0) (List.mem_of_getElem? hb)).1;have:=h.wt;omega
  | alt j =>
   have hd:(c.alts[j]?).map (·.2.2)=some d:=hd;cases hb:c.alts[j]? with
   | none=>rw[hb] at hd;cases hd
   | some b=>rw[hb] at hd;simp at hd;subst hd;have:=(zGN (K:=0) (List.mem_of_getElem? hb)).1;have:=h.wt;omega
 ·cases p with
  | kid j=>have hm:d∈c.kids:=List.mem_of_getElem? hd;exact (zRP hm).2 h.low
  | bind j =>
   have hd:(c.binds[j]?).map (·.2.2)=some d:=hd;cases hb:c.binds[j]? with
   | none=>rw[hb] at hd;cases hd
   | some b=>rw[hb] at hd;simp at hd;subst hd;exact ((zD4 (List.mem_of_getElem? hb)).2 h.low).2
  | alt j =>
   have hd:(c.alts[j]?).map (·.2.2)=some d:=hd;cases hb:c.alts[j]? with
   | none=>rw[hb] at hd;cases hd
   | some b=>rw[hb] at hd;simp at hd;subst hd;exact (zGN (List.mem_of_getElem? hb)).2 h.low
theorem zYD {K:Nat} {x:ByteArray} {ps:Env'} (h:∀p∈ps,∃z,p.2 = .var z/\Low K z) (hx:Low K x):∃z,(look x ps).getD (.var x) = .var z/\Low K z:=by
 cases hl:look x ps with
 | none=>exact⟨x,rfl,hx⟩
 | some t=>obtain⟨z,h1,h2⟩:=h _ (zVW hl);exact⟨z,h1,h2⟩
theorem zI8 {K:Nat}:∀{ps:Env'},(∀p∈ps,∃z,p.2 = .var z/\Low K z)->(caught ps).length=ps.length
 | [],_=>rfl
 | p::r,h=>by
  obtain⟨z,h1,_⟩:=h p (by simp);show (fv p.2++caught r).length=_;rw[List.length_append,zI8 (ps:=r) fun q hq=>h q (by simp[hq]),h1];simp[fv];omega
theorem zC7 {K:Nat}:∀(u:Tp) (ps:Env'),LowT K u->(∀p∈ps,∃z,p.2 = .var z/\Low K z)->ps.length+2*u.sz<K->LowT K (sub u ps)/\(sub u ps).sz=u.sz
 | .var x,ps,h,hp,_=>by obtain⟨z,h1,h2⟩:=zYD hp h;unfold sub;rw[h1];exact⟨h2,rfl⟩
 | .app a b,ps,h,hp,hs=>by
  simp only[Tp.sz] at hs;obtain⟨a1,a2⟩:=zC7 a ps h.1 hp (by omega);obtain⟨b1,b2⟩:=zC7 b ps h.2 hp (by omega);unfold sub;exact⟨⟨a1,b1⟩,by simp only[Tp.sz,a2,b2]⟩
 | .all s a,ps,h,hp,hs=>by
  simp only[Tp.sz] at hs;have hk:=zA8 s (fv a) ps;have hpk:∀p∈kept s (fv a) ps,∃z,p.2 = .var z/\Low K z:=fun p h=>hp p (zBR h);unfold sub;split
  ·have hff:=zE5 (caught (kept s (fv a) ps)++fv a);rw[List.length_append,zI8 hpk] at hff;have hfl:=yU a;have hlow:Low K (lett (ff (caught (kept s (fv a) ps)++fv a))):=⟨_,by omega,rfl⟩
   obtain⟨a1,a2⟩:=zC7 a (kept s (fv a) ps++[(s,.var (lett (ff (caught (kept s (fv a) ps)++fv a))))]) h.2 (fun p hp2=>by
    rcases List.mem_append.1 hp2 with h|h
    ·exact hpk p h
    ·simp at h;subst h;exact⟨_,rfl,hlow⟩) (by simp;omega)
   exact⟨⟨hlow,a1⟩,by simp only[Tp.sz,a2]⟩
  ·obtain⟨a1,a2⟩:=zC7 a _ h.2 hpk (by omega);exact⟨⟨h.1,a1⟩,by simp only[Tp.sz,a2]⟩
 | .con _,_,h,_,_=>⟨h,rfl⟩
 | .mt _,_,h,_,_=>⟨h,rfl⟩
 | .no,_,h,_,_=>⟨h,rfl⟩
section
variable {φ:Cr->Cr} {τ:Tp->Tp} {ν:ByteArray->ByteArray} {α:List ByteArray->Cr->List ByteArray×Cr}
theorem zEC {K:Nat} {g:Cr} (h:g.isN=false) (ho:g.Ok) (hl:g.LowC K) (hk:∀p∈g.kids,p.LowC K->(φ p).wt=p.wt/\(φ p).LowC K) (hb:∀b∈g.binds,LowT K b.2.1->b.2.2.LowC K->(τ b.2.1).sz=b.2.1.sz/\LowT K (τ b.2.1)/\(φ b.2.2).wt=b.2.2.wt/\(φ b.2.2).LowC K)
  (ha:∀a∈g.alts,a.2.2.LowC K->(α a.2.1 a.2.2).1.length=a.2.1.length/\(α a.2.1 a.2.2).2.wt=a.2.2.wt/\(α a.2.1 a.2.2).2.LowC K):(yQ φ τ ν α g).wt=g.wt/\(yQ φ τ ν α g).LowC K:=by
 induction g with
 | nil=>exact⟨rfl,trivial⟩
 | node=>cases h
 | kid p r _ ih =>
  simp only[yQ,Cr.wt,Cr.kids,List.mem_cons,forall_eq_or_imp] at hk⊢;obtain⟨h1,h2⟩:=ih ho.2.1 ho.2.2.2 hl.2 hk.2 hb ha;obtain⟨h3,h4⟩:=hk.1 hl.1;exact⟨by rw[h1,h3],h4,h2⟩
 | bind x t p r _ ih =>
  simp only[yQ,Cr.wt,Cr.binds,List.mem_cons,forall_eq_or_imp] at hb⊢;obtain⟨h1,h2⟩:=ih ho.2.1 ho.2.2.2.2 hl.2.2 hk hb.2 ha;obtain⟨h3,h4,h5,h6⟩:=hb.1 hl.1 hl.2.1;exact⟨by rw[h1,h3,h5],h4,h6,h2⟩
 | alt f n s vs p r _ ih =>
  simp only[yQ,Cr.wt,Cr.alts,List.mem_cons,forall_eq_or_imp] at ha⊢;obtain⟨h1,h2⟩:=ih ho.2.1 ho.2.2.2.2.2.2 hl.2 hk hb ha.2;obtain⟨h3,h4,h5⟩:=ha.1 hl.1;exact⟨by rw[h1,h3,h4],h5,h2⟩
end
theorem zXM (k:Nat):∀(c:Cr) (s z:ByteArray),c.isN=true->c.Ok->c.wt<=590->c.LowC 2000->Low 2000 z->(stF k c s (.var z)).isN=true/\(stF k c s (.var z)).Ok/\(stF k c s (.var z)).wt=c.wt/\(stF k c s (.var z)).LowC 2000:=by
 induction k with
 | zero=>intro c s z hn ho hw hl hz;cases c<;>first|(cases hn;done)|exact⟨rfl,ho,rfl,hl⟩
 | succ k ih =>
  intro c s z hn ho hw hl hz;have hok:=(zEE (k+1) c s (.var z) ho).2.2;cases c with
  | node f n y ty g =>
   obtain⟨hg,hgo⟩:=xQ ho;simp only[Cr.wt] at hw;have kid:∀p∈g.kids,p.isN=true/\p.Ok/\p.wt<=590:=fun p hp=>⟨(hgo.kid hp).1,(hgo.kid hp).2,by have:=(zRP (K:=0) hp).1;omega⟩
   have bind:∀b∈g.binds,b.2.2.isN=true/\b.2.2.Ok/\b.2.2.wt<=590/\b.2.1.sz<=590:=fun b hb=>⟨(hgo.bind hb).1,(hgo.bind hb).2,by have:=(zD4 (K:=0) hb).1;omega,by have:=(zD4 (K:=0) hb).1;omega⟩
   have alt:∀a∈g.alts,a.2.2.isN=true/\a.2.2.Ok/\a.2.2.wt<=590:=fun a ha=>⟨(hgo.alt ha).1,(hgo.alt ha).2.1,by have:=(zGN (K:=0) ha).1;omega⟩
   have gl:=hl.2;have tsub:∀u:Tp,u.sz<=590->LowT 2000 u->LowT 2000 (sub u [(s,.var z)])/\(sub u [(s,.var z)]).sz=u.sz:=fun u h1 h2=>zC7 u _ h2 (fun p hp=>by simp at hp;subst hp;exact⟨z,rfl,hz⟩) (by simp;omega);refine⟨?_,hok,?_⟩
   ·simp only[stF];split
    ·split
     ·rfl
     ·split<;>rfl
    ·rfl
   ·simp only[stF];split
    ·split
     ·exact⟨rfl,hl⟩
     ·split
      ·have hlen:ff (fvT (.var z)++g.tv)<2000:=by
        have h1:=zE5 (fvT (.var z)++g.tv);have h2:=jW g;have h3:=zLC g;rw[List.length_append] at h1;have h4:(fvT (.var z)).length=1:=rfl;omega
       have hz2:Low 2000 (lett (ff (fvT (.var z)++g.tv))):=⟨_,hlen,rfl⟩
       have two:∀p,p.isN=true->p.Ok->p.wt<=590->p.LowC 2000->(stF k (stF k p y (.var (lett (ff (fvT (.var z)++g.tv))))) s (.var z)).wt=p.wt/\(stF k (stF k p y (.var (lett (ff (fvT (.var z)++g.tv))))) s (.var z)).LowC 2000:=fun p h1 h2 h3 h4=>by
        obtain⟨a1,a2,a3,a4⟩:=ih p y _ h1 h2 h3 h4 hz2;obtain⟨b1,b2,b3,b4⟩:=ih _ s z a1 a2 (by omega) a4 hz;exact⟨by rw[b3,a3],b4⟩
       have:=zEC (φ:=fun p=>stF k (stF k p y (.var (lett (ff (fvT (.var z)++g.tv))))) s (.var z)) (τ:=id) (ν:=id) (α:=Prod.mk) hg hgo gl (fun p hp hpl=>two p (kid p hp).1 (kid p hp).2.1 (kid p hp).2.2 hpl) (fun b hb h1 h2=>⟨rfl,h1,two _ (bind b hb).1 (bind b hb).2.1 (bind b hb).2.2.1 h2⟩) (fun a ha h=>⟨rfl,rfl,h⟩);exact⟨by simp only[Cr.wt,this.1],hl.1,this.2⟩
      ·have:=zEC (φ:=fun p=>stF k p s (.var z)) (τ:=id) (ν:=id) (α:=Prod.mk) hg hgo gl (fun p hp hpl=>(ih p s z (kid p hp).1 (kid p hp).2.1 (kid p hp).2.2 hpl hz).2.2) (fun b hb h1 h2=>⟨rfl,h1,(ih _ s z (bind b hb).1 (bind b hb).2.1 (bind b hb).2.2.1 h2 hz).2.2⟩) (fun a ha h=>⟨rfl,rfl,h⟩);exact⟨by simp only[Cr.wt,this.1],hl.1,this.2⟩
    ·have:=zEC (φ:=fun p=>stF k p s (.var z)) (τ:=fun u=>sub u [(s,.var z)]) (ν:=id) (α:=fun vs p=>(vs,stF k p s (.var z))) hg hgo gl (fun p hp hpl=>(ih p s z (kid p hp).1 (kid p hp).2.1 (kid p hp).2.2 hpl hz).2.2) (fun b hb h1 h2=>⟨(tsub _ (bind b hb).2.2.2 h1).2,(tsub _ (bind b hb).2.2.2 h1).1,(ih _ s z (bind b hb).1 (bind b hb).2.1 (bind b hb).2.2.1 h2 hz).2.2⟩) (fun a ha h=>⟨rfl,(ih _ s z (alt a ha).1 (alt a ha).2.1 (alt a ha).2.2 h hz).2.2⟩);obtain⟨t1,t2⟩:=tsub ty (by omega) hl.1;exact⟨by simp only[Cr.wt,this.1,t2],t1,this.2⟩
  | _=>cases hn
theorem Sm.st {c:Cr} (h:Sm c) (k:Nat) (s z:ByteArray) (hz:Low 2000 z):Sm (stF k c s (.var z)):=by
 obtain⟨h1,h2,h3,h4⟩:=zXM k c s z h.n h.ok h.wt h.low hz;exact⟨h1,h2,by rw[h3];exact h.wt,h4⟩
theorem zUQ (l:List AV) (hu:Uni 1 l) (hl:l.length<=1000000):CallsG Tryz.prog (fnv 74) [] [.sl l] [] fun r o h=>r = .sl l/\o=2/\h=[]:=by
 refine zK7 (esz:=1) (r := .sl l) ttok mixed Tryz.func74 rfl (by rfl) (Nat.le_of_ble_eq_true rfl) (by kernel_rfl) ?_;cases l with
 | nil=>exact⟨.inl ⟨rfl,rfl,rfl⟩,by simp,by simp[Uni],hu,.inr ⟨rfl,rfl,rfl⟩⟩
 | cons x l=>exact⟨by show 0+(x::l).length<=_;omega,by simp[Uni],hu,.inr ⟨rfl,rfl,rfl⟩⟩
def z3D (x:Nd) (s:ByteArray):Nd:={x with s:=s}
theorem zJY {ad:Ad} {x:Nd} (hok:AdOk ad x):(HP ad x)[(hM ad x).length]? = some (ad.b0,HO.cells (yN ad x))/\∀s,(HP ad x).set (hM ad x).length (ad.b0,HO.cells (setAt (yN ad x) 2 [str s]))=HP ad (z3D x s)/\AdOk ad (z3D x s):=by
 refine⟨?_,fun s=>⟨?_,⟨hok.k,hok.b,hok.a,hok.len,hok.vs⟩⟩⟩
 ·show (hM ad x++[_])[_]? = _;simp
 ·show (hM ad x++[(ad.b0,HO.cells (yN ad x))]).set (hM ad x).length _=hM ad x++_;rw[jK];rfl
noncomputable def clX (k:Nat) (names:List ByteArray) (q:Cr) (x:Nd):Nd :=
 if x.s∈names then z3D (zBC x (.kid 0) (stF k q x.s (.var (lett (ff (names++q.tv)))))) (lett (ff (names++q.tv))) else x
theorem zO3 {ad:Ad} {x:Nd} (hok:AdOk ad x) {q:Cr} (hx:x.ks=[q]) (hq:Sm q) (names:List ByteArray) (hn:names.length<=1000) (k:Nat)
  (ih:∀z,Low 2000 z->zF Tryz.prog xB [eC q,str x.s,eTy (.var z)] (eC (stF k q x.s (.var z)))) :
  CallsG Tryz.prog (fnv zNJ) (HP ad x) [pt ad.b0 0,.sl (eSs names)] [] fun r o h=>o=0/\h=HP ad (clX k names q x):=by
 have hget:zX x (.kid 0)=some q:=by show x.ks[0]? = _;rw[hx];rfl
 have hb0:=(zJY hok).1;refine zM (first:=[]) (cap:=[]) ttok mixed Tryz.func56 rfl (by rfl) rfl (Nat.le_of_ble_eq_true rfl) (by kernel_rfl) ?_;refine Wsem.seq ttok mixed ?_;refine⟨_,_,_,hb0,rfl,?_⟩;refine .inl ⟨_,yS (l:=names) (s:=x.s) (by omega),?_⟩;refine Wsem.cond rfl (fun hm=>?_) (fun hm=>?_)
 ·have hm:x.s∈names:=memb_iff.1 hm;have htn:=zLC q;have hwt:=hq.wt;have htv:=jW q;have hty:=zCK hq.n hq.ok (by have:=hq.sz;omega) (by omega);have hK0:=hok.k.at (by rw[hx];exact Nat.zero_lt_one);have hff:=zE5 (names++q.tv);rw[List.length_append] at hff;obtain⟨z,hz⟩:∃z,z=lett (ff (names++q.tv)):=⟨_,rfl⟩
  have hlow:Low 2000 z:=⟨_,by omega,hz.symm⟩
  have hfr:zF Tryz.prog zFP [.sl (eSs names++eSs q.tv)] (str z):=by
   have:=zOZ (names++q.tv) (by simp;omega) (by omega);rw[<-hz] at this;rw[show eSs names++eSs q.tv=eSs (names++q.tv) by simp[eSs]];exact this
  have hb7:(yN ad x)[7]? = some (.lit (.slice (some ⟨ad.k.no,0,none⟩) x.ks.length ad.k.cap)):=by show some (slA ad.k x.ks.length)=_;unfold slA;rw[hK0]
  have hlen:x.ks.length=1:=by rw[hx];rfl
  obtain⟨i,l,r1,r2,r3,r4⟩:=zA2 hok hget;obtain⟨x1,hx1⟩:∃x1,x1=zBC x (.kid 0) (stF k q x.s (.var z)):=⟨_,rfl⟩
  have hok1:AdOk ad x1:=by rw[hx1];exact (r4 _).2
  refine Wsem.seqS (Wsem.regionTZ zHT ttok mixed [0,1,2,3,4,5,6,7,8,9,10,11] [0,2] (by kernel_rfl) ?_);refine⟨_,_,zUQ (eSs names) (xU _) (by simp[eSs];omega),?_⟩;refine⟨_,_,_,hb0,hb7,?_⟩;refine⟨by omega,by omega,?_⟩;refine⟨i,l,r1,r2,?_⟩;refine .inr (.inl ⟨.sl (eSs q.tv),by show zCR Tryz.prog _ [.agg ((l.drop (adP ad (.kid 0)).2).take 10)] _;rw[r3];exact hty,?_⟩);refine⟨by show (eSs names).length+(eSs q.tv).length<=_;simp[eSs];omega,xU _,xU _,?_⟩;refine .inl ⟨_,hfr,?_⟩;refine⟨by kernel_rfl,?_⟩;refine Wsem.cut {vs:=[(0,.v (pt ad.b0 0)),(4,.v (str z))],hp:=HP ad x} ⟨⟨rfl,rfl,trivial⟩,trivial,rfl⟩ ?_;refine Wsem.seq ttok mixed ?_;refine⟨_,_,_,hb0,hb7,?_⟩;refine⟨_,_,_,hb0,hb7,?_⟩;refine⟨by omega,by omega,?_⟩;refine⟨i,l,r1,r2,?_⟩;refine⟨_,_,_,hb0,rfl,?_⟩;refine .inl ⟨_,zRO z,?_⟩;refine .inr (.inl ⟨eC (stF k q x.s (.var z)),by show zCR Tryz.prog _ [.agg ((l.drop (adP ad (.kid 0)).2).take 10),_,_] _;rw[r3];exact ih z hlow,?_⟩);refine⟨by omega,by omega,?_⟩;refine⟨rfl,i,l,r1,r2,?_⟩;refine⟨by kernel_rfl,?_⟩;refine Wsem.cut {vs:=[(0,.v (pt ad.b0 0)),(4,.v (str z))],hp:=HP ad x1} ⟨⟨rfl,rfl,trivial⟩,trivial,by show (HP ad x).set i (_,HO.cells (setAt l _ (eC (stF k q x.s (.var z))).cells))=_;rw[hx1];exact (r4 _).1⟩ ?_;refine Wsem.of ttok mixed ?_;refine⟨rfl,(hM ad x1).length,yN ad x1,(zJY hok1).1,by show 0+2+1<=10;decide,?_⟩;refine⟨rfl,?_⟩;show (HP ad x1).set (hM ad x1).length (ad.b0,HO.cells (setAt (yN ad x1) 2 [str z]))=_;rw[((zJY hok1).2 z).1,hx1]
  unfold clX;rw[if_pos hm,<-hz]
 ·have hm:x.s∉names:=fun h=>by rw[memb_iff.2 h] at hm;cases hm
  refine Wsem.of ttok mixed ?_;refine⟨rfl,?_⟩;show HP ad x=_;unfold clX;rw[if_neg hm]
end Go.Proofs.YtgonkhaebmfgiaaGreatDoor
