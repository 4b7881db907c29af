/- same: the groups. No condition but on lengths. -/
import Derived.Test.YtgonkhaebmfgiaaGreatDoorP
set_option linter.unusedSimpArgs false
set_option linter.unusedVariables false
namespace Go.Proofs.YtgonkhaebmfgiaaGreatDoor
open Go Fp
set_option maxRecDepth 10000
set_option maxHeartbeats 16000000
set_option linter.unusedVariables false
theorem z1R {a b0:Cr} {e D e' D':List ByteArray} {r:Bool} (hla:(gD a).length<=1000000) (hlen:(gD a).length=(gD b0).length) (hD:D.length<=9000) (hD':D'.length<=9000)
  (hg:∀(i:Nat) g g',(gD a)[i]? = some g->(gD b0)[i]? = some g'->g.2.2.length=g'.2.2.length/\g.2.2.length<=1000000/\NamesAt g.2.1 g.1/\Uni 1 g.2.1/\NamesAt g'.2.1 g'.1/\Uni 1 g'.2.1/\e.length+g.1.length<=9000/\e'.length+g'.1.length<=9000)
  (hrec:∀(i j:Nat) g g' p p',(gD a)[i]? = some g->(gD b0)[i]? = some g'->g.2.2[j]? = some p->g'.2.2[j]? = some p'->zF Tryz.prog 85 [eC p,eC p',eG (g.1.reverse++e) D,eG (g'.1.reverse++e') D'] (.sb (decide (dbc p (g.1.reverse++e) D=dbc p' (g'.1.reverse++e') D'))))
  (hT:(∀i j,partAt a e D i j=partAt b0 e' D' i j)->r=true) (hF:∀i j,partAt a e D i j≠partAt b0 e' D' i j->r=false) :
  Wsem Tryz.prog (sn4 (sn4 (bodyC Tryz.f85))) (mkC {vs:=[(6,.v (.ptr (eG e D).cells)),(7,.v (.ptr (eG e' D').cells)),(16,.v (.sl (gS a))),(17,.v (.sl (gS b0)))]})
   (fun c2=>zFM tt Tryz.f85.results.toList (.sb r) (den c2)) (fun _ _=>False) (fun c2=>zFM tt Tryz.f85.results.toList (.sb r) (den c2)):=by
 refine Wsem.seq ttok mixed ?_;have hG0:(gS a).length=(gD a).length:=by rw[zU2];simp
 refine⟨{i:Nat // i<=(gD a).length/\∀k,k<i->∀j,partAt a e D k j=partAt b0 e' D' k j},fun i=>{vs:=[(6,.v (.ptr (eG e D).cells)),(7,.v (.ptr (eG e' D').cells)),(16,.v (.sl (gS a))),(17,.v (.sl (gS b0))),(184,sv ((gD a).length:Nat)),(185,sv (i.1:Nat))]},fun i=>(gD a).length-i.1,⟨0,Nat.zero_le _,fun k hk=>absurd hk (Nat.not_lt_zero k)⟩,⟨⟨rfl,rfl,rfl,rfl,svc (by rw[hG0]),rfl,trivial⟩,trivial,rfl⟩,?_⟩;rintro⟨i,hi,hdone⟩;refine⟨fun h=>?_,fun h=>?_⟩
 ·have h:i<(gD a).length:=by have h:=of_decide_eq_true h;simp only at h;omega
  have h':i<(gD b0).length:=by omega
  have hx:=List.getElem?_eq_getElem h;have hx':=List.getElem?_eq_getElem h';have hget:=zQZ h;have hget':=zQZ h';generalize (gD a)[i]=g at hx hget;generalize (gD b0)[i]=g' at hx' hget';obtain⟨q1,q2,q3,q4,q5,q6,q7,q8⟩:=hg i g g' hx hx';have hp:∀j,partAt a e D i j=(g.2.2[j]?).map fun p=>dbc p (g.1.reverse++e) D:=fun j=>by unfold partAt;rw[hx];rfl
  have hp':∀j,partAt b0 e' D' i j=(g'.2.2[j]?).map fun p=>dbc p (g'.1.reverse++e') D':=fun j=>by unfold partAt;rw[hx'];rfl
  have hr2:=fun j p p'=>hrec i j g g' p p' hx hx';obtain⟨ns,nm,ps⟩:=g;obtain⟨ns',nm',ps'⟩:=g';simp only at q1 q2 q3 q4 q5 q6 q7 q8 hp hp' hr2;have hw:=zCU e D [] ns nm q3 q4 (by omega) (by omega) (by simp;omega);have hw':=zCU e' D' [] ns' nm' q5 q6 (by omega) (by omega) (by simp;omega);refine⟨_,by omega,hget,rfl,?_⟩;refine .inl ⟨_,hw,?_⟩;refine⟨_,by omega,hget',rfl,?_⟩;refine .inl ⟨_,hw',?_⟩;refine⟨by kernel_rfl,?_⟩;refine⟨_,by omega,hget,rfl,?_⟩;refine⟨{j:Nat // j<=ps.length/\∀k,k<j->partAt a e D i k=partAt b0 e' D' i k},fun j=>{vs:=[(6,.v (.ptr (eG e D).cells)),(7,.v (.ptr (eG e' D').cells)),(16,.v (.sl (gS a))),(17,.v (.sl (gS b0))),(18,sv (i:Nat)),(19,.box 0 (eG (ns.reverse++e) D)),(20,.box 0 (eG (ns'.reverse++e') D')),(184,sv ((gD a).length:Nat)),(185,sv (i:Nat)),(207,sv (ps.length:Nat)),(208,sv (j.1:Nat))]},fun j=>ps.length-j.1,⟨0,Nat.zero_le _,fun k hk=>absurd hk (Nat.not_lt_zero k)⟩,⟨⟨rfl,rfl,rfl,rfl,rfl,rfl,rfl,rfl,rfl,by show sv _=sv _;simp,rfl,trivial⟩,trivial,rfl⟩,?_⟩;rintro⟨j,hj,hdj⟩;refine⟨fun h2=>?_,fun h2=>?_⟩
  ·have h2:j<ps.length:=by have h:=of_decide_eq_true h2;simp only at h;omega
   have h2':j<ps'.length:=by omega
   have hcall:=hr2 j ps[j] ps'[j] (List.getElem?_eq_getElem h2) (List.getElem?_eq_getElem h2');have hpj:=hp j;have hpj':=hp' j;rw[List.getElem?_eq_getElem h2] at hpj;rw[List.getElem?_eq_getElem h2'] at hpj';have hgp:=zPZ h2;have hgp':=zPZ h2';generalize ps[j]=p at hcall hpj hgp;generalize ps'[j]=p' at hcall hpj' hgp';refine⟨_,by omega,hget,rfl,?_⟩;refine⟨_,by omega,hgp,rfl,?_⟩;refine⟨_,by omega,hget',rfl,?_⟩;refine⟨_,by omega,hgp',rfl,?_⟩;refine .inl ⟨_,hcall,?_⟩;refine⟨by kernel_rfl,?_⟩;refine⟨fun h3=>?_,fun h3=>?_⟩
   ·have h3:¬dbc p (ns.reverse++e) D=dbc p' (ns'.reverse++e') D':=fun heq=>by rw[decide_eq_true heq] at h3;cases h3
    have hrf:=hF i j (by rw[hpj,hpj'];intro heq;simp only[Option.map_some,Option.some.injEq] at heq;exact h3 heq);subst hrf;exact rfl
   ·have h3:dbc p (ns.reverse++e) D=dbc p' (ns'.reverse++e') D':=by
     cases hd:decide (dbc p (ns.reverse++e) D=dbc p' (ns'.reverse++e') D') with
     | true=>exact of_decide_eq_true hd
     | false=>rw[hd] at h3;cases h3
    refine⟨⟨j+1,h2,fun k hk=>?_⟩,by simp;omega,⟨rfl,rfl,rfl,rfl,rfl,rfl,rfl,rfl,rfl,rfl,svc (wrap_succ (k:=j) (by omega)),trivial⟩,trivial,rfl⟩;by_cases hkj:k=j
    ·rw[hkj,hpj,hpj'];exact congrArg some h3
    ·exact hdj k (by omega)
  ·have h2:j=ps.length:=by have h:=of_decide_eq_false h2;simp only at h;omega
   refine⟨⟨i+1,h,fun k hk=>?_⟩,by simp;omega,⟨rfl,rfl,rfl,rfl,rfl,svc (wrap_succ (k:=i) (by omega)),trivial⟩,trivial,rfl⟩;by_cases hki:k=i
   ·subst hki;intro l;by_cases hl:l<ps.length
    ·exact hdj l (by omega)
    ·rw[hp,hp',List.getElem?_eq_none (by omega),List.getElem?_eq_none (by omega)];rfl
   ·exact hdone k (by omega)
 ·have h:i=(gD a).length:=by have h:=of_decide_eq_false h;simp only at h;omega
  have hrt:=hT fun k j=>by
   by_cases hk:k<i
   ·exact hdone k hk j
   ·unfold partAt;rw[List.getElem?_eq_none (by omega),List.getElem?_eq_none (by omega)];rfl
  subst hrt;refine Wsem.of ttok mixed ?_;exact rfl
theorem zYX {a b0:Cr} {e D e' D':List ByteArray} {b b':Nat} {r:Bool} (hla:(gD a).length<=1000000) (hlen:(gD a).length=(gD b0).length) (hD:D.length<=9000) (hD':D'.length<=9000)
  (hg:∀(i:Nat) g g',(gD a)[i]? = some g->(gD b0)[i]? = some g'->g.2.2.length=g'.2.2.length/\g.2.2.length<=1000000/\NamesAt g.2.1 g.1/\Uni 1 g.2.1/\NamesAt g'.2.1 g'.1/\Uni 1 g'.2.1/\e.length+g.1.length<=9000/\e'.length+g'.1.length<=9000)
  (hrec:∀(i j:Nat) g g' p p',(gD a)[i]? = some g->(gD b0)[i]? = some g'->g.2.2[j]? = some p->g'.2.2[j]? = some p'->zF Tryz.prog 85 [eC p,eC p',eG (g.1.reverse++e) D,eG (g'.1.reverse++e') D'] (.sb (decide (dbc p (g.1.reverse++e) D=dbc p' (g'.1.reverse++e') D'))))
  (hT:(∀i j,partAt a e D i j=partAt b0 e' D' i j)->r=true) (hF:∀i j,partAt a e D i j≠partAt b0 e' D' i j->r=false) :
  Wsem Tryz.prog (sn4 (sn4 (bodyC Tryz.f85))) (mkC {vs:=[(6,.v (pt b 0)),(7,.v (pt b' 0)),(16,.v (.sl (gS a))),(17,.v (.sl (gS b0)))],hp:=[(b,HO.cells (eG e D).cells),(b',HO.cells (eG e' D').cells)]})
   (fun c2=>zFM tt Tryz.f85.results.toList (.sb r) (den c2)) (fun _ _=>False) (fun c2=>zFM tt Tryz.f85.results.toList (.sb r) (den c2)):=by
 refine Wsem.seq ttok mixed ?_;have hG0:(gS a).length=(gD a).length:=by rw[zU2];simp
 refine⟨{i:Nat // i<=(gD a).length/\∀k,k<i->∀j,partAt a e D k j=partAt b0 e' D' k j},fun i=>{vs:=[(6,.v (pt b 0)),(7,.v (pt b' 0)),(16,.v (.sl (gS a))),(17,.v (.sl (gS b0))),(184,sv ((gD a).length:Nat)),(185,sv (i.1:Nat))],hp:=[(b,HO.cells (eG e D).cells),(b',HO.cells (eG e' D').cells)]},fun i=>(gD a).length-i.1,⟨0,Nat.zero_le _,fun k hk=>absurd hk (Nat.not_lt_zero k)⟩,⟨⟨rfl,rfl,rfl,rfl,svc (by rw[hG0]),rfl,trivial⟩,trivial,rfl⟩,?_⟩;rintro⟨i,hi,hdone⟩;refine⟨fun h=>?_,fun h=>?_⟩
 ·have h:i<(gD a).length:=by have h:=of_decide_eq_true h;simp only at h;omega
  have h':i<(gD b0).length:=by omega
  have hx:=List.getElem?_eq_getElem h;have hx':=List.getElem?_eq_getElem h';have hget:=zQZ h;have hget':=zQZ h';generalize (gD a)[i]=g at hx hget;generalize (gD b0)[i]=g' at hx' hget';obtain⟨q1,q2,q3,q4,q5,q6,q7,q8⟩:=hg i g g' hx hx';have hp:∀j,partAt a e D i j=(g.2.2[j]?).map fun p=>dbc p (g.1.reverse++e) D:=fun j=>by unfold partAt;rw[hx];rfl
  have hp':∀j,partAt b0 e' D' i j=(g'.2.2[j]?).map fun p=>dbc p (g'.1.reverse++e') D':=fun j=>by unfold partAt;rw[hx'];rfl
  have hr2:=fun j p p'=>hrec i j g g' p p' hx hx';obtain⟨ns,nm,ps⟩:=g;obtain⟨ns',nm',ps'⟩:=g';simp only at q1 q2 q3 q4 q5 q6 q7 q8 hp hp' hr2;have hw:=zCU e D [] ns nm q3 q4 (by omega) (by omega) (by simp;omega);have hw':=zCU e' D' [] ns' nm' q5 q6 (by omega) (by omega) (by simp;omega);refine⟨0,_,rfl,Nat.le_refl 2,?_⟩;refine⟨_,by omega,hget,rfl,?_⟩;refine .inl ⟨_,hw,?_⟩;refine⟨1,_,rfl,Nat.le_refl 2,?_⟩;refine⟨_,by omega,hget',rfl,?_⟩;refine .inl ⟨_,hw',?_⟩;refine⟨by kernel_rfl,?_⟩;refine⟨_,by omega,hget,rfl,?_⟩;refine⟨{j:Nat // j<=ps.length/\∀k,k<j->partAt a e D i k=partAt b0 e' D' i k},fun j=>{vs:=[(6,.v (pt b 0)),(7,.v (pt b' 0)),(16,.v (.sl (gS a))),(17,.v (.sl (gS b0))),(18,sv (i:Nat)),(19,.box 0 (eG (ns.reverse++e) D)),(20,.box 0 (eG (ns'.reverse++e') D')),(184,sv ((gD a).length:Nat)),(185,sv (i:Nat)),(207,sv (ps.length:Nat)),(208,sv (j.1:Nat))],hp:=[(b,HO.cells (eG e D).cells),(b',HO.cells (eG e' D').cells)]},fun j=>ps.length-j.1,⟨0,Nat.zero_le _,fun k hk=>absurd hk (Nat.not_lt_zero k)⟩,⟨⟨rfl,rfl,rfl,rfl,rfl,rfl,rfl,rfl,rfl,by show sv _=sv _;simp,rfl,trivial⟩,trivial,rfl⟩,?_⟩;rintro⟨j,hj,hdj⟩;refine⟨fun h2=>?_,fun h2=>?_⟩
  ·have h2:j<ps.length:=by have h:=of_decide_eq_true h2;simp only at h;omega
   have h2':j<ps'.length:=by omega
   have hcall:=hr2 j ps[j] ps'[j] (List.getElem?_eq_getElem h2) (List.getElem?_eq_getElem h2');have hpj:=hp j;have hpj':=hp' j;rw[List.getElem?_eq_getElem h2] at hpj;rw[List.getElem?_eq_getElem h2'] at hpj';have hgp:=zPZ h2;have hgp':=zPZ h2';generalize ps[j]=p at hcall hpj hgp;generalize ps'[j]=p' at hcall hpj' hgp';refine⟨_,by omega,hget,rfl,?_⟩;refine⟨_,by omega,hgp,rfl,?_⟩;refine⟨_,by omega,hget',rfl,?_⟩;refine⟨_,by omega,hgp',rfl,?_⟩;refine .inl ⟨_,hcall,?_⟩;refine⟨by kernel_rfl,?_⟩;refine⟨fun h3=>?_,fun h3=>?_⟩
   ·have h3:¬dbc p (ns.reverse++e) D=dbc p' (ns'.reverse++e') D':=fun heq=>by rw[decide_eq_true heq] at h3;cases h3
    have hrf:=hF i j (by rw[hpj,hpj'];intro heq;simp only[Option.map_some,Option.some.injEq] at heq;exact h3 heq);subst hrf;exact rfl
   ·have h3:dbc p (ns.reverse++e) D=dbc p' (ns'.reverse++e') D':=by
     cases hd:decide (dbc p (ns.reverse++e) D=dbc p' (ns'.reverse++e') D') with
     | true=>exact of_decide_eq_true hd
     | false=>rw[hd] at h3;cases h3
    refine⟨⟨j+1,h2,fun k hk=>?_⟩,by simp;omega,⟨rfl,rfl,rfl,rfl,rfl,rfl,rfl,rfl,rfl,rfl,svc (wrap_succ (k:=j) (by omega)),trivial⟩,trivial,rfl⟩;by_cases hkj:k=j
    ·rw[hkj,hpj,hpj'];exact congrArg some h3
    ·exact hdj k (by omega)
  ·have h2:j=ps.length:=by have h:=of_decide_eq_false h2;simp only at h;omega
   refine⟨⟨i+1,h,fun k hk=>?_⟩,by simp;omega,⟨rfl,rfl,rfl,rfl,rfl,svc (wrap_succ (k:=i) (by omega)),trivial⟩,trivial,rfl⟩;by_cases hki:k=i
   ·subst hki;intro l;by_cases hl:l<ps.length
    ·exact hdj l (by omega)
    ·rw[hp,hp',List.getElem?_eq_none (by omega),List.getElem?_eq_none (by omega)];rfl
   ·exact hdone k (by omega)
 ·have h:i=(gD a).length:=by have h:=of_decide_eq_false h;simp only at h;omega
  have hrt:=hT fun k j=>by
   by_cases hk:k<i
   ·exact hdone k hk j
   ·unfold partAt;rw[List.getElem?_eq_none (by omega),List.getElem?_eq_none (by omega)];rfl
  subst hrt;refine Wsem.of ttok mixed ?_;exact rfl
theorem z6V {a b0:Cr} {e D e' D':List ByteArray} {r:Bool} (ha:a.isN=true) (ha2:a.Ok) (haf:a.Few) (haz:a.sz<900000) (hb:b0.isN=true) (hb2:b0.Ok) (hbf:b0.Few) (hbz:b0.sz<900000)
  (hkl:a.kids.length=b0.kids.length) (hbl:a.binds.length=b0.binds.length) (hal:a.alts.length=b0.alts.length) (hon:a.own.length=b0.own.length) (hTz:a.t.sz<900000) (hTb:∀x∈a.binds,x.2.1.sz<900000)
  (hDl:D.length=D'.length) (hD:D.length<=9000) (hel:e.length=e'.length) (he:∀g∈gD a,e.length+g.1.length<=9000)
  (hrec:∀(i j:Nat) g g' p p',(gD a)[i]? = some g->(gD b0)[i]? = some g'->g.1.length=g'.1.length->g.2.2[j]? = some p->g'.2.2[j]? = some p'->zF Tryz.prog 85 [eC p,eC p',eG (g.1.reverse++e) D,eG (g'.1.reverse++e') D'] (.sb (decide (dbc p (g.1.reverse++e) D=dbc p' (g'.1.reverse++e') D'))))
  (hT:db a.t D=db b0.t D'->(∀i (hi:i<a.binds.length) (hi':i<b0.binds.length),db a.binds[i].2.1 D=db b0.binds[i].2.1 D')->(∀i (hi:i<a.alts.length) (hi':i<b0.alts.length),a.alts[i].1=b0.alts[i].1/\a.alts[i].2.1.length=b0.alts[i].2.1.length)->(∀i j,partAt a e D i j=partAt b0 e' D' i j)->r=true)
  (hF1:¬db a.t D=db b0.t D'->r=false) (hF2:∀i (hi:i<a.binds.length) (hi':i<b0.binds.length),¬db a.binds[i].2.1 D=db b0.binds[i].2.1 D'->r=false)
  (hF3:∀i (hi:i<a.alts.length) (hi':i<b0.alts.length),¬(a.alts[i].1=b0.alts[i].1/\a.alts[i].2.1.length=b0.alts[i].2.1.length)->r=false) (hF4:∀i j,partAt a e D i j≠partAt b0 e' D' i j->r=false) :
  Wsem Tryz.prog (sn4 (bodyC Tryz.f85)) (mkC {vs:=[(4,.v (.ptr (eC a).cells)),(5,.v (.ptr (eC b0).cells)),(6,.v (.ptr (eG e D).cells)),(7,.v (.ptr (eG e' D').cells)),(9,.v (.fn (.func 125) [] [.ptr (eG e D).cells,.ptr (eG e' D').cells]))]})
   (fun c2=>zFM tt Tryz.f85.results.toList (.sb r) (den c2)) (fun _ _=>False) (fun c2=>zFM tt Tryz.f85.results.toList (.sb r) (den c2)):=by
 have hlA:=wK a ha2;have hlB:=wK b0 hb2;refine Wsem.seq ttok mixed ?_;refine .inl ⟨_,zQ6 hDl (by omega) hTz,?_⟩;refine⟨fun h=>?_,fun h=>?_⟩
 ·have h:¬db a.t D=db b0.t D':=fun heq=>by rw[decide_eq_true heq] at h;cases h
  have hrf:=hF1 h;subst hrf;exact rfl
 have hty:db a.t D=db b0.t D':=by
  cases hd:decide (db a.t D=db b0.t D') with
  | true=>exact of_decide_eq_true hd
  | false=>rw[hd] at h;cases h
 have hT:=hT hty;clear h;refine Wsem.cut {vs:=[(4,.v (.ptr (eC a).cells)),(5,.v (.ptr (eC b0).cells)),(6,.v (.ptr (eG e D).cells)),(7,.v (.ptr (eG e' D').cells)),(9,.v (.fn (.func 125) [] [.ptr (eG e D).cells,.ptr (eG e' D').cells]))]} ⟨⟨rfl,rfl,rfl,rfl,rfl,trivial⟩,trivial,rfl⟩ ?_;refine Wsem.seq ttok mixed ?_;refine⟨{k:Nat // k<=a.binds.length/\∀i,i<k->∀(hi:i<a.binds.length) (hi':i<b0.binds.length),db a.binds[i].2.1 D=db b0.binds[i].2.1 D'},fun k=>{vs:=[(4,.v (.ptr (eC a).cells)),(5,.v (.ptr (eC b0).cells)),(6,.v (.ptr (eG e D).cells)),(7,.v (.ptr (eG e' D').cells)),(9,.v (.fn (.func 125) [] [.ptr (eG e D).cells,.ptr (eG e' D').cells])),(116,sv (a.binds.length:Nat)),(117,sv (k.1:Nat))]},fun k=>a.binds.length-k.1,⟨0,Nat.zero_le _,fun i hi=>absurd hi (Nat.not_lt_zero i)⟩,⟨⟨rfl,rfl,rfl,rfl,rfl,svc (by rw[zMN];simp[yS]),rfl,trivial⟩,trivial,rfl⟩,?_⟩;rintro⟨k,hk,hdone⟩;refine⟨fun h=>?_,fun h=>?_⟩
 ·have h:k<a.binds.length:=by have h:=of_decide_eq_true h;simp only at h;omega
  have h':k<b0.binds.length:=by omega
  have hF2:=hF2 k h h';have hTk:=hTb _ (List.getElem_mem h);have hgk:(a.e3 1)[k]? = some (eBd a.binds[k]):=by rw[zMN];simp[yS,List.getElem?_eq_getElem h]
  have hgk':(b0.e3 1)[k]? = some (eBd b0.binds[k]):=by rw[zMN];simp[yS,List.getElem?_eq_getElem h']
  have hnx:(db a.binds[k].2.1 D=db b0.binds[k].2.1 D')->∀i,i<k+1->∀(hi:i<a.binds.length) (hi':i<b0.binds.length),db a.binds[i].2.1 D=db b0.binds[i].2.1 D':=fun hx i hi h1 h2=>by
   by_cases hik:i=k
   ·subst hik;exact hx
   ·exact hdone i (by omega) h1 h2
  generalize a.binds[k]=x at hF2 hTk hgk hnx;generalize b0.binds[k]=y at hF2 hgk' hnx;refine⟨eBd x,by omega,hgk,rfl,?_⟩;refine⟨eBd y,by omega,hgk',rfl,?_⟩;refine .inr ⟨_,zQ6 (s:=x.2.1) (t:=y.2.1) hDl (by omega) hTk,?_⟩;refine⟨by kernel_rfl,?_⟩;refine⟨fun h2=>?_,fun h2=>?_⟩
  ·have hrf:=hF2 fun heq=>by rw[decide_eq_true heq] at h2;cases h2
   subst hrf;exact rfl
  ·have hx:db x.2.1 D=db y.2.1 D':=by
    cases hd:decide (db x.2.1 D=db y.2.1 D') with
    | true=>exact of_decide_eq_true hd
    | false=>rw[hd] at h2;cases h2
   exact⟨⟨k+1,h,hnx hx⟩,by simp;omega,⟨rfl,rfl,rfl,rfl,rfl,rfl,svc (wrap_succ (k:=k) (by omega)),trivial⟩,trivial,rfl⟩
 have h:k=a.binds.length:=by have h:=of_decide_eq_false h;simp only at h;omega
 subst h;have hT:=hT fun i h1 h2=>hdone i h1 h1 h2;refine Wsem.cut {vs:=[(4,.v (.ptr (eC a).cells)),(5,.v (.ptr (eC b0).cells)),(6,.v (.ptr (eG e D).cells)),(7,.v (.ptr (eG e' D').cells))]} ⟨⟨rfl,rfl,rfl,rfl,trivial⟩,trivial,rfl⟩ ?_;clear hdone hk h;refine Wsem.seq ttok mixed ?_;refine⟨{k:Nat // k<=a.alts.length/\∀i,i<k->∀(hi:i<a.alts.length) (hi':i<b0.alts.length),a.alts[i].1=b0.alts[i].1/\a.alts[i].2.1.length=b0.alts[i].2.1.length},fun k=>{vs:=[(4,.v (.ptr (eC a).cells)),(5,.v (.ptr (eC b0).cells)),(6,.v (.ptr (eG e D).cells)),(7,.v (.ptr (eG e' D').cells)),(138,sv (a.alts.length:Nat)),(139,sv (k.1:Nat))]},fun k=>a.alts.length-k.1,⟨0,Nat.zero_le _,fun i hi=>absurd hi (Nat.not_lt_zero i)⟩,⟨⟨rfl,rfl,rfl,rfl,svc (by rw[zJD];simp[xE]),rfl,trivial⟩,trivial,rfl⟩,?_⟩;rintro⟨k,hk,hdone⟩;refine⟨fun h=>?_,fun h=>?_⟩
 ·have h:k<a.alts.length:=by have h:=of_decide_eq_true h;simp only at h;omega
  have h':k<b0.alts.length:=by omega
  have hF3:=hF3 k h h';have hgk:(a.e3 2)[k]? = some (eAl a.alts[k]):=by rw[zJD];simp[xE,List.getElem?_eq_getElem h]
  have hgk':(b0.e3 2)[k]? = some (eAl b0.alts[k]):=by rw[zJD];simp[xE,List.getElem?_eq_getElem h']
  have hnx:(a.alts[k].1=b0.alts[k].1/\a.alts[k].2.1.length=b0.alts[k].2.1.length)->∀i,i<k+1->∀(hi:i<a.alts.length) (hi':i<b0.alts.length),a.alts[i].1=b0.alts[i].1/\a.alts[i].2.1.length=b0.alts[i].2.1.length:=fun hx i hi h1 h2=>by
   by_cases hik:i=k
   ·subst hik;exact hx
   ·exact hdone i (by omega) h1 h2
  generalize a.alts[k]=x at hF3 hgk hnx;generalize b0.alts[k]=y at hF3 hgk' hnx;obtain⟨⟨x1,x2,x3⟩,x4,x5⟩:=x;obtain⟨⟨y1,y2,y3⟩,y4,y5⟩:=y;refine⟨_,by omega,hgk,rfl,?_⟩;refine⟨_,by omega,hgk',rfl,?_⟩;refine⟨by kernel_rfl,?_⟩;refine⟨fun m1=>?_,fun m1=>?_⟩
  rotate_left
  ·have hrf:=hF3 fun hx=>by have:=hx.1;simp only[Prod.mk.injEq] at this;simp[this.1] at m1
   subst hrf;exact rfl
  refine⟨fun m2=>?_,fun m2=>?_⟩
  rotate_left
  ·have hrf:=hF3 fun hx=>by have:=hx.1;simp only[Prod.mk.injEq] at this;simp[this.2.1] at m2
   subst hrf;exact rfl
  refine⟨fun m3=>?_,fun m3=>?_⟩
  rotate_left
  ·have hrf:=hF3 fun hx=>by have:=hx.1;simp only[Prod.mk.injEq] at this;simp[this.2.2] at m3
   subst hrf;exact rfl
  refine⟨fun m4=>?_,fun m4=>?_⟩
  ·have hrf:=hF3 fun hx=>by have:=hx.2;simp only at this;simp[eSs,this] at m4
   subst hrf;exact rfl
  ·have hx:(x1,x2,x3)=(y1,y2,y3)/\x4.length=y4.length:=by
    simp at m1 m2 m3;have m4:x4.length=y4.length:=by simp[eSs] at m4;omega
    exact⟨by rw[m1,m2,m3],m4⟩
   exact⟨⟨k+1,h,hnx hx⟩,by simp;omega,⟨rfl,rfl,rfl,rfl,rfl,svc (wrap_succ (k:=k) (by omega)),trivial⟩,trivial,rfl⟩
 have h:k=a.alts.length:=by have h:=of_decide_eq_false h;simp only at h;omega
 subst h;have hah:∀i (hi:i<a.alts.length) (hi':i<b0.alts.length),a.alts[i].1=b0.alts[i].1/\a.alts[i].2.1.length=b0.alts[i].2.1.length:=fun i h1 h2=>hdone i h1 h1 h2;have hT:=hT hah;refine Wsem.cut {vs:=[(4,.v (.ptr (eC a).cells)),(5,.v (.ptr (eC b0).cells)),(6,.v (.ptr (eG e D).cells)),(7,.v (.ptr (eG e' D').cells))]} ⟨⟨rfl,rfl,rfl,rfl,trivial⟩,trivial,rfl⟩ ?_;clear hdone hk h;refine Wsem.seq ttok mixed ?_;refine .inl ⟨_,zCP a (by omega) (by omega) (by omega) (fun x hx=>Nat.le_trans (haf.alt hx).2 (by decide)),?_⟩;refine .inl ⟨_,zCP b0 (by omega) (by omega) (by omega) (fun x hx=>Nat.le_trans (hbf.alt hx).2 (by decide)),?_⟩;have hgl:=zMB a;have hgl':=zMB b0;have hgA:=zRZ ha ha2 haf (N:=a.sz) (by omega) haz;have hgB:=zRZ hb hb2 hbf (N:=b0.sz) (by omega) hbz;have hpair:∀(i:Nat) g g',(gD a)[i]? = some g->(gD b0)[i]? = some g'->g.2.2.length=g'.2.2.length/\g.1.length=g'.1.length:=by
  intro i g g' h1 h2;cases i with
  | zero =>
   have h1:some (a.names0,gNm a,a.parts0)=some g:=h1;have h2:some (b0.names0,gNm b0,b0.parts0)=some g':=h2;injection h1 with h1
   injection h2 with h2
   subst h1;subst h2;simp only[Cr.names0,Cr.parts0,List.length_append,List.length_map];omega
  | succ i =>
   have h1:(a.alts.map fun x=>(x.2.1,x.2.1.map nmV,[x.2.2]))[i]? = some g:=h1;have h2:(b0.alts.map fun x=>(x.2.1,x.2.1.map nmV,[x.2.2]))[i]? = some g':=h2;by_cases hi:i<a.alts.length
   ·rw[List.getElem?_map,List.getElem?_eq_getElem hi] at h1;rw[List.getElem?_map,List.getElem?_eq_getElem (show i<b0.alts.length by omega)] at h2;simp only[Option.map_some,Option.some.injEq] at h1 h2;subst h1;subst h2;exact⟨rfl,(hah i hi (by omega)).2⟩
   ·rw[List.getElem?_map,List.getElem?_eq_none (by omega)] at h1;cases h1
 refine Wsem.cut _ ?_ (z1R (a:=a) (b0:=b0) (e:=e) (D:=D) (e':=e') (D':=D') (r:=r) (by omega) (by omega) (by omega) (by omega) (fun i g g' h1 h2=>?_) (fun i j g g' p p' h1 h2 h3 h4=>hrec i j g g' p p' h1 h2 (hpair i g g' h1 h2).2 h3 h4) hT hF4)
 ·exact⟨⟨rfl,rfl,rfl,rfl,trivial⟩,trivial,rfl⟩
 ·have m1:=hgA g (List.mem_of_getElem? h1);have m2:=hgB g' (List.mem_of_getElem? h2);have m3:=he g (List.mem_of_getElem? h1);obtain⟨p1,p2⟩:=hpair i g g' h1 h2;exact⟨p1,m1.many,m1.names,m1.uni,m2.names,m2.uni,m3,by omega⟩
theorem z6X {a b0:Cr} {e D e' D':List ByteArray} {b b':Nat} {r:Bool} (ha:a.isN=true) (ha2:a.Ok) (haf:a.Few) (haz:a.sz<900000) (hb:b0.isN=true) (hb2:b0.Ok) (hbf:b0.Few) (hbz:b0.sz<900000)
  (hkl:a.kids.length=b0.kids.length) (hbl:a.binds.length=b0.binds.length) (hal:a.alts.length=b0.alts.length) (hon:a.own.length=b0.own.length) (hTz:a.t.sz<900000) (hTb:∀x∈a.binds,x.2.1.sz<900000) (hb7:a.binds=[])
  (hDl:D.length=D'.length) (hD:D.length<=9000) (hel:e.length=e'.length) (he:∀g∈gD a,e.length+g.1.length<=9000)
  (hrec:∀(i j:Nat) g g' p p',(gD a)[i]? = some g->(gD b0)[i]? = some g'->g.1.length=g'.1.length->g.2.2[j]? = some p->g'.2.2[j]? = some p'->zF Tryz.prog 85 [eC p,eC p',eG (g.1.reverse++e) D,eG (g'.1.reverse++e') D'] (.sb (decide (dbc p (g.1.reverse++e) D=dbc p' (g'.1.reverse++e') D'))))
  (hT:db a.t D=db b0.t D'->(∀i (hi:i<a.binds.length) (hi':i<b0.binds.length),db a.binds[i].2.1 D=db b0.binds[i].2.1 D')->(∀i (hi:i<a.alts.length) (hi':i<b0.alts.length),a.alts[i].1=b0.alts[i].1/\a.alts[i].2.1.length=b0.alts[i].2.1.length)->(∀i j,partAt a e D i j=partAt b0 e' D' i j)->r=true)
  (hF1:¬db a.t D=db b0.t D'->r=false) (hF2:∀i (hi:i<a.binds.length) (hi':i<b0.binds.length),¬db a.binds[i].2.1 D=db b0.binds[i].2.1 D'->r=false)
  (hF3:∀i (hi:i<a.alts.length) (hi':i<b0.alts.length),¬(a.alts[i].1=b0.alts[i].1/\a.alts[i].2.1.length=b0.alts[i].2.1.length)->r=false) (hF4:∀i j,partAt a e D i j≠partAt b0 e' D' i j->r=false) :
  Wsem Tryz.prog (sn4 (bodyC Tryz.f85)) (mkC {vs:=[(4,.v (.ptr (eC a).cells)),(5,.v (.ptr (eC b0).cells)),(6,.v (pt b 0)),(7,.v (pt b' 0)),(9,.v (.fn (.func 125) [] [pt b 0,pt b' 0]))],hp:=[(b,HO.cells (eG e D).cells),(b',HO.cells (eG e' D').cells)]})
   (fun c2=>zFM tt Tryz.f85.results.toList (.sb r) (den c2)) (fun _ _=>False) (fun c2=>zFM tt Tryz.f85.results.toList (.sb r) (den c2)):=by
 have hlA:=wK a ha2;have hlB:=wK b0 hb2;refine Wsem.seq ttok mixed ?_;refine .inr (.inr ⟨[0,1],_,_,rfl,by decide,zXZ hDl (by omega) hTz,?_⟩);rintro _ _ _ ⟨rfl,rfl,rfl⟩;refine⟨fun h=>?_,fun h=>?_⟩
 ·have h:¬db a.t D=db b0.t D':=fun heq=>by rw[decide_eq_true heq] at h;cases h
  have hrf:=hF1 h;subst hrf;exact rfl
 have hty:db a.t D=db b0.t D':=by
  cases hd:decide (db a.t D=db b0.t D') with
  | true=>exact of_decide_eq_true hd
  | false=>rw[hd] at h;cases h
 have hT:=hT hty;clear h;refine Wsem.cut {vs:=[(4,.v (.ptr (eC a).cells)),(5,.v (.ptr (eC b0).cells)),(6,.v (pt b 0)),(7,.v (pt b' 0)),(9,.v (.fn (.func 125) [] [pt b 0,pt b' 0]))],hp:=[(b,HO.cells (eG e D).cells),(b',HO.cells (eG e' D').cells)]} ⟨⟨rfl,rfl,rfl,rfl,rfl,trivial⟩,trivial,rfl⟩ ?_;refine Wsem.seq ttok mixed ?_;refine⟨{k:Nat // k<=a.binds.length/\∀i,i<k->∀(hi:i<a.binds.length) (hi':i<b0.binds.length),db a.binds[i].2.1 D=db b0.binds[i].2.1 D'},fun k=>{vs:=[(4,.v (.ptr (eC a).cells)),(5,.v (.ptr (eC b0).cells)),(6,.v (pt b 0)),(7,.v (pt b' 0)),(9,.v (.fn (.func 125) [] [pt b 0,pt b' 0])),(116,sv (a.binds.length:Nat)),(117,sv (k.1:Nat))],hp:=[(b,HO.cells (eG e D).cells),(b',HO.cells (eG e' D').cells)]},fun k=>a.binds.length-k.1,⟨0,Nat.zero_le _,fun i hi=>absurd hi (Nat.not_lt_zero i)⟩,⟨⟨rfl,rfl,rfl,rfl,rfl,svc (by rw[zMN];simp[yS]),rfl,trivial⟩,trivial,rfl⟩,?_⟩;rintro⟨k,hk,hdone⟩;refine⟨fun h=>?_,fun h=>?_⟩
 ·have h:k<a.binds.length:=by have h:=of_decide_eq_true h;simp only at h;omega
  rw[hb7] at h;exact absurd h (Nat.not_lt_zero k)
 have h:k=a.binds.length:=by have h:=of_decide_eq_false h;simp only at h;omega
 subst h;have hT:=hT fun i h1 h2=>hdone i h1 h1 h2;refine Wsem.cut {vs:=[(4,.v (.ptr (eC a).cells)),(5,.v (.ptr (eC b0).cells)),(6,.v (pt b 0)),(7,.v (pt b' 0))],hp:=[(b,HO.cells (eG e D).cells),(b',HO.cells (eG e' D').cells)]} ⟨⟨rfl,rfl,rfl,rfl,trivial⟩,trivial,rfl⟩ ?_;clear hdone hk h;refine Wsem.seq ttok mixed ?_;refine⟨{k:Nat // k<=a.alts.length/\∀i,i<k->∀(hi:i<a.alts.length) (hi':i<b0.alts.length),a.alts[i].1=b0.alts[i].1/\a.alts[i].2.1.length=b0.alts[i].2.1.length},fun k=>{vs:=[(4,.v (.ptr (eC a).cells)),(5,.v (.ptr (eC b0).cells)),(6,.v (pt b 0)),(7,.v (pt b' 0)),(138,sv (a.alts.length:Nat)),(139,sv (k.1:Nat))],hp:=[(b,HO.cells (eG e D).cells),(b',HO.cells (eG e' D').cells)]},fun k=>a.alts.length-k.1,⟨0,Nat.zero_le _,fun i hi=>absurd hi (Nat.not_lt_zero i)⟩,⟨⟨rfl,rfl,rfl,rfl,svc (by rw[zJD];simp[xE]),rfl,trivial⟩,trivial,rfl⟩,?_⟩;rintro⟨k,hk,hdone⟩;refine⟨fun h=>?_,fun h=>?_⟩
 ·have h:k<a.alts.length:=by have h:=of_decide_eq_true h;simp only at h;omega
  have h':k<b0.alts.length:=by omega
  have hF3:=hF3 k h h';have hgk:(a.e3 2)[k]? = some (eAl a.alts[k]):=by rw[zJD];simp[xE,List.getElem?_eq_getElem h]
  have hgk':(b0.e3 2)[k]? = some (eAl b0.alts[k]):=by rw[zJD];simp[xE,List.getElem?_eq_getElem h']
  have hnx:(a.alts[k].1=b0.alts[k].1/\a.alts[k].2.1.length=b0.alts[k].2.1.length)->∀i,i<k+1->∀(hi:i<a.alts.length) (hi':i<b0.alts.length),a.alts[i].1=b0.alts[i].1/\a.alts[i].2.1.length=b0.alts[i].2.1.length:=fun hx i hi h1 h2=>by
   by_cases hik:i=k
   ·subst hik;exact hx
   ·exact hdone i (by omega) h1 h2
  generalize a.alts[k]=x at hF3 hgk hnx;generalize b0.alts[k]=y at hF3 hgk' hnx;obtain⟨⟨x1,x2,x3⟩,x4,x5⟩:=x;obtain⟨⟨y1,y2,y3⟩,y4,y5⟩:=y;refine⟨_,by omega,hgk,rfl,?_⟩;refine⟨_,by omega,hgk',rfl,?_⟩;refine⟨by kernel_rfl,?_⟩;refine⟨fun m1=>?_,fun m1=>?_⟩
  rotate_left
  ·have hrf:=hF3 fun hx=>by have:=hx.1;simp only[Prod.mk.injEq] at this;simp[this.1] at m1
   subst hrf;exact rfl
  refine⟨fun m2=>?_,fun m2=>?_⟩
  rotate_left
  ·have hrf:=hF3 fun hx=>by have:=hx.1;simp only[Prod.mk.injEq] at this;simp[this.2.1] at m2
   subst hrf;exact rfl
  refine⟨fun m3=>?_,fun m3=>?_⟩
  rotate_left
  ·have hrf:=hF3 fun hx=>by have:=hx.1;simp only[Prod.mk.injEq] at this;simp[this.2.2] at m3
   subst hrf;exact rfl
  refine⟨fun m4=>?_,fun m4=>?_⟩
  ·have hrf:=hF3 fun hx=>by have:=hx.2;simp only at this;simp[eSs,this] at m4
   subst hrf;exact rfl
  ·have hx:(x1,x2,x3)=(y1,y2,y3)/\x4.length=y4.length:=by
    simp at m1 m2 m3;have m4:x4.length=y4.length:=by simp[eSs] at m4;omega
    exact⟨by rw[m1,m2,m3],m4⟩
   exact⟨⟨k+1,h,hnx hx⟩,by simp;omega,⟨rfl,rfl,rfl,rfl,rfl,svc (wrap_succ (k:=k) (by omega)),trivial⟩,trivial,rfl⟩
 have h:k=a.alts.length:=by have h:=of_decide_eq_false h;simp only at h;omega
 subst h;have hah:∀i (hi:i<a.alts.length) (hi':i<b0.alts.length),a.alts[i].1=b0.alts[i].1/\a.alts[i].2.1.length=b0.alts[i].2.1.length:=fun i h1 h2=>hdone i h1 h1 h2;have hT:=hT hah;refine Wsem.cut {vs:=[(4,.v (.ptr (eC a).cells)),(5,.v (.ptr (eC b0).cells)),(6,.v (pt b 0)),(7,.v (pt b' 0))],hp:=[(b,HO.cells (eG e D).cells),(b',HO.cells (eG e' D').cells)]} ⟨⟨rfl,rfl,rfl,rfl,trivial⟩,trivial,rfl⟩ ?_;clear hdone hk h;refine Wsem.seq ttok mixed ?_;refine .inl ⟨_,zCP a (by omega) (by omega) (by omega) (fun x hx=>Nat.le_trans (haf.alt hx).2 (by decide)),?_⟩;refine .inl ⟨_,zCP b0 (by omega) (by omega) (by omega) (fun x hx=>Nat.le_trans (hbf.alt hx).2 (by decide)),?_⟩;have hgl:=zMB a;have hgl':=zMB b0;have hgA:=zRZ ha ha2 haf (N:=a.sz) (by omega) haz;have hgB:=zRZ hb hb2 hbf (N:=b0.sz) (by omega) hbz;have hpair:∀(i:Nat) g g',(gD a)[i]? = some g->(gD b0)[i]? = some g'->g.2.2.length=g'.2.2.length/\g.1.length=g'.1.length:=by
  intro i g g' h1 h2;cases i with
  | zero =>
   have h1:some (a.names0,gNm a,a.parts0)=some g:=h1;have h2:some (b0.names0,gNm b0,b0.parts0)=some g':=h2;injection h1 with h1
   injection h2 with h2
   subst h1;subst h2;simp only[Cr.names0,Cr.parts0,List.length_append,List.length_map];omega
  | succ i =>
   have h1:(a.alts.map fun x=>(x.2.1,x.2.1.map nmV,[x.2.2]))[i]? = some g:=h1;have h2:(b0.alts.map fun x=>(x.2.1,x.2.1.map nmV,[x.2.2]))[i]? = some g':=h2;by_cases hi:i<a.alts.length
   ·rw[List.getElem?_map,List.getElem?_eq_getElem hi] at h1;rw[List.getElem?_map,List.getElem?_eq_getElem (show i<b0.alts.length by omega)] at h2;simp only[Option.map_some,Option.some.injEq] at h1 h2;subst h1;subst h2;exact⟨rfl,(hah i hi (by omega)).2⟩
   ·rw[List.getElem?_map,List.getElem?_eq_none (by omega)] at h1;cases h1
 refine Wsem.cut _ ?_ (zYX (a:=a) (b0:=b0) (e:=e) (D:=D) (e':=e') (D':=D') (b:=b) (b':=b') (r:=r) (by omega) (by omega) (by omega) (by omega) (fun i g g' h1 h2=>?_) (fun i j g g' p p' h1 h2 h3 h4=>hrec i j g g' p p' h1 h2 (hpair i g g' h1 h2).2 h3 h4) hT hF4)
 ·exact⟨⟨rfl,rfl,rfl,rfl,trivial⟩,trivial,rfl⟩
 ·have m1:=hgA g (List.mem_of_getElem? h1);have m2:=hgB g' (List.mem_of_getElem? h2);have m3:=he g (List.mem_of_getElem? h1);obtain⟨p1,p2⟩:=hpair i g g' h1 h2;exact⟨p1,m1.many,m1.names,m1.uni,m2.names,m2.uni,m3,by omega⟩
end Go.Proofs.YtgonkhaebmfgiaaGreatDoor
