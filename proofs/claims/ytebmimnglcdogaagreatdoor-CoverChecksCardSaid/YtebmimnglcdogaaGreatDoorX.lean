/- Compiled cases as core of the checker's. Plain. No condition. -/
import Derived.Test.YtebmimnglcdogaaGreatDoorG
import Derived.Test.YtebmimnglcdogaaGreatDoorW
import Derived.Test.YtebmimnglcdogaaGreatDoorD
import Derived.Test.YtebmimnglcdogaaGreatDoorR
set_option linter.unusedSimpArgs false
set_option linter.unusedVariables false
namespace Go.Proofs.YtebmimnglcdogaaGreatDoor
open Go Fp
set_option maxRecDepth 10000
set_option maxHeartbeats 4000000
set_option linter.unusedVariables false
set_option linter.unusedSimpArgs false
abbrev zCB (s:ByteArray):Ck.Cr := .node 1 0 s .no .nil
abbrev zHF (n:Int):Ck.Cr := .node 3 n .empty .no .nil
def yP:List Bd->Ck.Cr->Ck.Cr
 | [],g=>g
 | q::r,g => .bind q.1 q.2.1 (zCB q.2.2) (yP r g)
mutual
def toC (to:Tp):Cr->Ck.Cr
 | .fail => .node 11 0 .empty to .nil
 | .leaf bs n=>match bs with
  | []=>zHF n
  | q::r => .node 8 0 .empty .no (.kid (zHF n) (yP (q::r) .nil))
 | .cas v hs ks => .node 9 0 .empty to (.kid (zCB v) (xW to hs ks))
def xW (to:Tp):List Hd->List Cr->Ck.Cr
 | h::hs,k::ks => .alt h.1 h.2.1 h.2.2.1 h.2.2.2 (toC to k) (xW to hs ks)
 | _,_ => .nil
end
theorem zQE (g:Ck.Cr):∀l,(yP l g).e3 0=g.e3 0
 | []=>rfl
 | q::r=>zQE g r
theorem zP4 (g:Ck.Cr):∀l,(yP l g).e3 1=eLs l++g.e3 1
 | []=>rfl
 | q::r=>by show _::(yP r g).e3 1=eL q::(eLs r++g.e3 1);rw[zP4 g r];rfl
theorem zON (g:Ck.Cr):∀l,(yP l g).e3 2=g.e3 2
 | []=>rfl
 | q::r=>zON g r
theorem zBA (g:Ck.Cr):∀l,(yP l g).kids=g.kids
 | []=>rfl
 | q::r=>zBA g r
theorem zCF (g:Ck.Cr):∀l,(yP l g).binds=l.map (fun q=>(q.1,q.2.1,zCB q.2.2))++g.binds
 | []=>rfl
 | q::r=>by show _::(yP r g).binds=_;rw[zCF g r];rfl
theorem zOU (to:Tp) (k:Cr):(toC to k).f=k.f/\(toC to k).n=k.n/\(toC to k).s = .empty/\(toC to k).t=k.t to:=by
 cases k with
 | fail=>rw[toC];exact⟨rfl,rfl,rfl,rfl⟩
 | leaf bs n=>cases bs<;>rw[toC]<;>exact⟨rfl,rfl,rfl,rfl⟩
 | cas v hs ks=>rw[toC];exact⟨rfl,rfl,rfl,rfl⟩
theorem zOB (to:Tp) (k:Cr):(toC to k).e3 0=k.kids:=by
 cases k with
 | fail=>rw[toC];rfl
 | leaf bs n =>
  cases bs with
  | nil=>rw[toC];rfl
  | cons q r=>rw[toC];show _::(yP (q::r) .nil).e3 0=_;rw[zQE];rfl
 | cas v hs ks =>
  rw[toC];have:∀hs ks,(xW to hs ks).e3 0=[]:=fun hs=>by
   induction hs with
   | nil=>intro ks;rw[xW];rfl;intros;simp_all
   | cons h hs ih =>
    intro ks;cases ks with
    | nil=>rw[xW];rfl;intros;simp_all
    | cons k ks=>rw[xW];exact ih ks
  show _::(xW to hs ks).e3 0=_;rw[this];rfl
theorem zLT (to:Tp) (k:Cr):(toC to k).e3 1=k.binds:=by
 cases k with
 | fail=>rw[toC];rfl
 | leaf bs n =>
  cases bs with
  | nil=>rw[toC];rfl
  | cons q r=>rw[toC];show (yP (q::r) .nil).e3 1=_;rw[zP4];exact List.append_nil _
 | cas v hs ks =>
  rw[toC];have:∀hs ks,(xW to hs ks).e3 1=[]:=fun hs=>by
   induction hs with
   | nil=>intro ks;rw[xW];rfl;intros;simp_all
   | cons h hs ih =>
    intro ks;cases ks with
    | nil=>rw[xW];rfl;intros;simp_all
    | cons k ks=>rw[xW];exact ih ks
  show (xW to hs ks).e3 1=_;rw[this];rfl
mutual
theorem zPQ (to:Tp):∀k:Cr,(toC to k).e3 2=k.alts to
 | .fail=>by rw[toC,Cr.alts];rfl;intros;simp_all
 | .leaf bs n=>by
  cases bs with
  | nil=>rw[toC,Cr.alts];rfl;intros;simp_all
  | cons q r=>rw[toC,Cr.alts];show (yP (q::r) .nil).e3 2=_;rw[zON];rfl;intros;simp_all
 | .cas v hs ks=>by
  rw[toC,zO0];exact zL2 to hs ks
theorem zL2 (to:Tp):∀(hs:List Hd) (ks:List Cr),(xW to hs ks).e3 2=Cr.altsL to hs ks
 | h::hs,k::ks=>by
  obtain⟨h1,h2,h3,h4⟩:=zOU to k;rw[xW,zA0];show _::(xW to hs ks).e3 2=_;rw[zL2 to hs ks,h1,h2,h3,h4,zOB,zLT,zPQ to k]
  rfl
 | [],ks=>by rw[xW,Cr.altsL];rfl;all_goals (intros;simp_all)
 | _::_,[]=>by rw[xW,Cr.altsL];rfl;all_goals (intros;simp_all)
end
theorem z3P (to:Tp) (k:Cr):Ck.eC (toC to k)=eCr to k:=by
 obtain⟨h1,h2,h3,h4⟩:=zOU to k;unfold Ck.eC eCr;rw[h1,h2,h3,h4,zOB,zLT,zPQ]
theorem zGL (to:Tp):∀(hs:List Hd) (ks:List Cr),hs.length=ks.length->(xW to hs ks).alts=(hs.zip ks).map fun q=>((q.1.1,q.1.2.1,q.1.2.2.1),q.1.2.2.2,toC to q.2)
 | h::hs,k::ks,e=>by rw[xW];show _::(xW to hs ks).alts=_;rw[zGL to hs ks (by simpa using e)];rfl
 | [],[],_=>by rw[xW];rfl;intros;simp_all
 | [],_::_,e=>by simp at e
 | _::_,[],e=>by simp at e
theorem zHD (to:Tp):∀(hs:List Hd) (ks:List Cr),(xW to hs ks).kids=[]:=fun hs=>by
 induction hs with
 | nil=>intro ks;rw[xW];rfl;intros;simp_all
 | cons h hs ih =>
  intro ks;cases ks with
  | nil=>rw[xW];rfl;intros;simp_all
  | cons k ks=>rw[xW];exact ih ks
def bytes (s:ByteArray):List UInt8:=s.data.toList
theorem wU (a b:ByteArray):bytes (a++b)=bytes a++bytes b:=by unfold bytes;simp
theorem bytes_inj {a b:ByteArray} (h:bytes a=bytes b):a=b:=by
 unfold bytes at h;have:=Array.toList_inj.1 h;cases a;cases b;simp_all
theorem z0L {i j:Nat} (hi:i<3) (hj:j<3) (h:dig i=dig j):i=j:=by
 match i,j,hi,hj with
 | 0,0,_,_|1,1,_,_|2,2,_,_=>rfl
 | 0,1,_,_|0,2,_,_|1,0,_,_|1,2,_,_|2,0,_,_|2,1,_,_=>exact absurd h (by decide)
 | i+3,_,h,_=>omega
 | _,j+3,_,h=>omega
theorem zA7 {s t:ByteArray} {i j:Nat} (hi:i<3) (hj:j<3) (h:wK s i=wK t j):s=t/\i=j:=by
 have h:=congrArg bytes h;unfold wK at h;rw[wU,wU,wU,wU] at h;obtain⟨h1,h2⟩:=List.append_inj' h rfl;obtain⟨h3,_⟩:=List.append_inj' h1 rfl;exact⟨bytes_inj h3,z0L hi hj (bytes_inj h2)⟩
theorem zLN {s:ByteArray} {i:Nat} (h:wK s i=⟨#[115]⟩):False:=by
 have h:=congrArg (fun b=>(bytes b).length) h;unfold wK at h;simp only[wU,List.length_append] at h;have:(bytes (dig i)).length=1:=rfl;have:(bytes ⟨#[64]⟩).length=1:=rfl;have:(bytes ⟨#[115]⟩).length=1:=rfl;omega
mutual
def names:Pt->List ByteArray
 | .mk f _ s _ _ k=>if f=2 then [s] else yD k
def yD:List Pt->List ByteArray
 | []=>[]
 | p::ps=>names p++yD ps
end
theorem zDK (p:Pt):names p=if p.f=2 then [p.s] else yD p.k:=by cases p;rw[names];rfl
theorem zCJ:∀l m:List Pt,yD (l++m)=yD l++yD m
 | [],m=>by rw[yD];rfl
 | p::l,m=>by rw[List.cons_append,yD,yD,zCJ l m,List.append_assoc]
theorem zRC:names wJ=[]:=by rw[zDK];exact if_neg (by decide)
theorem zHN:∀n,yD (List.replicate n wJ)=[]
 | 0=>by rw[List.replicate_zero,yD]
 | n+1=>by rw[List.replicate_succ,yD,zHN n,zRC];rfl
theorem zKQ {α:Type} {l:List α} {a:Nat} {x:α} (h:l[a]? = some x):l=l.take a++x::l.drop (a+1):=by
 have ha:=(List.getElem?_eq_some_iff.1 h).1;have e:l[a]=x:=(List.getElem?_eq_some_iff.1 h).2;rw[<-e,<-List.drop_eq_getElem_cons ha,List.take_append_drop]
theorem zRA {K:Kn} {a t:Nat} {cs fs:List Nat} {y:ByteArray} {r x:Rw} (ht:TyPs cs r.ps) (ha:cs[a]? = some t) (hx:part K a y r=some x) :
  (x.lost.map (·.1)++yD x.ps).Perm (r.lost.map (·.1)++yD r.ps)/\(∀q∈r.lost,q∈x.lost)/\(∀q∈x.lost,q∈r.lost∨q.2.2=y)/\x.body=r.body:=by
 obtain⟨p,hp,hty⟩:=ht.get ha;unfold part at hx;rw[hp] at hx;simp only at hx;have e:yD r.ps=yD (r.ps.take a)++(names p++yD (r.ps.drop (a+1))):=by
  conv=>lhs;rw[zKQ hp]
  rw[zCJ,yD]
 by_cases ho:p.opn=true
 ·rw[if_pos ho] at hx;injection hx with hx;subst hx
  rw[e];simp only[zCJ,zHN,List.append_nil];by_cases h2:p.f=2
  ·refine⟨?_,fun q hq=>List.mem_append_left _ hq,fun q hq=>?_,trivial⟩
   ·rw[if_pos h2,zDK,if_pos h2,List.map_append,List.append_assoc];refine List.Perm.append_left _ ?_;simp only[List.map_cons,List.map_nil,List.cons_append,List.nil_append];exact (List.perm_middle (l₁:=yD (r.ps.take a)) (l₂:=yD (r.ps.drop (a+1))) (a:=p.s)).symm
   ·rw[if_pos h2] at hq;rcases List.mem_append.1 hq with hq|hq
    ·exact .inl hq
    ·simp at hq;subst hq;exact .inr rfl
  ·have hk:p.k=[]:=by
    cases hty with
    | any _ _ _ hk _=>exact hk
    | int _ h3 hk=>exact hk
    | con _ _ _ h4=>unfold Pt.opn at ho;simp[h4] at ho
   refine⟨?_,fun q hq=>List.mem_append_left _ hq,fun q hq=>?_,trivial⟩
   ·rw[if_neg h2,zDK,if_neg h2,hk,yD,List.append_nil];exact .refl _
   ·rw[if_neg h2,List.append_nil] at hq;exact .inl hq
 ·rw[if_neg ho] at hx;split at hx
  ·injection hx with hx;subst hx
   have h2:p.f≠2:=fun h=>ho (by simp[Pt.opn,h]);refine⟨?_,fun q hq=>hq,fun q hq => .inl hq,rfl⟩;rw[e,zDK,if_neg h2];simp only[zCJ,List.append_assoc];exact .refl _
  ·cases hx
abbrev Ct:=ByteArray->Option Nat
def ctK (Γ:Ct) (s:ByteArray) (fs:List Nat):Ct:=fun x=>match (List.range fs.length).find? fun i=>decide (x=wK s i) with
 | some i=>fs[i]?
 | none=>Γ x
theorem zTQ (Γ:Ct) {s:ByteArray} {fs:List Nat} (h2:fs.length<=2) {i:Nat} (hi:i<fs.length):ctK Γ s fs (wK s i)=fs[i]?:=by
 unfold ctK;cases hf:(List.range fs.length).find? fun j=>decide (wK s i=wK s j) with
 | none =>
  have:=List.find?_eq_none.1 hf i (List.mem_range.2 hi);simp at this
 | some j =>
  have hj:=List.mem_range.1 (List.mem_of_find?_eq_some hf);have he:wK s i=wK s j:=by simpa using List.find?_some hf
  obtain⟨_,rfl⟩:=zA7 (by omega) (by omega) he
  rfl
theorem z0U (Γ:Ct) {s x:ByteArray} {fs:List Nat} (h:∀i,i<fs.length->x≠wK s i):ctK Γ s fs x=Γ x:=by
 unfold ctK;rw[List.find?_eq_none.2 fun i hi=>by simpa using h i (List.mem_range.1 hi)]
theorem zBW (Γ:Ct) (s x:ByteArray) (fs:List Nat):(∃i,i<fs.length/\x=wK s i)∨ctK Γ s fs x=Γ x:=by
 by_cases h:∃i,i<fs.length/\x=wK s i
 ·exact .inl h
 ·exact .inr (z0U Γ fun i hi e=>h ⟨i,hi,e⟩)
theorem zUY (s:ByteArray) (i:Nat):s.size<(wK s i).size:=by
 unfold wK;rw[ByteArray.size_append,ByteArray.size_append];have:(⟨#[64]⟩:ByteArray).size=1:=rfl;omega
theorem z0O (s:ByteArray) (i:Nat):wK s i≠s:=fun h=>by have:=zUY s i;rw[h] at this;omega
theorem zSB {s:ByteArray} {c:UInt8} {r:List UInt8} (i:Nat) (h:bytes s=c::r):∃r',bytes (wK s i)=c::r':=by
 unfold wK;rw[wU,wU,h];exact⟨_,rfl⟩
structure Inv (Γ:Ct) (env:List Ck.Nm2) (ns:List ByteArray) (cs:List Nat):Prop where
 len:ns.length=cs.length
 nd:ns.Nodup
 live:∀(i:Nat) s u,ns[i]? = some s->cs[i]? = some u->Γ s=some u/\s∈env.map (·.1)/\∀j,j<3->Γ (wK s j)=none
 clo:∀s j,j<3->Γ (wK s j)≠none->Γ s≠none
 st:∀s,Γ s≠none->∃r,bytes s=115::r
 env:∀q∈env,(∃r,bytes q.1=118::r)∨∃u,Γ q.1=some u/\q.2=wTy u
theorem zI0 {ns own:List ByteArray} {cs fs:List Nat} {a:Nat} (hn:ns.length=cs.length) (ho:own.length=fs.length) (ha:a<ns.length) :
  ∀(i:Nat) s u,(xJ ns a own)[i]? = some s->(cs.take a++fs++cs.drop (a+1))[i]? = some u->(∃j:Nat,j≠a/\ns[j]? = some s/\cs[j]? = some u)∨∃j:Nat,own[j]? = some s/\fs[j]? = some u:=fun i s x hs hx=>by
 unfold xJ at hs;rw[List.append_assoc] at hx;have l1:(ns.take a).length=a:=by rw[List.length_take];omega
 have l2:(cs.take a).length=a:=by rw[List.length_take];omega
 by_cases h1:i<a
 ·rw[List.getElem?_append_left (by omega),List.getElem?_take_of_lt h1] at hs;rw[List.getElem?_append_left (by omega),List.getElem?_take_of_lt h1] at hx;exact .inl ⟨i,by omega,hs,hx⟩
 ·rw[List.getElem?_append_right (by omega),l1] at hs;rw[List.getElem?_append_right (by omega),l2] at hx;by_cases h2:i-a<own.length
  ·rw[List.getElem?_append_left h2] at hs;rw[List.getElem?_append_left (by omega)] at hx;exact .inr ⟨_,hs,hx⟩
  ·rw[List.getElem?_append_right (by omega),List.getElem?_drop] at hs;rw[List.getElem?_append_right (by omega),List.getElem?_drop,<-ho] at hx;exact .inl ⟨_,by omega,hs,hx⟩
theorem zYU {ns:List ByteArray} (h:ns.Nodup) {i j:Nat} {s x:ByteArray} (hi:ns[i]? = some s) (hj:ns[j]? = some x) (hne:i≠j):s≠x:=fun e=>by
 subst e;obtain⟨h1,h2⟩:=List.getElem?_eq_some_iff.1 hi;obtain⟨h3,h4⟩:=List.getElem?_eq_some_iff.1 hj;have hp:=List.pairwise_iff_getElem.1 h;rcases Nat.lt_or_gt_of_ne hne with hlt|hlt
 ·exact hp i j h1 h3 hlt (h2.trans h4.symm)
 ·exact hp j i h3 h1 hlt (h4.trans h2.symm)
theorem zJT {s:ByteArray} {n i:Nat} {x:ByteArray} (h:(yE s n)[i]? = some x):i<n/\x=wK s i:=by
 have hil:=(List.getElem?_eq_some_iff.1 h).1;rw[xU] at hil;unfold yE at h;rw[List.getElem?_map,List.getElem?_range hil] at h;exact⟨hil,by simpa using h.symm⟩
theorem zUO {s:ByteArray} {n:Nat} {x:ByteArray} (h:x∈yE s n):∃i,i<n/\x=wK s i:=by
 obtain⟨i,hi⟩:=List.getElem?_of_mem h;exact⟨i,zJT hi⟩
theorem Inv.con {Γ:Ct} {env:List Ck.Nm2} {ns:List ByteArray} {cs fs:List Nat} {a t:Nat} {s:ByteArray} (h:Inv Γ env ns cs) (hs:ns[a]? = some s) (ht:cs[a]? = some t) (h2:fs.length<=2) :
  Inv (ctK Γ s fs) (env++(yE s fs.length).zip (fs.map wTy)) (xJ ns a (yE s fs.length)) (cs.take a++fs++cs.drop (a+1))/\∀x u,Γ x=some u->ctK Γ s fs x=some u:=by
 obtain⟨l1,l2,l3⟩:=h.live a s t hs ht;have ha:=(List.getElem?_eq_some_iff.1 hs).1;have hlen:=h.len;have ext:∀x u,Γ x=some u->ctK Γ s fs x=some u:=fun x u hx=>by
  rcases zBW Γ s x fs with⟨i,hi,rfl⟩|he
  ·rw[l3 i (by omega)] at hx;cases hx
  ·rw[he,hx]
 have hkl:=xU s fs.length;refine⟨⟨?_,?_,?_,?_,?_,?_⟩,ext⟩
 ·rw[zF3 _ _ _ ha,hkl];simp;omega
 ·have hsub:∀x∈ns,x∉yE s fs.length:=fun x hx hm=>by
   obtain⟨i,hi,rfl⟩:=zUO hm;obtain⟨j,hj⟩:=List.getElem?_of_mem hx;have hjl:=(List.getElem?_eq_some_iff.1 hj).1;have:=(h.live j _ _ hj (List.getElem?_eq_getElem (by omega))).1;rw[l3 i (by omega)] at this;cases this
  have hkn:(yE s fs.length).Nodup:=by
   unfold yE;refine List.pairwise_map.2 (List.Pairwise.imp_of_mem (fun {i j} hi hj hne e=>?_) List.nodup_range);have hi:=List.mem_range.1 hi;have hj:=List.mem_range.1 hj;exact hne (zA7 (by omega) (by omega) e).2
  have hnd:=h.nd;unfold xJ;rw[zKQ hs] at hnd;rw[List.nodup_append] at hnd⊢;obtain⟨n1,n2,n3⟩:=hnd;refine⟨n1,?_,fun x hx y hy e=>?_⟩
  ·rw[List.nodup_append];refine⟨hkn,(List.nodup_cons.1 n2).2,fun x hx y hy e=>?_⟩;subst e;exact hsub x (List.mem_of_mem_drop hy) hx
  ·subst e;rcases List.mem_append.1 hy with hy|hy
   ·exact hsub x (List.mem_of_mem_take hx) hy
   ·exact n3 x hx x (List.mem_cons_of_mem _ hy) rfl
 ·intro i x u hx hu;rcases zI0 hlen hkl ha i x u hx hu with⟨j,hj,g1,g2⟩|⟨j,g1,g2⟩
  ·obtain⟨k1,k2,k3⟩:=h.live j x u g1 g2;refine⟨ext x u k1,by rw[List.map_append];exact List.mem_append_left _ k2,fun m hm=>?_⟩;rcases zBW Γ s (wK x m) fs with⟨i',hi',e⟩|he
   ·exact absurd (zA7 hm (by omega) e).1 (zYU h.nd g1 hs hj)
   ·rw[he];exact k3 m hm
  ·obtain⟨hj,rfl⟩:=zJT g1;refine⟨by rw[zTQ Γ h2 hj];exact g2,?_,fun m hm=>?_⟩
   ·rw[List.map_append];refine List.mem_append_right _ (List.mem_map.2 ⟨(wK s j,wTy u),List.mem_of_getElem? (i:=j) ?_,rfl⟩);rw[List.getElem?_zip_eq_some];exact⟨g1,by rw[List.getElem?_map,g2];rfl⟩
   ·rcases zBW Γ s (wK (wK s j) m) fs with⟨i',hi',e⟩|he
    ·exact absurd (zA7 hm (by omega) e).1 (z0O s j)
    ·rw[he];cases hq:Γ (wK (wK s j) m) with
     | none=>rfl
     | some v=>exact absurd (l3 j (by omega)) (h.clo (wK s j) m hm (by rw[hq];simp))
 ·intro x j hj hne;rcases zBW Γ s (wK x j) fs with⟨i',hi',e⟩|he
  ·obtain⟨rfl,_⟩:=zA7 hj (by omega) e;rw[ext x t l1];simp
  ·rw[he] at hne;have:=h.clo x j hj hne;cases hq:Γ x with
   | none=>exact absurd hq this
   | some v=>rw[ext x v hq];simp
 ·intro x hne;rcases zBW Γ s x fs with⟨i',hi',rfl⟩|he
  ·obtain⟨r,hr⟩:=h.st s (by rw[l1];simp);exact zSB i' hr
  ·rw[he] at hne;exact h.st x hne
 ·intro q hq;rcases List.mem_append.1 hq with hq|hq
  ·rcases h.env q hq with hv|⟨u,k1,k2⟩
   ·exact .inl hv
   ·exact .inr ⟨u,ext _ _ k1,k2⟩
  ·obtain⟨j,hj⟩:=List.getElem?_of_mem hq;rw[List.getElem?_zip_eq_some] at hj;obtain⟨g1,g2⟩:=hj;obtain⟨hjl,e⟩:=zJT g1;rw[List.getElem?_map,List.getElem?_eq_getElem hjl] at g2;refine .inr ⟨fs[j],by rw[e,zTQ Γ h2 hjl,List.getElem?_eq_getElem hjl],?_⟩;simpa using g2.symm
theorem Inv.less {Γ:Ct} {env:List Ck.Nm2} {ns:List ByteArray} {cs:List Nat} {a:Nat} (h:Inv Γ env ns cs) (ha:a<ns.length):Inv Γ env (xJ ns a []) (cs.take a++[]++cs.drop (a+1)):=by
 have hlen:=h.len;obtain⟨s,hs⟩:∃s,ns[a]? = some s:=⟨_,List.getElem?_eq_getElem ha⟩
 refine⟨by rw[zF3 _ _ _ ha];simp;omega,?_,fun i x u hx hu=>?_,h.clo,h.st,h.env⟩
 ·have hnd:=h.nd;rw[zKQ hs,List.nodup_append] at hnd;unfold xJ;rw[List.nil_append,List.nodup_append];exact⟨hnd.1,(List.nodup_cons.1 hnd.2.1).2,fun x hx y hy e=>hnd.2.2 x hx y (List.mem_cons_of_mem _ hy) e⟩
 ·rcases zI0 (own:=[]) (fs:=[]) hlen rfl ha i x u hx hu with⟨j,hj,g1,g2⟩|⟨j,g1,g2⟩
  ·exact h.live j x u g1 g2
  ·simp at g1
theorem Inv.name {Γ:Ct} {env:List Ck.Nm2} {ns:List ByteArray} {cs:List Nat} (h:Inv Γ env ns cs) {s:ByteArray} {u:Nat} (hu:Γ s=some u) (hs:s∈env.map (·.1)):Ck.nameT env s=some (wTy u):=by
 obtain⟨q,hq,rfl⟩:=List.mem_map.1 hs;unfold Ck.nameT;cases hf:env.reverse.find? fun p=>decide (p.1=q.1) with
 | none =>
  have:=List.find?_eq_none.1 hf q (List.mem_reverse.2 hq);simp at this
 | some p =>
  have hp:=List.mem_reverse.1 (List.mem_of_find?_eq_some hf);have he:p.1=q.1:=by simpa using List.find?_some hf
  rw[Option.map_some];rcases h.env p hp with⟨r,hr⟩|⟨v,k1,k2⟩
  ·obtain⟨r',hr'⟩:=h.st q.1 (by rw[hu];simp);rw[he,hr'] at hr;injection hr with h1 _
   exact absurd h1 (by decide)
  ·rw[he,hu] at k1;injection k1 with k1
   rw[k2,k1]
def zJ8 (fs:List Ck.Fd):Prop := ∀(t:Nat) (s:ByteArray) (us:List Nat),(s,us)∈zO t->∃f l n vs,Ck.fieldT fs s=some f/\Ck.shapeF f=some (l,n,vs)/\Ck.dp f.t<1000000/\f.ar<=1000000/\(Ck.spHd (wTy t)).form=3/\(Ck.spHd (wTy t)).nam=n/\(Ck.spAr (wTy t)).length=vs.length/\(Ck.spAr (wTy t)).length<1000000 /\
 (l.map fun x=>Ck.sub x (Ck.bys vs (wTy t)))=us.map wTy/\∀x∈l,Ck.FitX 10 x (Ck.bys vs (wTy t))
abbrev wOf (fs:List Ck.Fd) (env:List Ck.Nm2):Ck.Wd:=⟨fs,env,[],0⟩
theorem zJC (w:Nat):Ck.fv (wTy w)=[]/\Ck.dp (wTy w)=0/\Ck.sub (wTy w) []=wTy w:=by
 match w with
 | 0=>exact⟨by decide,rfl,rfl⟩
 | 1=>exact⟨by decide,rfl,rfl⟩
 | 2=>exact⟨by decide,rfl,rfl⟩
 | 3=>exact⟨by decide,rfl,rfl⟩
 | n+4=>exact⟨by simp[wTy,Ck.fv,Ck.insAll],rfl,rfl⟩
theorem zFG (u:Nat):Ck.FitX 0 (wTy u) []:=by
 obtain⟨f4,f5,_⟩:=zJC u;exact⟨⟨[],by simp,by rw[f4];simp,by simp⟩,by rw[f5];omega,by rw[f5];simp,by simp⟩
theorem zB2 (fs:List Ck.Fd) (env:List Ck.Nm2) (u:Nat):(wOf fs env).mean (wTy u)=wTy u:=(zJC u).2.2
theorem zTK (u:Nat):Ck.smb (wTy u) (wTy u) [] []=true/\Ck.dp (wTy u)<1000000000:=by
 match u with
 | 0=>exact⟨by decide,by decide⟩
 | 1=>exact⟨by decide,by decide⟩
 | 2=>exact⟨by decide,by decide⟩
 | 3=>exact⟨by decide,by decide⟩
 | n+4=>exact⟨by show Ck.smb (.app (.con sL) (.con zAW)) (.app (.con sL) (.con zAW)) [] []=true;decide,by show Ck.dp (.app (.con sL) (.con zAW))<_;decide⟩
theorem zNJ {w:Ck.Wd} {c:Ck.Cr} {u:Nat} (h:Ck.OfS w c (wTy u)):Ck.IsT w (wTy u) c:=⟨wTy u,h,(zTK u).1,(zTK u).2⟩
theorem zYN {fs:List Ck.Fd} {env:List Ck.Nm2} {s:ByteArray} {u:Nat} (hl:env.length<1000000000) (h:Ck.nameT env s=some (wTy u)):Ck.OfS (wOf fs env) (zCB s) (wTy u) :=
 Ck.of_ok (j:=0) rfl rfl rfl ((Ck.name_both (w:=wOf fs env) (c:=zCB s) hl).1 _ h)
theorem zXL (w:Ck.Wd) (n:Int):Ck.OfS w (zHF n) (wTy 0):=Ck.of_ok (j:=2) rfl rfl rfl (Ck.number_ok w (zHF n))
structure RowN (Γ:Ct) (env:List Ck.Nm2) (r:Rw):Prop where
 lost:∀q∈r.lost,∃u,Γ q.2.2=some u/\q.2.1=wTy u/\q.2.2∈env.map (·.1)
 nd:(r.lost.map (·.1)++yD r.ps).Nodup
 v:∀s∈r.lost.map (·.1)++yD r.ps,∃r',bytes s=118::r'
theorem zVA {K:Kn} {a t:Nat} {cs:List Nat} {y:ByteArray} {r x:Rw} (ht:TyPs cs r.ps) (ha:cs[a]? = some t) (hx:part K a y r=some x):∀q∈x.lost,q∈r.lost∨(q.2.2=y/\q.2.1=wTy t):=by
 obtain⟨p,hp,hty⟩:=ht.get ha;unfold part at hx;rw[hp] at hx;simp only at hx;by_cases ho:p.opn=true
 ·rw[if_pos ho] at hx;injection hx with hx;subst hx
  intro q hq;by_cases h2:p.f=2
  ·rw[if_pos h2] at hq;rcases List.mem_append.1 hq with hq|hq
   ·exact .inl hq
   ·simp at hq;subst hq;refine .inr ⟨rfl,?_⟩;cases hty with
    | any _ _ _ _ hv=>exact (hv h2).2
    | int _ h3=>omega
    | con _ _ _ h4=>omega
  ·rw[if_neg h2,List.append_nil] at hq;exact .inl hq
 ·rw[if_neg ho] at hx;split at hx
  ·injection hx with hx;subst hx;exact fun q hq => .inl hq
  ·cases hx
theorem RowN.part {Γ Γ':Ct} {env env':List Ck.Nm2} {K:Kn} {a t:Nat} {cs:List Nat} {y:ByteArray} {r x:Rw} (h:RowN Γ env r) (he:∀z u,Γ z=some u->Γ' z=some u) (hs:∀z∈env.map (·.1),z∈env'.map (·.1)) (hy:Γ' y=some t) (hye:y∈env'.map (·.1)) (ht:TyPs cs r.ps) (ha:cs[a]? = some t) (hx:YtebmimnglcdogaaGreatDoor.part K a y r=some x):RowN Γ' env' x:=by
 obtain⟨n1,_,_,_⟩:=zRA (fs:=[]) ht ha hx;refine⟨fun q hq=>?_,n1.nodup_iff.2 h.nd,fun s hs'=>h.v s (n1.mem_iff.1 hs')⟩;rcases zVA ht ha hx q hq with hq|⟨e1,e2⟩
 ·obtain⟨u,k1,k2,k3⟩:=h.lost q hq;exact⟨u,he _ _ k1,k2,hs _ k3⟩
 ·exact⟨t,by rw[e1];exact hy,e2,by rw[e1];exact hye⟩
theorem zU5 (p:Pt) (ps:List Pt) (s:ByteArray) (ns:List ByteArray):ownB (p::ps) (s::ns)=(if p.f=2 then [(p.s,p.t,s)] else [])++ownB ps ns:=by
 unfold ownB;rw[List.zip_cons_cons,List.filterMap_cons];by_cases h:p.f=2<;>simp[h]
theorem zY6 {t:Nat} {p:Pt} (h:TyP t p) (ho:p.opn=true):p.k=[]:=by
 cases h with
 | any _ _ _ hk _=>exact hk
 | int _ h3 hk=>exact hk
 | con _ _ _ h4=>unfold Pt.opn at ho;simp[h4] at ho
theorem zGN:∀{cs:List Nat} {ps:List Pt} {ns:List ByteArray},TyPs cs ps->(∀x∈ps,x.opn=true)->ns.length=cs.length ->
  (ownB ps ns).map (·.1)=yD ps/\∀q∈ownB ps ns,∃(i:Nat) (u:Nat),ns[i]? = some q.2.2/\cs[i]? = some u/\q.2.1=wTy u
 | [],[],ns,_,_,_=>⟨by simp[ownB,yD],by simp[ownB]⟩
 | t::cs,p::ps,s::ns,ht,ho,hn=>by
  obtain⟨i1,i2⟩:=zGN (cs:=cs) (ps:=ps) (ns:=ns) ht.2 (fun x hx=>ho x (by simp[hx])) (by simpa using hn);have hk:=zY6 ht.1 (ho p (by simp));rw[zU5,yD,zDK,hk,yD];by_cases hp:p.f=2
  ·simp only[if_pos hp];refine⟨by rw[List.map_append,i1];rfl,fun q hq=>?_⟩;rcases List.mem_append.1 hq with hq|hq
   ·simp at hq;subst hq;refine⟨0,t,rfl,rfl,?_⟩;cases ht.1 with
    | any _ _ _ _ hv=>exact (hv hp).2
    | int _ h3=>omega
    | con _ _ _ h4=>omega
   ·obtain⟨i,u,k1,k2,k3⟩:=i2 q hq;exact⟨i+1,u,k1,k2,k3⟩
  ·simp only[if_neg hp,List.nil_append];refine⟨i1,fun q hq=>?_⟩;obtain⟨i,u,k1,k2,k3⟩:=i2 q hq;exact⟨i+1,u,k1,k2,k3⟩
 | _::_,_::_,[],_,_,hn=>by simp at hn
set_option maxHeartbeats 8000000
theorem z1N (fs:List Ck.Fd) (env:List Ck.Nm2):Ck.OfS (wOf fs env) (toC (wTy 0) .fail) (wTy 0):=by
 have h:=Ck.fail_ok (wOf fs env) (toC (wTy 0) .fail) (K:=0) (by rw[toC];exact zFG 0);refine Ck.of_ok (j:=10) rfl (by rw[toC];rfl) (by rw[toC];rfl) ?_;rw[show (wOf fs env).mean (toC (wTy 0) .fail).t=wTy 0 by rw[toC];exact zB2 fs env 0] at h;exact h
theorem z1C {fs:List Ck.Fd} {Γ:Ct} {env:List Ck.Nm2} {ns:List ByteArray} {cs:List Nat} (hI:Inv Γ env ns cs) (bs:List Bd) (n:Int) (hl:env.length+bs.length<=100000) (hnd:(bs.map (·.1)).Nodup) (hv:∀s∈bs.map (·.1),∃r,bytes s=118::r)
  (hb:∀q∈bs,∃u,Γ q.2.2=some u/\q.2.1=wTy u/\q.2.2∈env.map (·.1)):Ck.OfS (wOf fs env) (toC (wTy 0) (.leaf bs n)) (wTy 0):=by
 cases bs with
 | nil=>rw[toC];exact zXL _ n
 | cons q0 bs0 =>
  generalize hbs:q0::bs0=bs at *;have htc:toC (wTy 0) (.leaf bs n) = .node 8 0 .empty .no (.kid (zHF n) (yP bs .nil)):=by subst hbs;rw[toC]
  rw[htc];have hk:(Ck.Cr.node 8 0 .empty .no (.kid (zHF n) (yP bs .nil))).kids=[zHF n]:=by show zHF n::(yP bs .nil).kids=_;rw[zBA];rfl
  have hbd:(Ck.Cr.node 8 0 .empty .no (.kid (zHF n) (yP bs .nil))).binds=bs.map fun q=>(q.1,q.2.1,zCB q.2.2):=by show (yP bs .nil).binds=_;rw[zCF];exact List.append_nil _
  have hB:=Ck.kBinds_ok (w:=wOf fs env) (l:=bs.map fun q=>(q.1,q.2.1,zCB q.2.2)) (by simpa using hl) (by rw[List.map_map];exact hnd) (K:=0) (fun b hbm=>by
   obtain⟨q,hq,rfl⟩:=List.mem_map.1 hbm;obtain⟨u,_,e,_⟩:=hb q hq;show Ck.FitX 0 q.2.1 [];rw[e];exact zFG u) (fun b hbm=>by
   obtain⟨q,hq,rfl⟩:=List.mem_map.1 hbm;obtain⟨u,g1,e,g2⟩:=hb q hq;show Ck.IsT _ ((wOf fs env).mean q.2.1) (zCB q.2.2);rw[e,zB2];refine zNJ (zYN (by show (env++Ck.bdL _ _).length<_;rw[List.length_append];unfold Ck.bdL;rw[List.length_map,List.length_map];omega) ?_);have hI2:Inv Γ (env++Ck.bdL (wOf fs env) (bs.map fun q=>(q.1,q.2.1,zCB q.2.2))) ns cs:=by
    refine⟨hI.len,hI.nd,fun i s u h1 h2=>?_,hI.clo,hI.st,fun p hp=>?_⟩
    ·obtain⟨k1,k2,k3⟩:=hI.live i s u h1 h2;exact⟨k1,by rw[List.map_append];exact List.mem_append_left _ k2,k3⟩
    ·rcases List.mem_append.1 hp with hp|hp
     ·exact hI.env p hp
     ·unfold Ck.bdL at hp;obtain⟨b,hb1,rfl⟩:=List.mem_map.1 hp;obtain⟨q',hq',rfl⟩:=List.mem_map.1 hb1;exact .inl (hv _ (List.mem_map.2 ⟨q',hq',rfl⟩))
   exact hI2.name g1 (by rw[List.map_append];exact List.mem_append_left _ g2))
  rw[<-hbd] at hB;exact Ck.of_ok (j:=7) rfl rfl (by rw[hk];rfl) (Ck.kLet_ok hk hB (zXL _ n))
theorem zX7 {fs:List Ck.Fd} {env:List Ck.Nm2} {v:ByteArray} {t:Nat} {hs:List Hd} {ks:List Cr} (hl:env.length<100000) (hlen:hs.length=ks.length) (hmany:hs.length<=1000000) (hn:Ck.nameT env v=some (wTy t))
  (h:∀(i:Nat) hd k,hs[i]? = some hd->ks[i]? = some k->Ck.AltT (wOf fs env) (wTy t) (wTy 0) ((hd.1,hd.2.1,hd.2.2.1),hd.2.2.2,toC (wTy 0) k)):Ck.OfS (wOf fs env) (toC (wTy 0) (.cas v hs ks)) (wTy 0):=by
 have htc:toC (wTy 0) (.cas v hs ks) = .node 9 0 .empty (wTy 0) (.kid (zCB v) (xW (wTy 0) hs ks)):=by rw[toC]
 rw[htc];have hk:(Ck.Cr.node 9 0 .empty (wTy 0) (.kid (zCB v) (xW (wTy 0) hs ks))).kids=[zCB v]:=by show zCB v::(xW (wTy 0) hs ks).kids=_;rw[zHD]
 have ha:(Ck.Cr.node 9 0 .empty (wTy 0) (.kid (zCB v) (xW (wTy 0) hs ks))).alts=(hs.zip ks).map fun q=>((q.1.1,q.1.2.1,q.1.2.2.1),q.1.2.2.2,toC (wTy 0) q.2):=zGL (wTy 0) hs ks hlen;have hC:=Ck.kCase_ok (w:=wOf fs env) (t:=wTy t) (K:=0) hk (zYN (by omega) hn) (zFG 0) (by rw[ha];simp;omega) (fun a ham=>by
  rw[ha] at ham;obtain⟨q,hq,rfl⟩:=List.mem_map.1 ham;obtain⟨i,hi⟩:=List.getElem?_of_mem hq;rw[List.getElem?_zip_eq_some] at hi;show Ck.AltT (wOf fs env) (wTy t) ((wOf fs env).mean (wTy 0)) _;rw[zB2];exact h i q.1 q.2 hi.1 hi.2)
 rw[show (wOf fs env).mean (Ck.Cr.node 9 0 .empty (wTy 0) (.kid (zCB v) (xW (wTy 0) hs ks))).t=wTy 0 from zB2 fs env 0] at hC;exact Ck.of_ok (j:=8) rfl rfl (by rw[hk];rfl) hC
theorem z01 {fs:List Ck.Fd} (hF:zJ8 fs) (hfl:fs.length<1000) {env:List Ck.Nm2} (hl:env.length+2<=100000) {t:Nat} {s v:ByteArray} {us:List Nat} (hs:(s,us)∈zO t) (hnd:(yE v us.length).Nodup) {c:Ck.Cr} (h:Ck.OfS (wOf fs (env++(yE v us.length).zip (us.map wTy))) c (wTy 0)):Ck.AltT (wOf fs env) (wTy t) (wTy 0) ((1,0,s),yE v us.length,c):=by
 obtain⟨f,l,n,vs,h1,h2,h3,h4,h5,h6,h7,h8,h9,h10⟩:=hF t s us hs;have h2':=(wQ hs).1;have hll:l.length=us.length:=by have:=congrArg List.length h9;simpa using this
 refine⟨(wOf fs env).more (Ck.takenNs (yE v us.length) l (Ck.bys vs (wTy t))),Ck.tk_con (w:=wOf fs env) (a:=((1,0,s),yE v us.length,c)) rfl (by show fs.length<_;omega) h1 h2 h3 h4 h8 ⟨h5,h6,h7,by show (yE v us.length).length=_;rw[xU,hll],hnd⟩ h10 (by show env.length+(yE v us.length).length<=_;rw[xU];simp only at h2';omega),zNJ ?_⟩;have:(wOf fs env).more (Ck.takenNs (yE v us.length) l (Ck.bys vs (wTy t)))=wOf fs (env++(yE v us.length).zip (us.map wTy)):=by
  unfold Ck.takenNs Ck.Wd.more;rw[h9]
 rw[this];exact h
theorem z1I {fs:List Ck.Fd} {env:List Ck.Nm2} {x:Int} {c:Ck.Cr} (h:Ck.OfS (wOf fs env) c (wTy 0)):Ck.AltT (wOf fs env) (wTy 0) (wTy 0) ((2,x,.empty),[],c) :=
 ⟨wOf fs env,Ck.tk_int (w:=wOf fs env) (t:=wTy 0) (a:=((2,x,.empty),[],c)) rfl (by decide) (by decide),zNJ h⟩
theorem zWW {fs:List Ck.Fd} {env:List Ck.Nm2} {t:Nat} {c:Ck.Cr} (h:Ck.OfS (wOf fs env) c (wTy 0)):Ck.AltT (wOf fs env) (wTy t) (wTy 0) ((3,0,.empty),[],c) :=
 ⟨wOf fs env,Ck.tk_else (wOf fs env) (wTy t) (a:=((3,0,.empty),[],c)) rfl,zNJ h⟩
theorem zQW {fs:List Ck.Fd} (hF:zJ8 fs) (hfl:fs.length<1000) (b:Nat->Int):∀(n:Nat) (l:List Rw) (cs:List Nat) (ns:List ByteArray) (Γ:Ct) (env:List Ck.Nm2),RowsTy cs n l->Inv Γ env ns cs->(∀r∈l,RowN Γ env r)->env.length+3*n<=60000->Ck.OfS (wOf fs env) (toC (wTy 0) (made b n l ns)) (wTy 0):=by
 intro n;induction n with
 | zero=>intro l cs ns Γ env h;have:=h.fuel;omega
 | succ n ih =>
  intro l cs ns Γ env h hI hN hE;have hcap:=h.cap;have hfu:=h.fuel;have hn:=hI.len;cases l with
  | nil=>rw[made];exact z1N fs env
  | cons r l =>
   have hrow:=h.row r (by simp);have hrt:=hrow.ty;have hpl:=hrt.len;have hlost:=hrow.lost;obtain⟨i,hi⟩:=zG6 r.ps;rcases hi with⟨k,rfl,hk,h1,h2⟩|⟨rfl,ho⟩
   ·obtain⟨t,ha⟩:∃t,cs[k]? = some t:=⟨_,List.getElem?_eq_getElem (by omega)⟩
    obtain⟨p,hp,hty⟩:=hrt.get ha;have hpk:p=r.ps[k]:=by rw[List.getElem?_eq_getElem hk] at hp;injection hp with hp;exact hp.symm
    have hop:p.opn=false:=by rw[hpk];exact h1
    obtain⟨s,hs⟩:∃s,ns[k]? = some s:=⟨_,List.getElem?_eq_getElem (by omega)⟩
    have hkn:k<ns.length:=by omega
    obtain⟨l1,l2,l3⟩:=hI.live k s t hs ha;have hname:=hI.name l1 l2;have hix:=zBD hk h1 h2;have h43:p.f=4∨p.f=3:=by
     have:=hty.form.1;simp only[Pt.opn,Bool.or_eq_false_iff,decide_eq_false_iff_not] at hop;omega
    by_cases h4:p.f=4
    ·rcases zA2 ha h.tys with⟨_,hno⟩|⟨hks,ht0,ht5,hh⟩
     ·exact absurd h4 (hno r (by simp) p hp)
     ·have hmd:made b (n+1) (r::l) ns = .cas s ((qA t).map fun q=>(1,0,q.1,yE s q.2.length)) ((qA t).map fun q=>made b n (parts (.con q.1 q.2.length) k s (r::l)) (xJ ns k (yE s q.2.length))):=by
       rw[made,hix];simp only[hp,hs,if_pos h4,hks]
      rw[hmd];have hc3:=zDT t;refine zX7 (by omega) (by simp) (by simp;omega) hname fun i hd c hhd hc=>?_;rw[List.getElem?_map] at hhd hc;cases hq:(qA t)[i]? with
      | none=>rw[hq] at hhd;cases hhd
      | some q =>
       rw[hq] at hhd hc;simp only[Option.map_some,Option.some.injEq] at hhd hc;subst hhd;subst hc;obtain⟨us,hus,hul⟩:=zC5 (List.mem_of_getElem? hq);have h2u:=(wQ hus).1;simp only at h2u;have hR:=h.conA (y:=s) ha hus ⟨r,by simp,p,hp,h4⟩;rw[<-hul];obtain⟨hI',hext⟩:=hI.con hs ha h2u;have hnd:(yE s us.length).Nodup:=by
        unfold yE;refine List.pairwise_map.2 (List.Pairwise.imp_of_mem (fun {i j} hi hj hne e=>?_) List.nodup_range);have hi:=List.mem_range.1 hi;have hj:=List.mem_range.1 hj;exact hne (zA7 (by omega) (by omega) e).2
       refine z01 hF hfl (by omega) hus hnd (ih _ _ _ _ _ hR hI' (fun x hx=>?_) ?_)
       ·obtain⟨r',hr',hp'⟩:=List.mem_filterMap.1 hx;exact (hN r' hr').part hext (fun z hz=>by rw[List.map_append];exact List.mem_append_left _ hz) (hext _ _ l1) (by rw[List.map_append];exact List.mem_append_left _ l2) (h.tys r' hr') ha hp'
       ·rw[List.length_append,List.length_zip,xU,List.length_map];omega
    ·have h3:p.f=3:=by omega
     obtain⟨rfl,_,_⟩:=zNB hty h3;have hmd:made b (n+1) (r::l) ns = .cas s ((intsOf k (r::l)).map (fun x=>(2,x,.empty,[]))++[(3,0,.empty,[])]) ((intsOf k (r::l)).map (fun x=>made b n (parts (.int x) k s (r::l)) (xJ ns k []))++[made b n (parts .none k s (r::l)) (xJ ns k [])]):=by
      rw[made,hix];simp only[hp,hs,if_neg h4]
     rw[hmd];have go:∀K:Kn,Fit 0 K []->Ck.OfS (wOf fs env) (toC (wTy 0) (made b n (parts K k s (r::l)) (xJ ns k []))) (wTy 0):=fun K hK=>by
      refine ih _ _ _ _ _ (h.lessA (y:=s) ha hK) (hI.less hkn) (fun x hx=>?_) (by omega);obtain⟨r',hr',hp'⟩:=List.mem_filterMap.1 hx;exact (hN r' hr').part (fun _ _ h=>h) (fun _ h=>h) l1 l2 (h.tys r' hr') ha hp'
     have hil:(intsOf k (r::l)).length<=(r::l).length:=Nat.le_trans (zDS k (r::l) []) (by rw[List.length_nil];omega);have hll:=h.len;refine zX7 (by omega) (by simp) (by simp at hil hll⊢;omega) hname fun i hd c hhd hc=>?_;by_cases hi2:i<(intsOf k (r::l)).length
     ·rw[List.getElem?_append_left (by simpa using hi2),List.getElem?_map,List.getElem?_eq_getElem hi2] at hhd hc;simp only[Option.map_some,Option.some.injEq] at hhd hc;subst hhd;subst hc;exact z1I (go (.int _) (.int _))
     ·rw[List.getElem?_append_right (by simp;omega)] at hhd hc;simp only[List.length_map] at hhd hc;have hz:i-(intsOf k (r::l)).length=0:=by
       have:=(List.getElem?_eq_some_iff.1 hhd).1;simp at this;omega
      rw[hz] at hhd hc;simp only[List.getElem?_cons_zero,Option.some.injEq] at hhd hc;subst hhd;subst hc;exact zWW (go .none (.none 0))
   ·have hmd:made b (n+1) (r::l) ns = .leaf (r.lost++ownB r.ps ns) (b r.body):=by rw[made,zCY ho]
    rw[hmd];obtain⟨i1,i2⟩:=zGN hrt ho hn;have hR:=hN r (by simp);have hm:(r.lost++ownB r.ps ns).map (·.1)=r.lost.map (·.1)++yD r.ps:=by rw[List.map_append,i1]
    have hol:(ownB r.ps ns).length<=cs.length:=by
     unfold ownB;refine Nat.le_trans (List.length_filterMap_le _ _) ?_;rw[List.length_zip];omega
    refine z1C hI _ _ (by rw[List.length_append];omega) (by rw[hm];exact hR.nd) (fun x hx=>hR.v x (by rw[<-hm];exact hx)) fun q hq=>?_;rcases List.mem_append.1 hq with hq|hq
    ·exact hR.lost q hq
    ·obtain⟨i,u,k1,k2,k3⟩:=i2 q hq;obtain⟨m1,m2,_⟩:=hI.live i _ u k1 k2;exact⟨u,m1,k3,m2⟩
end Go.Proofs.YtebmimnglcdogaaGreatDoor
