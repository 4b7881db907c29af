/- Worlds, and the same without names; what an alternative gives. Plain. No condition. -/
import Derived.Test.YtdmbahepaglcbaaGreatDoorW
import Derived.Test.YtdmbahepaglcbaaGreatDoorE
import Derived.Test.YtdmbahepaglcbaaGreatDoorT
import Derived.Test.YtdmbahepaglcbaaGreatDoorL
import Derived.Test.YtdmbahepaglcbaaGreatDoorO
set_option linter.unusedSimpArgs false
set_option linter.unusedVariables false
namespace Go.Proofs.YtdmbahepaglcbaaGreatDoor
open Go Fp
set_option maxRecDepth 10000
set_option maxHeartbeats 8000000
set_option linter.unusedVariables false
set_option linter.unusedSimpArgs false
structure RelW (w:Wd) (e d:List ByteArray) (W:DW):Prop where
 fs:W.fs=w.fs
 deep:W.deep=w.deep
 env1:∀s∈e,∃t,xX w.env s=some t/\W.bn[ixN e s]? = some (db t [])
 env2:∀s,s∉e->W.nm s=(xX w.env s).map fun t=>db t []
 tv:∀y,(y∈d->yV y w.ps = .var (W.own.getD (ixN d y) .empty))/\(y∉d->yV y w.ps = .var y)
theorem RelW.mean {w:Wd} {e d:List ByteArray} {W:DW} (h:RelW w e d W) (t:Tp):db (w.mean t) []=W.mean (db t d):=z96 fun y _=>h.tv y
theorem zJ8 (l:List Nm2) (x:Nm2) (s:ByteArray):xX (l++[x]) s=if x.1=s then some x.2 else xX l s:=by
 unfold xX;rw[List.reverse_append,List.reverse_singleton,List.singleton_append,List.find?_cons];by_cases h:x.1=s
 ·rw[if_pos h,decide_eq_true h];rfl
 ·rw[if_neg h,decide_eq_false h]
theorem RelW.one {w:Wd} {e d:List ByteArray} {W:DW} (h:RelW w e d W) (x:Nm2):RelW (w.more [x]) (x.1::e) d {W with bn:=db x.2 []::W.bn}:=by
 have hn:∀s,xX (w.more [x]).env s=if x.1=s then some x.2 else xX w.env s:=zJ8 w.env x
 refine⟨h.fs,h.deep,fun s hs=>?_,fun s hs=>?_,h.tv⟩
 ·rw[hn s];by_cases e1:x.1=s
  ·rw[if_pos e1];exact⟨_,rfl,by simp[ixN,e1]⟩
  ·rw[if_neg e1];obtain⟨t,h1,h2⟩:=h.env1 s ((List.mem_cons.1 hs).resolve_left (Ne.symm e1));exact⟨t,h1,by rw[zBC e1];exact h2⟩
 ·simp only[List.mem_cons,not_or] at hs;rw[hn s,if_neg (Ne.symm hs.1)];exact h.env2 s hs.2
theorem RelW.mores (l:List Nm2):∀{w:Wd} {e d:List ByteArray} {W:DW},RelW w e d W->RelW (w.more l) ((l.map (·.1)).reverse++e) d (W.mores (l.map fun x=>db x.2 [])):=by
 induction l with
 | nil=>intro w e d W h;rw[zHL];exact h
 | cons x l ih =>
  intro w e d W h;have:=ih (h.one x);rw[Wd.more_more] at this;rw[show (List.map (·.1) (x::l)).reverse++e=(l.map (·.1)).reverse++(x.1::e) by simp];rw[show W.mores (List.map (fun x=>db x.2 []) (x::l))=({W with bn:=db x.2 []::W.bn}:DW).mores (l.map fun x=>db x.2 []) by simp[DW.mores]];exact this
theorem RelW.all {w:Wd} {e d:List ByteArray} {W:DW} (h:RelW w e d W) (s:ByteArray):RelW (w.all s (jM w.deep)) e (s::d) W.all:=by
 refine⟨h.fs,by show W.deep+1=w.deep+1;rw[h.deep],h.env1,h.env2,fun y=>?_⟩;show (y∈s::d->yV y (zBI s w.ps++[(s,.var (jM w.deep))])=_)/\(_->yV y (zBI s w.ps++[(s,.var (jM w.deep))])=_);by_cases hy:s=y
 ·subst hy;refine⟨fun _=>?_,fun q=>absurd List.mem_cons_self q⟩;unfold yV;rw[zMP];simp[ixN,DW.all,h.deep]
 ·have e1:yV y (zBI s w.ps++[(s,.var (jM w.deep))])=yV y w.ps:=by unfold yV;rw[zLS (Ne.symm hy)]
  rw[e1];refine⟨fun q=>?_,fun q=>(h.tv y).2 fun q2=>q (List.mem_cons_of_mem _ q2)⟩;have q:=(List.mem_cons.1 q).resolve_left (Ne.symm hy);rw[(h.tv y).1 q,zBC hy];simp[DW.all]
theorem z8R {t:Tp} {s:ByteArray}:db t [] = .con s↔t = .con s:=by
 cases t with
 | con u=>simp[db]
 | var u=>simp[db,memb]
 | _=>simp[db]
theorem z0Y (t:Tp):zCM (db t [])=if (partsOf t).2.2=true then some (db (partsOf t).1 [],db (partsOf t).2.1 []) else none:=by
 cases t with
 | app f b =>
  cases f with
  | app c a =>
   cases c with
   | con s =>
    show (if s=arrow then some (db a [],db b []) else none)=_;by_cases hs:s=arrow
    ·subst hs;rfl
    ·have e:partsOf (.app (.app (.con s) a) b)=(.no,.no,false):=by simp[partsOf,Tp.form,Tp.nam,hs]
     rw[if_neg hs,e];rfl
   | var s=>simp[db,memb,zCM,partsOf,Tp.form]
   | _=>simp[db,zCM,partsOf,Tp.form]
  | var s=>simp[db,memb,zCM,partsOf]
  | _=>simp[db,zCM,partsOf]
 | var s=>simp[db,memb,zCM,partsOf]
 | _=>simp[db,zCM,partsOf]
theorem za6 (t:Tp):zTX (db t [])=db (zAC t) []:=by
 induction t with
 | app a b ih _=>exact ih
 | var s=>simp[db,memb,zTX,zAC]
 | _=>rfl
theorem zXS (t:Tp):zH7 (db t [])=(xB t).map fun x=>db x []:=by
 induction t with
 | app a b ih _=>show db b []::zH7 (db a [])=_;rw[ih];rfl
 | var s=>simp[db,memb,zH7,xB]
 | _=>rfl
theorem zbE (y:ByteArray):∀(vs:List ByteArray) (l:List Tp),db (yV y (vs.zip l)) []=atD vs (l.map fun x=>db x []) y
 | [],l=>by simp[yV,look,atD,db,memb]
 | v::vs,[]=>by simp[yV,look,atD,db,memb]
 | v::vs,t::l=>by
  have ih:=zbE y vs l;unfold yV at ih⊢;simp only[List.zip_cons_cons,look,List.map_cons,atD];split
  ·rfl
  ·exact ih
theorem z9N (x t:Tp) (vs:List ByteArray):db (sub x (bys vs t)) []=sb (atD vs (zH7 (db t [])).reverse) (db x []):=by
 rw[zRD]
 congr 1
 funext y
 rw[zbE,zXS,List.map_reverse]
theorem zXJ (t:Tp) (s:ByteArray):smb t (.con s) [] []=true↔db t [] = .con s:=zP8 t (.con s) [] [] rfl
theorem z0R {w:Wd} {e d:List ByteArray} {W:DW} (h:RelW w e d W) (t:Tp) (a:Al) (hn:a.2.1.Nodup) (hv:a.1.1=1∨a.2.1=[]) :
  (∃w' W',zDN w t a=some w'/\jZ W (db t []) a.1 a.2.1.length=some W'/\RelW w' (a.2.1.reverse++e) d W')∨(zDN w t a=none/\jZ W (db t []) a.1 a.2.1.length=none):=by
 unfold zDN jZ;by_cases h3:a.1.1=3
 ·rw[if_pos h3,if_pos h3];have hv:a.2.1=[]:=hv.resolve_left (by omega);exact .inl ⟨w,W,rfl,rfl,by rw[hv];exact h⟩
 rw[if_neg h3,if_neg h3];by_cases h2:a.1.1=2
 ·rw[if_pos h2,if_pos h2];have hv:a.2.1=[]:=hv.resolve_left (by omega);by_cases hs:smb t (.con xU) [] []=true
  ·rw[if_pos hs,if_pos ((zXJ t xU).1 hs)];exact .inl ⟨w,W,rfl,rfl,by rw[hv];exact h⟩
  ·rw[if_neg hs,if_neg fun q=>hs ((zXJ t xU).2 q)];exact .inr ⟨rfl,rfl⟩
 rw[if_neg h2,if_neg h2];by_cases h1:a.1.1=1
 ·rw[if_pos h1,if_pos h1,h.fs];cases hf:wW w.fs a.1.2.2 with
  | none=>exact .inr ⟨rfl,rfl⟩
  | some f =>
   simp only;cases hsh:qF f with
   | none=>exact .inr ⟨rfl,rfl⟩
   | some q =>
    obtain⟨l,n,vs⟩:=q;simp only;have hiff:((zAC t).form=3/\(zAC t).nam=n/\(xB t).length=vs.length/\a.2.1.length=l.length/\a.2.1.Nodup)↔(zTX (db t []) = .con n/\(zH7 (db t [])).length=vs.length/\a.2.1.length=l.length):=by
     rw[za6,z8R,zXS,List.length_map];constructor
     ·rintro⟨q1,q2,q3,q4,_⟩;refine⟨?_,q3,q4⟩;cases hh:zAC t with
      | con u=>rw[hh] at q2;rw[<-q2];rfl
      | _=>rw[hh] at q1;simp[Tp.form] at q1
     ·rintro⟨q1,q2,q3⟩;rw[q1];exact⟨rfl,rfl,q2,q3,hn⟩
    by_cases hc:(zAC t).form=3/\(zAC t).nam=n/\(xB t).length=vs.length/\a.2.1.length=l.length/\a.2.1.Nodup
    ·rw[if_pos hc,if_pos (hiff.1 hc)];refine .inl ⟨_,_,rfl,rfl,?_⟩;have hl:a.2.1.length=(l.map fun x=>sub x (bys vs t)).length:=by rw[List.length_map];exact hc.2.2.2.1
     have hm:=h.mores (xI a.2.1 l (bys vs t));have e1:(xI a.2.1 l (bys vs t)).map (·.1)=a.2.1:=List.map_fst_zip (by omega);have e2:((xI a.2.1 l (bys vs t)).map fun x=>db x.2 [])=l.map fun x=>sb (atD vs (zH7 (db t [])).reverse) (db x []):=by
      have:(xI a.2.1 l (bys vs t)).map (·.2)=l.map fun x=>sub x (bys vs t):=List.map_snd_zip (by omega);rw[show (xI a.2.1 l (bys vs t)).map (fun x=>db x.2 [])=((xI a.2.1 l (bys vs t)).map (·.2)).map (fun t=>db t []) by rw[List.map_map];rfl,this,List.map_map];exact List.map_congr_left fun x _=>z9N x t vs
     rw[e1,e2] at hm;exact hm
    ·rw[if_neg hc,if_neg fun q=>hc (hiff.2 q)];exact .inr ⟨rfl,rfl⟩
 ·rw[if_neg h1,if_neg h1];exact .inr ⟨rfl,rfl⟩
theorem zLI {α:Type} {P Q:α->Prop}:∀l:List α,(∀x∈l,P x∨Q x)->(∀x∈l,P x)∨∃m,∃h:m<l.length,Q l[m]/\∀(k:Nat) (hk:k<l.length),k<m->P l[k]
 | [],_ => .inl fun x hx=>by cases hx
 | x::l,h=>by
  rcases h x List.mem_cons_self with hp|hq
  ·rcases zLI l fun y hy=>h y (List.mem_cons_of_mem _ hy) with h1|⟨m,hm,h1,h2⟩
   ·refine .inl fun y hy=>?_;rcases List.mem_cons.1 hy with rfl|hy
    ·exact hp
    ·exact h1 y hy
   ·refine .inr ⟨m+1,by simp;omega,h1,fun k hk hkm=>?_⟩;cases k with
    | zero=>exact hp
    | succ k=>exact h2 k (by simp at hk;omega) (by omega)
  ·exact .inr ⟨0,by simp,hq,fun k hk hkm=>absurd hkm (Nat.not_lt_zero _)⟩
def Cr.Dk:Cr->Nat->Prop
 | .nil,_=>True
 | .node _ _ _ _ g,k=>(g = .nil∨0<k)/\g.Dk (k-1)
 | .kid p r,k=>p.Dk k/\r.Dk k
 | .bind _ _ p r,k=>p.Dk k/\r.Dk k
 | .alt f _ _ vs p r,k=>(f=1∨vs=[])/\p.Dk k/\r.Dk k
theorem Dk.kid {g:Cr} (h:g.isN=false) (ho:g.Ok) {k:Nat} (hk:g.Dk k):∀p∈g.kids,p.Dk k:=by
 induction g with
 | nil=>intro p hp;cases hp
 | node=>cases h
 | kid q r _ ih =>
  intro p hp;rcases List.mem_cons.1 hp with rfl|hp
  ·exact hk.1
  ·exact ih ho.2.1 ho.2.2.2 hk.2 p hp
 | bind x t q r _ ih=>intro p hp;exact ih ho.2.1 ho.2.2.2.2 hk.2 p hp
 | alt f n s vs q r _ ih=>intro p hp;exact ih ho.2.1 ho.2.2.2.2.2.2 hk.2.2 p hp
theorem Dk.bind {g:Cr} (h:g.isN=false) (ho:g.Ok) {k:Nat} (hk:g.Dk k):∀b∈g.binds,b.2.2.Dk k:=by
 induction g with
 | nil=>intro p hp;cases hp
 | node=>cases h
 | kid q r _ ih=>intro p hp;exact ih ho.2.1 ho.2.2.2 hk.2 p hp
 | bind x t q r _ ih =>
  intro p hp;rcases List.mem_cons.1 hp with rfl|hp
  ·exact hk.1
  ·exact ih ho.2.1 ho.2.2.2.2 hk.2 p hp
 | alt f n s vs q r _ ih=>intro p hp;exact ih ho.2.1 ho.2.2.2.2.2.2 hk.2.2 p hp
theorem Dk.alt {g:Cr} (h:g.isN=false) (ho:g.Ok) {k:Nat} (hk:g.Dk k):∀a∈g.alts,(a.1.1=1∨a.2.1=[])/\a.2.2.Dk k:=by
 induction g with
 | nil=>intro p hp;cases hp
 | node=>cases h
 | kid q r _ ih=>intro p hp;exact ih ho.2.1 ho.2.2.2 hk.2 p hp
 | bind x t q r _ ih=>intro p hp;exact ih ho.2.1 ho.2.2.2.2 hk.2 p hp
 | alt f n s vs q r _ ih =>
  intro p hp;rcases List.mem_cons.1 hp with rfl|hp
  ·exact⟨hk.1,hk.2.1⟩
  ·exact ih ho.2.1 ho.2.2.2.2.2.2 hk.2.2 p hp
def aB:Cr->Nat
 | .bind _ t _ r=>t.sz+aB r
 | .kid _ r=>aB r
 | .alt _ _ _ _ _ r=>aB r
 | _=>0
theorem zbQ (g:Cr):aB g<=g.wt:=by
 induction g with
 | bind x t p r _ ih=>simp only[aB,Cr.wt];omega
 | kid p r _ ih=>simp only[aB,Cr.wt];omega
 | alt f n s vs p r _ ih=>simp only[aB,Cr.wt];omega
 | _=>simp[aB]
theorem zc4 {g:Cr} (h:g.isN=false) (ho:g.Ok):∀p∈g.kids,p.wt+aB g<=g.wt:=by
 induction g with
 | nil=>intro p hp;cases hp
 | node=>cases h
 | kid q r _ ih =>
  intro p hp;simp only[aB,Cr.wt];rcases List.mem_cons.1 hp with rfl|hp
  ·have:=zbQ r;omega
  ·have:=ih ho.2.1 ho.2.2.2 p hp;omega
 | bind x t q r _ ih=>intro p hp;have:=ih ho.2.1 ho.2.2.2.2 p hp;simp only[aB,Cr.wt];omega
 | alt f n s vs q r _ ih=>intro p hp;have:=ih ho.2.1 ho.2.2.2.2.2.2 p hp;simp only[aB,Cr.wt];omega
theorem zQN {g:Cr} (h:g.isN=false) (ho:g.Ok):∀b∈g.binds,b.2.2.wt+aB g<=g.wt/\b.2.1.sz<=aB g:=by
 induction g with
 | nil=>intro p hp;cases hp
 | node=>cases h
 | kid q r _ ih=>intro p hp;have:=ih ho.2.1 ho.2.2.2 p hp;simp only[aB,Cr.wt];omega
 | bind x t q r _ ih =>
  intro p hp;simp only[aB,Cr.wt];rcases List.mem_cons.1 hp with rfl|hp
  ·have:=zbQ r;simp only;omega
  ·have:=ih ho.2.1 ho.2.2.2.2 p hp;omega
 | alt f n s vs q r _ ih=>intro p hp;have:=ih ho.2.1 ho.2.2.2.2.2.2 p hp;simp only[aB,Cr.wt];omega
theorem zLA {g:Cr} (h:g.isN=false) (ho:g.Ok):g.binds.length+aB g<=g.wt:=by
 induction g with
 | nil=>simp[Cr.binds,aB]
 | node=>cases h
 | kid q r _ ih=>have:=ih ho.2.1 ho.2.2.2;simp only[aB,Cr.wt,Cr.binds];omega
 | bind x t q r _ ih=>have:=ih ho.2.1 ho.2.2.2.2;simp only[aB,Cr.wt,Cr.binds,List.length_cons];omega
 | alt f n s vs q r _ ih=>have:=ih ho.2.1 ho.2.2.2.2.2.2;simp only[aB,Cr.wt,Cr.binds];omega
theorem z1D {g:Cr} (h:g.isN=false) (ho:g.Ok):(∀p∈g.kids,p.wt+aB g+g.binds.length<=g.wt)/\∀b∈g.binds,b.2.2.wt+aB g+g.binds.length<=g.wt:=by
 induction g with
 | nil=>exact⟨fun p hp=>(by cases hp),fun p hp=>(by cases hp)⟩
 | node=>cases h
 | kid q r _ ih =>
  obtain⟨h1,h2⟩:=ih ho.2.1 ho.2.2.2;have:=zLA ho.2.1 ho.2.2.2;refine⟨fun p hp=>?_,fun p hp=>?_⟩<;>simp only[aB,Cr.wt,Cr.binds]
  ·rcases List.mem_cons.1 hp with rfl|hp
   ·omega
   ·have:=h1 p hp;omega
  ·have:=h2 p hp;omega
 | bind x t q r _ ih =>
  obtain⟨h1,h2⟩:=ih ho.2.1 ho.2.2.2.2;have:=zLA ho.2.1 ho.2.2.2.2;refine⟨fun p hp=>?_,fun p hp=>?_⟩<;>simp only[aB,Cr.wt,Cr.binds,List.length_cons]
  ·have:=h1 p hp;omega
  ·rcases List.mem_cons.1 hp with rfl|hp
   ·simp only;omega
   ·have:=h2 p hp;omega
 | alt f n s vs q r _ ih =>
  obtain⟨h1,h2⟩:=ih ho.2.1 ho.2.2.2.2.2.2;refine⟨fun p hp=>?_,fun p hp=>?_⟩<;>simp only[aB,Cr.wt,Cr.binds]
  ·have:=h1 p hp;omega
  ·have:=h2 p hp;omega
theorem z5O {g:Cr} (h:g.isN=false) (ho:g.Ok):∀p∈g.kids,∀a∈g.alts,p.wt+a.2.2.wt+a.2.1.length+1<=g.wt/\p.sz+a.2.2.sz<=g.sz:=by
 induction g with
 | nil=>intro p hp;cases hp
 | node=>cases h
 | kid q r _ ih =>
  intro p hp a ha;simp only[Cr.wt,Cr.sz];rcases List.mem_cons.1 hp with rfl|hp
  ·have h1:=(zVI (K:=0) (c:=r) ha).1;have h2:=zEH (c:=r) ha;have:a.2.1.length=a.2.1.length:=rfl;split at h2<;>omega
  ·have:=ih ho.2.1 ho.2.2.2 p hp a ha;omega
 | bind x t q r _ ih=>intro p hp a ha;have:=ih ho.2.1 ho.2.2.2.2 p hp a ha;simp only[Cr.wt,Cr.sz];omega
 | alt f n s vs q r _ ih =>
  intro p hp a ha;have hk:r.kids=[]:=ho.2.2.1;have hp:p∈r.kids:=hp;rw[hk] at hp;cases hp
structure BdW (G:List ByteArray) (b:Nat) (d:List ByteArray) (w:Wd):Prop where
 fl:w.fs.length<=1000
 fo:∀f∈w.fs,FdOk f/\f.t.sz<=20/\dp f.t<=2/\∀s,s∉fv f.t
 env:∀x∈w.env,TB G b (30*b) x.2
 pv:∀p∈w.ps,∃x∈G,p.2 = .var x
 pl:w.ps.length<=w.deep
 dn:∀y∈d,∃u,look y w.ps=some u
theorem zJ9 (t:Tp):ht t<=t.sz:=by
 induction t with
 | app a b iha ihb=>simp only[ht,Tp.sz];omega
 | all s a ih=>simp only[ht,Tp.sz];omega
 | _=>simp[ht]
theorem TB.b {G:List ByteArray} {b b':Nat} {t:Tp} (h:TB G b (30*b) t) (hb:b<=b'):TB G b' (30*b') t:=h.mono hb (by omega)
theorem BdW.fit {G:List ByteArray} {b:Nat} {d:List ByteArray} {w:Wd} (h:BdW G b d w) (hG:G.length<=20) {t:Tp} (ht:t.sz<=600) (hd:w.deep<=100):FitX 700 t w.ps:=by
 have h1:=zM9 t;have h2:=jG t;have h3:=h.pl;refine⟨⟨fv t++G,by rw[List.length_append];omega,fun s hs=>List.mem_append_left _ hs,fun p hp s hs=>?_⟩,by omega,by omega,fun p hp=>?_⟩
 ·obtain⟨x,hx,e⟩:=h.pv p hp;rw[e] at hs;simp[fv] at hs;subst hs;exact List.mem_append_right _ hx
 ·obtain⟨x,hx,e⟩:=h.pv p hp;rw[e];simp[dp]
theorem BdW.mean {G:List ByteArray} {b:Nat} {d:List ByteArray} {w:Wd} (h:BdW G b d w) {t:Tp} (hv:∀y∈fv t,y∉d->y∈G):TB G (dp t) (ht t) (w.mean t):=by
 refine⟨fun s hs=>?_,?_,?_⟩
 ·obtain⟨y,hy,hf⟩:=(zLK t w.ps s).1 hs;unfold Fo at hf;split at hf
  ·rename_i hn;subst hf;refine hv s hy fun hd=>?_;obtain⟨u,hu⟩:=h.dn s hd;rw[hn] at hu;cases hu
  ·rename_i u hu;obtain⟨x,hx,e⟩:=h.pv _ (zC7 hu);simp only at e;subst e;simp[fv] at hf;subst hf;exact hx
 ·have:=z7E (D:=0) t w.ps fun p hp=>by obtain⟨x,_,e⟩:=h.pv p hp;rw[e];simp[dp]
  exact this
 ·have:=z1V (D:=0) t w.ps fun p hp=>by obtain⟨x,_,e⟩:=h.pv p hp;rw[e];simp[ht]
  exact this
theorem BdW.mono {G:List ByteArray} {b b':Nat} {d:List ByteArray} {w:Wd} (h:BdW G b d w) (hb:b<=b'):BdW G b' d w:=⟨h.fl,h.fo,fun x hx=>(h.env x hx).b hb,h.pv,h.pl,h.dn⟩
theorem BdW.more {G:List ByteArray} {b:Nat} {d:List ByteArray} {w:Wd} (h:BdW G b d w) {l:List Nm2} (hl:∀x∈l,TB G b (30*b) x.2):BdW G b d (w.more l) :=
 ⟨h.fl,h.fo,fun x hx=>(List.mem_append.1 hx).elim (h.env x) (hl x),h.pv,h.pl,h.dn⟩
theorem BdW.all {G:List ByteArray} {b:Nat} {d:List ByteArray} {w:Wd} (h:BdW G b d w) (s:ByteArray) (hG:jM w.deep∈G):BdW G b (s::d) (w.all s (jM w.deep)):=by
 refine⟨h.fl,h.fo,h.env,fun p hp=>?_,?_,fun y hy=>?_⟩
 ·rcases List.mem_append.1 hp with hp|hp
  ·exact h.pv p (List.mem_filter.1 hp).1
  ·rw[List.mem_singleton.1 hp];exact⟨_,hG,rfl⟩
 ·have h1:=zYL s w.ps;have h2:=h.pl;show (zBI s w.ps++[(s,Tp.var (jM w.deep))]).length<=w.deep+1;rw[List.length_append];simp;omega
 ·show ∃u,look y (zBI s w.ps++[(s,.var (jM w.deep))])=some u;by_cases e:y=s
  ·subst e;exact⟨_,zMP _ _⟩
  ·rw[zLS e];exact h.dn y ((List.mem_cons.1 hy).resolve_left e)
theorem z04:∀(t:Tp) (ws vs:List ByteArray) (u:Tp),jY t ws=some (vs,u)->(∀s∈ws,s∈vs)/\∀s∈fv u,s∈fv t∨s∈vs:=by
 intro t;induction t with
 | all s a ih =>
  intro ws vs u h;rw[wY] at h;split at h
  ·cases h
  ·obtain⟨h1,h2⟩:=ih _ _ _ h;refine⟨fun x hx=>h1 x (by simp[hx]),fun x hx=>?_⟩;rcases h2 x hx with h3|h3
   ·by_cases e:x=s
    ·subst e;exact .inr (h1 x (by simp))
    ·exact .inl (mem_fv_all.2 ⟨h3,e⟩)
   ·exact .inr h3
 | _=>intro ws vs u h;cases h;exact⟨fun s hs=>hs,fun s hs => .inl hs⟩
theorem zOP:∀(n:Nat) (t u:Tp) (l:List Tp),xJ n t=some (l,u)->(∀x∈l,∀s∈fv x,s∈fv t)
 | 0,t,u,l,h=>by cases h;exact fun x hx=>(by cases hx)
 | n+1,t,u,l,h=>by
  simp only[xJ] at h;split at h
  ·rename_i hf;have hb:=zD4 t hf;cases hq:xJ n (partsOf t).2.1 with
   | none=>rw[hq] at h;cases h
   | some r =>
    rw[hq] at h;cases h
    have ih:=zOP n _ _ _ hq;intro x hx s hs;rw[<-hb];rcases List.mem_cons.1 hx with rfl|hx
    ·exact mem_fv_app.2 (.inl (mem_fv_app.2 (.inr hs)))
    ·exact mem_fv_app.2 (.inr (ih x hx s hs))
  ·cases h
theorem zTD {f:Fd} {l:List Tp} {n:ByteArray} {vs:List ByteArray} (hsh:qF f=some (l,n,vs)):(∀x∈l,x.sz<=f.t.sz/\dp x<=dp f.t/\∀s∈fv x,s∈fv f.t∨s∈vs)/\vs.length<=dp f.t:=by
 unfold qF at hsh;split at hsh
 ·cases hsh
 ·rename_i vs' t0 hA;split at hsh
  ·cases hsh
  ·rename_i l' u hF;split at hsh
   ·cases hsh
    have h1:=zJE _ _ _ _ hA;have h2:=z04 _ _ _ _ hA;have h3:=zFM _ _ _ _ hF;have h4:=zOP _ _ _ _ hF;refine⟨fun x hx=>⟨by have:=h3.2.2 x hx;omega,by have:=h3.2.2 x hx;omega,fun s hs=>h2.2 s (h4 x hx s hs)⟩,?_⟩;have:=h1.2.1;simpa using this
   ·cases hsh
theorem zZ5 {G:List ByteArray} {b:Nat} {t x:Tp} {vs:List ByteArray} (hG:G.length<=20) (ht:TB G b (30*b) t) (hb:b<=1000) (hx:x.sz<=20) (hv:vs.length<=20):FitX 700 x (bys vs t):=by
 have h1:=zM9 x;have h2:=jG x;have hm:∀p∈bys vs t,p.2∈xB t:=fun p hp=>List.mem_reverse.1 (List.of_mem_zip hp).2;refine⟨⟨fv x++G,by rw[List.length_append];omega,fun s hs=>List.mem_append_left _ hs,fun p hp s hs=>List.mem_append_right _ (ht.nm s ((zFJ p.2 (hm p hp)).2.2 s hs))⟩,by omega,?_,fun p hp=>?_⟩
 ·have:(bys vs t).length<=vs.length:=by rw[List.length_zip];omega
  omega
 ·have:=(zFJ p.2 (hm p hp)).2.1;have:=ht.dp;omega
theorem z2D {G:List ByteArray} {b:Nat} {t x:Tp} {vs:List ByteArray} (ht:TB G b (30*b) t) (hx:x.sz<=20) (hd:dp x<=2) (hf:∀s∈fv x,s∈vs) (hl:(xB t).length=vs.length):TB G (b+2) (30*(b+2)) (sub x (bys vs t)):=by
 have h1:=zJ9 x;have e:(bys vs t).map (·.1)=vs:=List.map_fst_zip (by simp;omega);refine TB.mono (TB.sub (a:=2) (b:=20) (a':=b) (b':=30*b) (fun s hs => .inr (by rw[e];exact hf s hs)) hd (by omega) fun p hp=>?_) (by omega) (by omega);have hm:p.2∈xB t:=List.mem_reverse.1 (List.of_mem_zip hp).2;have:=zFJ p.2 hm;exact⟨fun s hs=>ht.nm s (this.2.2 s hs),Nat.le_trans this.2.1 ht.dp,Nat.le_trans this.1 ht.ht⟩
theorem zV5 {G:List ByteArray} {b:Nat} {d:List ByteArray} {w:Wd} (h:BdW G b d w) (hG:G.length<=20) {t:Tp} (ht:TB G b (30*b) t) (hb:b+2<=1000) {a:Al} (hn:a.2.1.Nodup) (hel:w.env.length+a.2.1.length<=100000) :
  (∀w',zDN w t a=some w'->TkS w t a w'/\BdW G (b+2) d w'/\w'.deep=w.deep/\w'.env.length<=w.env.length+a.2.1.length)/\(zDN w t a=none->TkN w t a):=by
 have hdp:dp t<1000000000:=by have:=ht.dp;omega
 have hsp:(xB t).length<1000000:=by have h1:=zaV t;have:=ht.ht;omega
 have hfl:w.fs.length<10000000:=by have:=h.fl;omega
 unfold zDN;by_cases h3:a.1.1=3
 ·rw[if_pos h3];exact⟨fun w' e=>by cases e;exact⟨zXI w t h3,h.mono (by omega),rfl,by omega⟩,fun e=>by cases e⟩
 rw[if_neg h3];by_cases h2:a.1.1=2
 ·rw[if_pos h2];by_cases hs:smb t (.con xU) [] []=true
  ·rw[if_pos hs];exact⟨fun w' e=>by cases e;exact⟨z6W h2 hdp hs,h.mono (by omega),rfl,by omega⟩,fun e=>by cases e⟩
  ·rw[if_neg hs];exact⟨fun w' e=>(by cases e),fun _=>zaG h2 hdp (by simpa using hs)⟩
 rw[if_neg h2];by_cases h1:a.1.1=1
 ·rw[if_pos h1];cases hf:wW w.fs a.1.2.2 with
  | none=>exact⟨fun w' e=>(by cases e),fun _=>z1L h1 hfl hf⟩
  | some f =>
   obtain⟨f1,f2,f3,f4⟩:=h.fo f (List.mem_of_find?_eq_some hf);simp only;cases hsh:qF f with
   | none=>exact⟨fun w' e=>(by cases e),fun _=>zZP h1 hfl hf f1 hsh⟩
   | some q =>
    obtain⟨l,n,vs⟩:=q;obtain⟨p1,p2⟩:=zTD hsh;simp only;by_cases hc:(zAC t).form=3/\(zAC t).nam=n/\(xB t).length=vs.length/\a.2.1.length=l.length/\a.2.1.Nodup
    ·rw[if_pos hc];refine⟨fun w' e=>?_,fun e=>by cases e⟩;cases e
     refine⟨z6F (K:=700) h1 hfl hf hsh f1.dp f1.ar hsp hc (fun x hx=>zZ5 hG ht (by omega) (by have:=(p1 x hx).1;omega) (by omega)) hel,?_,rfl,?_⟩
     ·refine (h.mono (Nat.le_add_right b 2)).more fun x hx=>?_;obtain⟨u,hu,e⟩:=List.mem_map.1 (List.of_mem_zip hx).2;rw[<-e];have q:=p1 u hu;exact z2D ht (by omega) (by omega) (fun s hs=>(q.2.2 s hs).resolve_left (f4 s)) hc.2.2.1
     ·show (w.env++xI a.2.1 l (bys vs t)).length<=_;rw[List.length_append];unfold xI;rw[List.length_zip];omega
    ·rw[if_neg hc];refine⟨fun w' e=>(by cases e),fun _=>zbA h1 hfl hf f1 hsh hsp fun q=>hc ⟨q.1,q.2.1,q.2.2.1,q.2.2.2,hn⟩⟩
 ·rw[if_neg h1];exact⟨fun w' e=>(by cases e),fun _=>z6Z w t h1 h2 h3⟩
theorem zYQ {k:Nat}:∀{bs:List Bdg},(∀x∈bs,x.2.2.Dk k)->(lst [] bs []).Dk k
 | [],_=>trivial
 | b::bs,h=>⟨h b List.mem_cons_self,zYQ fun x hx=>h x (List.mem_cons_of_mem _ hx)⟩
theorem zYF {k:Nat}:∀{bs:List Alg},(∀x∈bs,(x.1.1=1∨x.2.1=[])/\x.2.2.Dk k)->(lst [] [] bs).Dk k
 | [],_=>trivial
 | b::bs,h=>⟨(h b List.mem_cons_self).1,(h b List.mem_cons_self).2,zYF fun x hx=>h x (List.mem_cons_of_mem _ hx)⟩
theorem zaQ (r k:Nat) (vs:List ByteArray):(hdF r k vs).1.1=1∨(hdF r k vs).2=[]:=by
 unfold hdF;split
 ·exact .inr rfl
 ·split
  ·exact .inr rfl
  ·exact .inl rfl
theorem zFX (l:List Int) (n:Int) (d:Nat) (hl:Nums l) (hn : -100000<n/\n<100000) (hlf:5<d∨n-1<1):∃c l' n',(CorOk l n c l' n'/\∀k,c.Dk k)/\n'=n-1/\∀b,zAO b l n d c l' n':=by
 obtain⟨r,hr,hr0,hnext⟩:=zDE l n hl;have h4:=Nat.mod_lt r (show 0<4 by decide)
 match hK:r % 4,h4 with
 | 0,_ =>
  obtain⟨s,hs,hT⟩:=z5Z (l.drop 1) (n-1) r d hr;exact⟨_,_,_,⟨zMC (i:=0) hl (.inl rfl) (by decide) (nmW hs),fun k=>⟨.inl rfl,trivial⟩⟩,rfl,fun b=>zDC b l n d r hn (hnext b) _ _ _ (by rw[if_pos hlf,hK];exact hT b)⟩
 | 1,_ =>
  obtain⟨s,hs,hT⟩:=z3Y (l.drop 1) (n-1) r d hr;exact⟨_,_,_,⟨zMC (i:=0) hl (.inl rfl) (by decide) (nmW hs),fun k=>⟨.inl rfl,trivial⟩⟩,rfl,fun b=>zDC b l n d r hn (hnext b) _ _ _ (by rw[if_pos hlf,hK];exact hT b)⟩
 | 2,_ =>
  obtain⟨s,hs,hT⟩:=z7D (l.drop 1) (n-1) r d hr;exact⟨_,_,_,⟨zMC (i:=0) hl (.inr (.inl rfl)) (by decide) (cnW hs),fun k=>⟨.inl rfl,trivial⟩⟩,rfl,fun b=>zDC b l n d r hn (hnext b) _ _ _ (by rw[if_pos hlf,hK];exact hT b)⟩
 | 3,_ =>
  obtain⟨i,hi,hT⟩:=z6S (l.drop 1) (n-1) r d hr;exact⟨_,_,_,⟨zMC hl (.inr (.inr rfl)) ⟨hi.1,hi.2,fun h=>absurd h (by decide)⟩ emW,fun k=>⟨.inl rfl,trivial⟩⟩,rfl,fun b=>zDC b l n d r hn (hnext b) _ _ _ (by rw[if_pos hlf,hK];exact hT b)⟩
 | j+4,h=>omega
abbrev zV7 (k d:Nat):Prop := ∀(l:List Int) (n:Int),Nums l->(-100000+(cF k:Nat)<n/\n<100000)->∃c l' n',(CorOk l n c l' n'/\c.Dk k)/\n-(cF k:Nat)<=n'/\∀b,zAO b l n (d+1) c l' n'
theorem zQM (k d r:Nat) (hd:d<1000) (ih:zV7 k d) (l:List Int) (n:Int) (hl:Nums l) (hn : -100000+4*(cF k:Nat)<n/\n<100000):∃c l' n',(Fine c/\c.Dk (k+1))/\Nums l'/\l'.length<=l.length/\n'<=n/\n-4*(cF k:Nat)<=n'/\c.wt<=13+6*(bud n-bud n')+5*(l.length-l'.length)/\(c.sz<=5+4*(bud n-bud n')/\c.sz<=5+4*(l.length-l'.length))/\∀b,qG b l n r d 10 c l' n':=by
 obtain⟨vs,⟨vn,vW⟩,vl,hnm⟩:=zM8 l n hl;have hdl:(l.drop 1).length<=l.length/\l.length<=(l.drop 1).length+1:=by rw[List.length_drop];omega
 have v3:vs.length<=3:=by omega
 have steps:=row_of (σ:=List Bdg×List Int×Int)
  (fun j s=>s.1.length=j/\s.1.map (·.1)=vs.take j/\((∀x∈s.1,(x.1∈W18/\good x.2.1/\zGG 2000 x.2.1)/\Fine x.2.2)/\∀x∈s.1,x.2.2.Dk k)/\Nums s.2.1/\s.2.1.length<=(l.drop 1).length/\s.2.2<=n/\n-((j*cF k:Nat):Int)<=s.2.2/\wB s.1<=4*j+6*(bud n-bud s.2.2)+5*((l.drop 1).length-s.2.1.length)/\zB s.1<=j+4*(bud n-bud s.2.2)/\zB s.1<=j+4*((l.drop 1).length-s.2.1.length))
  (fun j s s' => ∃(hk:j<vs.length) (t:Tp) (p:Cr) (lm:List Int),(∀b,zH6 b s.2.1 s.2.2 1 t lm)/\(∀b,zAO b lm s.2.2 (d+1) p s'.2.1 s'.2.2)/\s'.1=s.1++[(vs[j],t,p)])
  ([],l.drop 1,n) ⟨rfl,rfl,⟨fun x hx=>absurd hx List.not_mem_nil,fun x hx=>absurd hx List.not_mem_nil⟩,hl.drop,Nat.le_refl _,Int.le_refl _,by simp,by simp[wB],by simp[zB],by simp[zB]⟩ vs.length
  (by
   rintro j ⟨bs,l1,n1⟩ hj ⟨i1,i2,i3,i4,i5,i6,i7,i8,i9,i0⟩;have hjF:j*cF k<=2*cF k:=Nat.mul_le_mul_right _ (by omega);have hsF:(j+1)*cF k=j*cF k+cF k:=Nat.succ_mul _ _;obtain⟨t,lm,⟨a1,a2,ag,a3,a4⟩,hT⟩:=zHD 2 1 l1 n1 rfl i4
   dsimp only at i1 i2 i3 i4 i5 i6 i7 i8 i9 i0
   obtain⟨p,l2,n2,⟨ok,dk⟩,dn,hR⟩:=ih lm n1 a4 (by omega);obtain⟨c1,c2,c3,ck,c4,c5,c6,c7,c8,c9⟩:=ok;refine⟨(bs++[(vs[j],t,p)],l2,n2),⟨hj,t,p,lm,hT,hR,rfl⟩,?_⟩
   dsimp only
   refine⟨by simp[i1],?_,?_,c5,by omega,by omega,by omega,?_,?_,?_⟩
   ·rw[List.map_append,i2];exact List.take_append_getElem hj
   ·refine⟨fun x hx=>?_,fun x hx=>?_⟩
    ·rcases List.mem_append.1 hx with h|h
     ·exact i3.1 x h
     ·rw[List.mem_singleton.1 h];exact⟨⟨nmW (vW _ (List.getElem_mem hj)),ag,a1⟩,c1,c2,c3,ck⟩
    ·rcases List.mem_append.1 hx with h|h
     ·exact i3.2 x h
     ·rw[List.mem_singleton.1 h];exact dk
   ·rw[zZJ]
    dsimp only
    unfold bud at i8 c7⊢;omega
   ·rw[zPT]
    dsimp only
    unfold bud at i9 c8⊢;omega
   ·rw[zPT]
    dsimp only
    omega)
 obtain⟨st,h0,hR,hI⟩:=steps;obtain⟨e1,e2,e3,e4,e5,e6,e7,e8,e9,e0⟩:=hI vs.length (Nat.le_refl _);have hvF:vs.length*cF k<=3*cF k:=Nat.mul_le_mul_right _ v3;obtain⟨p,l2,n2,⟨ok,dk⟩,dn,hRb⟩:=ih (st vs.length).2.1 (st vs.length).2.2 e4 (by omega);have hfine:=ok.fine;obtain⟨c1,c2,c3,ck,c4,c5,c6,c7,c8,c9⟩:=ok;obtain⟨f1,f2⟩:=z3I hfine e3.1 (by rw[e2,List.take_length];exact vn);refine⟨_,l2,n2,⟨f1,.inr (Nat.succ_pos k),dk,zYQ e3.2⟩,c5,by omega,by omega,by omega,?_,⟨?_,?_⟩,fun b=>z9R b l n r d (n1:=0) (l1:=[]) hd (by omega) (hnm b) st h0 (fun j hj=>?_) (fun j hj=>(hI j hj).1) (hRb b)⟩
 ·rw[f2];unfold bud at e8 c7⊢;omega
 ·rw[z7B];unfold bud at e9 c8⊢;omega
 ·rw[z7B];omega
 ·obtain⟨_,t,p,lm,h1,h2,h3⟩:=hR j hj;exact⟨t,p,lm,h1 b,h2 b,h3⟩
theorem zNY (k d r:Nat) (hr:r<1000) (hd:d<1000) (ih:zV7 k d) (l:List Int) (n:Int) (hl:Nums l) (hn : -100000+4*(cF k:Nat)<n/\n<100000):∃c l' n',(Fine c/\c.Dk (k+1))/\Nums l'/\l'.length<=l.length/\n'<=n/\n-4*(cF k:Nat)<=n'/\c.wt<=13+6*(bud n-bud n')+5*(l.length-l'.length)/\(c.sz<=5+4*(bud n-bud n')/\c.sz<=5+4*(l.length-l'.length))/\∀b,qG b l n r d 11 c l' n':=by
 obtain⟨t,l0,⟨a1,a2,ag,a3,a4⟩,hT⟩:=zHD 2 1 l n rfl hl;obtain⟨p,l1,n1,⟨ok,dk⟩,dn,hRp⟩:=ih l0 n a4 (by omega);have hfine:=ok.fine;obtain⟨p1,p2,p3,pk,p4,p5,p6,p7,p8,p9⟩:=ok;have m3:r / 14 % 4<=3:=by omega
 have steps:=row_of (σ:=List Alg×List Int×Int)
  (fun j s=>s.1.length=j/\((∀x∈s.1,(z8S x.1/\x.2.1.Nodup/\∀v∈x.2.1,v∈W18)/\Fine x.2.2)/\∀x∈s.1,(x.1.1=1∨x.2.1=[])/\x.2.2.Dk k)/\Nums s.2.1/\s.2.1.length<=l1.length/\s.2.2<=n1/\n1-((j*cF k:Nat):Int)<=s.2.2/\wA s.1<=3*j+6*(bud n1-bud s.2.2)+5*(l1.length-s.2.1.length)/\zA s.1<=j+4*(bud n1-bud s.2.2)/\zA s.1<=j+4*(l1.length-s.2.1.length))
  (fun j s s' => ∃(vs:List ByteArray) (q:Cr) (lm:List Int),(∀b,CallsG Tryz.prog (fnv 74) (mkH b s.2.1 s.2.2) [pt b 0] [] (fun r o h=>r = .sl (eSs vs)/\o=0/\h=mkH b lm s.2.2))/\(∀b,zAO b lm s.2.2 (d+1) q s'.2.1 s'.2.2)/\s'.1=s.1++[((hdF r j vs).1,(hdF r j vs).2,q)])
  ([],l1,n1) ⟨rfl,⟨fun x hx=>absurd hx List.not_mem_nil,fun x hx=>absurd hx List.not_mem_nil⟩,p5,Nat.le_refl _,Int.le_refl _,by simp,by simp[wA],by simp[zA],by simp[zA]⟩ (r / 14 % 4)
  (by
   rintro j ⟨bs,l2,n2⟩ hj ⟨i1,i3,i4,i5,i6,i7,i8,i9,i0⟩;have hjF:j*cF k<=2*cF k:=Nat.mul_le_mul_right _ (by omega);have hsF:(j+1)*cF k=j*cF k+cF k:=Nat.succ_mul _ _
   dsimp only at i1 i3 i4 i5 i6 i7 i8 i9 i0
   obtain⟨vs,⟨vn,vW⟩,vl,hnm⟩:=zM8 l2 n2 i4;have hdl:(l2.drop 1).length<=l2.length/\l2.length<=(l2.drop 1).length+1:=by rw[List.length_drop];omega
   obtain⟨q,l3,n3,⟨ok,dkq⟩,dn,hR⟩:=ih (l2.drop 1) n2 i4.drop (by omega);have hfq:=ok.fine;obtain⟨c1,c2,c3,ck,c4,c5,c6,c7,c8,c9⟩:=ok;refine⟨(bs++[((hdF r j vs).1,(hdF r j vs).2,q)],l3,n3),⟨vs,q,l2.drop 1,hnm,hR,rfl⟩,?_⟩;have hh:(hdF r j vs).2.Nodup/\(hdF r j vs).2.length<=vs.length/\z8S (hdF r j vs).1/\∀v∈(hdF r j vs).2,v∈W18:=by
    unfold hdF;by_cases h1:j=1
    ·rw[if_pos h1];exact⟨List.nodup_nil,Nat.zero_le _,⟨⟨by simp,by simp⟩,by show 0<=IntKind.i64.wrap ((r:Int).tdiv 14)/\IntKind.i64.wrap ((r:Int).tdiv 14)<100;rw[zEU hr];omega,emW⟩,fun v hv=>absurd hv List.not_mem_nil⟩
    ·rw[if_neg h1];by_cases h2:j=2
     ·rw[if_pos h2];exact⟨List.nodup_nil,Nat.zero_le _,⟨by decide,by decide,emW⟩,fun v hv=>absurd hv List.not_mem_nil⟩
     ·rw[if_neg h2];exact⟨vn,Nat.le_refl _,⟨⟨by simp,by simp⟩,⟨by simp,by simp⟩,cnW (zbX (by omega))⟩,fun v hv=>nmW (vW v hv)⟩
   dsimp only
   refine⟨by simp[i1],?_,c5,by omega,by omega,by omega,?_,?_,?_⟩
   ·refine⟨fun x hx=>?_,fun x hx=>?_⟩
    ·rcases List.mem_append.1 hx with h|h
     ·exact i3.1 x h
     ·rw[List.mem_singleton.1 h];exact⟨⟨hh.2.2.1,hh.1,hh.2.2.2⟩,hfq⟩
    ·rcases List.mem_append.1 hx with h|h
     ·exact i3.2 x h
     ·rw[List.mem_singleton.1 h];exact⟨zaQ r j vs,dkq⟩
   ·rw[z0S]
    dsimp only
    have:=hh.2.1;unfold bud at i8 c7⊢;omega
   ·rw[zPH]
    dsimp only
    unfold bud at i9 c8⊢;omega
   ·rw[zPH]
    dsimp only
    omega)
 obtain⟨st,h0,hR,hI⟩:=steps;obtain⟨e1,e3,e4,e5,e6,e7,e8,e9,e0⟩:=hI (r / 14 % 4) (Nat.le_refl _);have hvF:(r / 14 % 4)*cF k<=3*cF k:=Nat.mul_le_mul_right _ m3;obtain⟨f1,f2⟩:=zY9 ⟨ag,a1⟩ hfine e3.1;refine⟨_,(st (r / 14 % 4)).2.1,(st (r / 14 % 4)).2.2,⟨f1,.inr (Nat.succ_pos k),dk,zYF e3.2⟩,e4,by omega,by omega,by omega,?_,⟨?_,?_⟩,fun b=>za2 b l n r d hr hd (hT b) st ⟨by rw[h0],by rw[h0];exact hRp b⟩ (fun j hj=>let ⟨vs,q,lm,h1,h2,h3⟩:=hR j hj;⟨vs,q,lm,h1 b,h2 b,h3⟩) (fun j hj=>(hI j hj).1)⟩
 ·rw[f2];unfold bud at e8 p7⊢;omega
 ·rw[zX4];unfold bud at e9 p8⊢;omega
 ·rw[zX4];omega
theorem zUT (k:Nat):∀(d:Nat) (l:List Int) (n:Int),d+k=6->Nums l->(-100000+(cF k:Nat)<n/\n<100000)->∃c l' n',(CorOk l n c l' n'/\c.Dk k)/\n-(cF k:Nat)<=n'/\∀b,zAO b l n d c l' n':=by
 induction k with
 | zero =>
  intro d l n hd hl hn;obtain⟨c,l',n',⟨ok,dk⟩,e,hR⟩:=zFX l n d hl (by omega) (.inl (by omega));exact⟨c,l',n',⟨ok,dk _⟩,by rw[e];simp only[cF];omega,hR⟩
 | succ k ih0 =>
  intro d l n hd hl hn;have hF:cF (k+1)=1+4*cF k:=rfl;have hF1:0<cF k:=by cases k<;>simp only[cF]<;>omega
  by_cases hlf:5<d∨n-1<1
  ·obtain⟨c,l',n',⟨ok,dk⟩,e,hR⟩:=zFX l n d hl (by omega) hlf;exact⟨c,l',n',⟨ok,dk _⟩,by rw[e];omega,hR⟩
  ·have ih:zV7 k d:=fun l n h1 h2=>ih0 (d+1) l n (by omega) h1 h2;have hdd:d<1000:=by omega
   obtain⟨r,hr,hr0,hnext⟩:=zDE l n hl;have hle:(l.drop 1).length<=l.length:=by simp
   have hne:¬r=0->(l.drop 1).length+1=l.length:=fun h=>by
    cases l with
    | nil=>exact absurd (hr0 rfl) h
    | cons i l=>simp
   have hb1:bud n=bud (n-1)+1:=by unfold bud;omega
   have h14:=Nat.mod_lt r (show 0<14 by decide);have fin:∀(K:Nat),r % 14=K->4<=K->(∃c l' n',(Fine c/\c.Dk (k+1))/\Nums l'/\l'.length<=(l.drop 1).length/\n'<=n-1/\(n-1)-4*(cF k:Nat)<=n'/\c.wt<=13+6*(bud (n-1)-bud n')+5*((l.drop 1).length-l'.length)/\(c.sz<=5+4*(bud (n-1)-bud n')/\c.sz<=5+4*((l.drop 1).length-l'.length))/\∀b,qG b (l.drop 1) (n-1) r d K c l' n')->∃c l' n',(CorOk l n c l' n'/\c.Dk (k+1))/\n-(cF (k+1):Nat)<=n'/\∀b,zAO b l n d c l' n':=by
    rintro K hK h4 ⟨c,l',n',⟨f1,dk⟩,f2,f3,f4,f5,f6,⟨f8,f9⟩,f7⟩;have hlen:=hne (by omega);have hbl:bud n'<=bud (n-1):=by unfold bud;omega
    exact⟨c,l',n',⟨CorOk.of f1 (by omega) f2 (by omega) (by omega) (by omega) (by omega),dk⟩,by omega,fun b=>zDC b l n d r (by omega) (hnext b) _ _ _ (by rw[if_neg hlf,hK];exact f7 b)⟩
   have leaf:∀(K:Nat),r % 14=K->(∃(f i:Int) (s:ByteArray),((f=1∨f=2∨f=3)/\(-3<=i/\i<100/\(f=1->i=0))/\s∈W18)/\∀b,qG b (l.drop 1) (n-1) r d K (.node f i s .no .nil) (l.drop 1) (n-1))->∃c l' n',(CorOk l n c l' n'/\c.Dk (k+1))/\n-(cF (k+1):Nat)<=n'/\∀b,zAO b l n d c l' n':=by
    rintro K hK ⟨f,i,s,⟨hf,hi,hs⟩,hT⟩;exact⟨_,_,_,⟨zMC hl hf hi hs,.inl rfl,trivial⟩,by omega,fun b=>zDC b l n d r (by omega) (hnext b) _ _ _ (by rw[if_neg hlf,hK];exact hT b)⟩
   have two:∀(K:Nat),r % 14=K->4<=K->(∀(p q:Cr) (l1 l2:List Int) (n1 n2:Int),(∀b,zAO b (l.drop 1) (n-1) (d+1) p l1 n1)->(∀b,zAO b l1 n1 (d+1) q l2 n2)->∃f s,((f=4∨f=10)/\s∈W18)/\∀b,qG b (l.drop 1) (n-1) r d K (.node f 0 s .no (.kid p (.kid q .nil))) l2 n2)->∃c l' n',(CorOk l n c l' n'/\c.Dk (k+1))/\n-(cF (k+1):Nat)<=n'/\∀b,zAO b l n d c l' n':=by
    intro K hK h4 hT;obtain⟨p,l1,n1,⟨okp,dkp⟩,dnp,hRp⟩:=ih (l.drop 1) (n-1) hl.drop (by omega);have fp:=okp.fine;obtain⟨p1,p2,p3,pk,p4,p5,p6,p7,p8,p9⟩:=okp;obtain⟨q,l2,n2,⟨okq,dkq⟩,dnq,hRq⟩:=ih l1 n1 p5 (by omega);have fq:=okq.fine;obtain⟨q1,q2,q3,qk,q4,q5,q6,q7,q8,q9⟩:=okq;obtain⟨f,s,⟨hf,hs⟩,hT⟩:=hT p q l1 l2 n1 n2 hRp hRq;obtain⟨g1,g2⟩:=z7Z (s:=s) hs hf fp fq;have hbl:bud n2<=bud n1/\bud n1<=bud (n-1):=by unfold bud;omega
    exact fin K hK h4 ⟨_,l2,n2,⟨g1,.inr (Nat.succ_pos k),dkp,dkq,trivial⟩,q5,by omega,by omega,by omega,by rw[g2];omega,⟨by simp only[Cr.sz];omega,by simp only[Cr.sz];omega⟩,hT⟩
   have one:∀(K:Nat),r % 14=K->4<=K->(∀(t:Tp) (p:Cr) (l1 l2:List Int) (n2:Int),(∀b,zH6 b (l.drop 1) (n-1) 1 t l1)->(∀b,zAO b l1 (n-1) (d+1) p l2 n2)->∃f s,((f=5∨f=6)/\s∈W18)/\∀b,qG b (l.drop 1) (n-1) r d K (.node f 0 s t (.kid p .nil)) l2 n2)->∃c l' n',(CorOk l n c l' n'/\c.Dk (k+1))/\n-(cF (k+1):Nat)<=n'/\∀b,zAO b l n d c l' n':=by
    intro K hK h4 hT;obtain⟨t,l1,⟨a1,a2,ag,a3,a4⟩,hTy⟩:=zHD 2 1 (l.drop 1) (n-1) rfl hl.drop;obtain⟨q,l2,n2,⟨okq,dkq⟩,dnq,hRq⟩:=ih l1 (n-1) a4 (by omega);have fq:=okq.fine;obtain⟨q1,q2,q3,qk,q4,q5,q6,q7,q8,q9⟩:=okq;obtain⟨f,s,⟨hf,hs⟩,hT⟩:=hT t q l1 l2 n2 hTy hRq;obtain⟨g1,g2⟩:=zTL (f:=f) (s:=s) hs (.inl ⟨hf,ag⟩) a1 fq;exact fin K hK h4 ⟨_,l2,n2,⟨g1,.inr (Nat.succ_pos k),dkq,trivial⟩,q5,by omega,by omega,by omega,by rw[g2];omega,⟨by simp only[Cr.sz];omega,by simp only[Cr.sz];omega⟩,hT⟩
   match hK:r % 14,h14 with
   | 0,_=>exact leaf 0 hK (let ⟨s,hs,h⟩:=z5Z (l.drop 1) (n-1) r d hr;⟨_,_,_,⟨.inl rfl,by decide,nmW hs⟩,h⟩)
   | 1,_=>exact leaf 1 hK (let ⟨s,hs,h⟩:=z3Y (l.drop 1) (n-1) r d hr;⟨_,_,_,⟨.inl rfl,by decide,nmW hs⟩,h⟩)
   | 2,_=>exact leaf 2 hK (let ⟨s,hs,h⟩:=z7D (l.drop 1) (n-1) r d hr;⟨_,_,_,⟨.inr (.inl rfl),by decide,cnW hs⟩,h⟩)
   | 3,_=>exact leaf 3 hK (let ⟨s,hi,h⟩:=z6S (l.drop 1) (n-1) r d hr;⟨_,_,_,⟨.inr (.inr rfl),⟨hi.1,hi.2,fun h=>absurd h (by decide)⟩,emW⟩,h⟩)
   | 4,_=>exact two 4 hK (by decide) fun p q l1 l2 n1 n2 h1 h2=>⟨_,_,⟨.inl rfl,emW⟩,fun b=>zb1 b (l.drop 1) (n-1) r d hr hdd (h1 b) (h2 b)⟩
   | 5,_=>exact two 5 hK (by decide) fun p q l1 l2 n1 n2 h1 h2=>⟨_,_,⟨.inl rfl,emW⟩,fun b=>zcB b (l.drop 1) (n-1) r d hr hdd (h1 b) (h2 b)⟩
   | 6,_=>exact one 6 hK (by decide) fun t p l1 l2 n2 h1 h2=>let ⟨s,hs,h⟩:=zcC (l.drop 1) (n-1) r d hr hdd h1 h2;⟨_,_,⟨.inl rfl,nmW hs⟩,h⟩
   | 7,_=>exact one 7 hK (by decide) fun t p l1 l2 n2 h1 h2=>let ⟨s,hs,h⟩:=zdB (l.drop 1) (n-1) r d hr hdd h1 h2;⟨_,_,⟨.inl rfl,nmW hs⟩,h⟩
   | 8,_=>exact one 8 hK (by decide) fun t p l1 l2 n2 h1 h2=>⟨_,_,⟨.inr rfl,emW⟩,fun b=>zcE b (l.drop 1) (n-1) r d hr hdd (h1 b) (h2 b)⟩
   | 9,_ =>
    obtain⟨q,l2,n2,⟨okq,dkq⟩,dnq,hRq⟩:=ih (l.drop 1) (n-1) hl.drop (by omega);have fq:=okq.fine;obtain⟨q1,q2,q3,qk,q4,q5,q6,q7,q8,q9⟩:=okq;obtain⟨s,hs,hT⟩:=zbV (l.drop 1) (n-1) r d hr hdd hRq;obtain⟨g1,g2⟩:=zTL (f:=7) (s:=s) (t := .no) (s4W hs) (.inr ⟨rfl,rfl⟩) trivial fq;exact fin 9 hK (by decide) ⟨_,l2,n2,⟨g1,.inr (Nat.succ_pos k),dkq,trivial⟩,q5,by omega,by omega,by omega,by rw[g2];simp only[Tp.sz];omega,⟨by simp only[Cr.sz];omega,by simp only[Cr.sz];omega⟩,hT⟩
   | 10,_=>exact fin 10 hK (by decide) (zQM k d r hdd ih (l.drop 1) (n-1) hl.drop (by omega))
   | 11,_=>exact fin 11 hK (by decide) (zNY k d r hr hdd ih (l.drop 1) (n-1) hl.drop (by omega))
   | 12,_=>exact two 12 hK (by decide) fun p q l1 l2 n1 n2 h1 h2=>let ⟨s,hs,h⟩:=z9S (l.drop 1) (n-1) r d hr hdd h1 h2;⟨_,_,⟨.inr rfl,pmW hs⟩,h⟩
   | 13,_ =>
    obtain⟨t,l1,⟨a1,a2,ag,a3,a4⟩,hTy⟩:=zHD 2 1 (l.drop 1) (n-1) rfl hl.drop;obtain⟨g1,g2⟩:=zZN ⟨ag,a1⟩;exact fin 13 hK (by decide) ⟨_,l1,n-1,⟨g1,.inl rfl,trivial⟩,a4,by omega,Int.le_refl _,by omega,by rw[g2];omega,⟨by simp only[Cr.sz];omega,by simp only[Cr.sz];omega⟩,fun b=>z9B b (l.drop 1) (n-1) r d hr hdd (hTy b)⟩
   | j+14,h=>omega
theorem zWC {l:List Int} (hlen:l.length<9223372036854775808) (hr:∀x∈l,InR x):∃c:Cr,Sm c/\c.Pk/\c.Dk 6/\(c.wt<=176+5*(l.take 60).length/\c.sz<=117/\c.sz<=1+4*(l.take 60).length)/\zF Tryz.prog zHJ [.sl (eIs l)] (eC c):=by
 have hl:Nums (l.take 60):=⟨by simp;omega,fun i hi=>hr i (List.mem_of_mem_take hi)⟩
 obtain⟨c,l',n',⟨ok,dk⟩,hlow,hR⟩:=zUT 6 0 (l.take 60) 30 rfl hl (by decide);have hwt:=ok.wt;have hle:(l.take 60).length<=60:=by simp;omega
 have hb:bud 30=29:=rfl;refine⟨c,⟨ok.isN,ok.ok,by rw[hb] at hwt;omega,ok.low⟩,ok.pk,dk,⟨by rw[hb] at hwt;omega,by have:=ok.zb;rw[hb] at this;omega,by have:=ok.zl;omega⟩,?_⟩;refine CallsG.pure ?_ (post:=fun r o h=>r=eC c/\o=0/\∃b,h=mkH b l' n') (by
  rintro r o h ⟨rfl,rfl,b,rfl⟩;exact⟨.refl _,rfl⟩)
 refine yF (first:=[]) (cap:=[]) ttok mixed Tryz.func10 rfl (by rfl) rfl (Nat.le_of_ble_eq_true rfl) (by kernel_rfl) ?_;refine Wsem.seq ttok mixed ?_;refine Wsem.seq ttok mixed ?_;refine .inl ⟨_,zXV (n:=60) hlen (by decide),?_⟩;refine .inr ⟨rfl,fun b=>?_⟩;refine Wsem.cut {vs:=[(2,.box 0 eZ),(3,.v (pt b 0))],hp:=mkH b (l.take 60) 30} ⟨⟨rfl,rfl,trivial⟩,trivial,rfl⟩ ?_;refine Wsem.of ttok mixed ?_;refine .inr (.inr (.inr (.inr (.inr (.inl ⟨[0],_,[],_,rfl,List.nodup_cons.2 ⟨by simp,List.nodup_nil⟩,rfl,hR b,?_⟩)))));rintro _ _ _ ⟨rfl,rfl,rfl⟩;exact⟨rfl,rfl,b,rfl⟩
abbrev cst (c:Cr):Nat:=c.wt+2*c.sz
def Both (w:Wd) (c:Cr) (G:List ByteArray) (b:Nat) (o:Option Db):Prop:=(∃t,OfS w c t/\o=some (db t [])/\TB G b (30*b) t)∨(OfN w c/\o=none)
structure Hyp (c:Cr) (w:Wd) (e d:List ByteArray) (W:DW) (G:List ByteArray) (b k:Nat):Prop where
 n:c.isN=true
 ok:c.Ok
 dk:c.Dk k
 rel:RelW w e d W
 bd:BdW G b d w
 tv:∀y∈c.tv,y∉d->y∈G
 gl:G.length<=20
 own:∀j,j<w.deep+k->jM j∈G
 de:w.deep+k<=20
 wt:c.wt<=600
 cs:b+cst c<=1000
 b3:20<=b
 el:w.env.length+c.wt<=90000
abbrev IHb (N:Nat):Prop := ∀(c:Cr),c.sz<=N->∀(w:Wd) (e d:List ByteArray) (W:DW) (G:List ByteArray) (b k:Nat),Hyp c w e d W G b k->Both w c G (b+cst c) (tyD (dbc c e d) W)
theorem Both.mono {w:Wd} {c:Cr} {G:List ByteArray} {b b':Nat} {o:Option Db} (h:Both w c G b o) (hb:b<=b'):Both w c G b' o:=h.imp (fun⟨t,h1,h2,h3⟩=>⟨t,h1,h2,h3.b hb⟩) id
theorem zQ8 {g:Cr} (h:g.isN=false) (ho:g.Ok) (h1:g.kids.length=2) (h2:g.binds=[]) (h3:g.alts=[]):∃p q,g = .kid p (.kid q .nil):=by
 cases g with
 | kid p r =>
  simp only[Cr.kids,List.length_cons,Nat.add_right_cancel_iff] at h1;obtain⟨q,rfl,_,_⟩:=qR ho.2.1 ho.2.2.2 (by omega) h2 h3;exact⟨p,q,rfl⟩
 | nil=>simp[Cr.kids] at h1
 | node=>cases h
 | bind=>simp[Cr.binds] at h2
 | alt=>simp[Cr.alts] at h3
theorem zZR {f n:Int} {s:ByteArray} {t:Tp} {g:Cr} (ho:(Cr.node f n s t g).Ok) (h5:f≠5) (h8:f≠8):(Cr.node f n s t g).names0=[]:=by
 have hb:g.binds=[]:=Decidable.byContradiction fun q=>h8 (ho.2.2.2.2.1 q);show (if f=5 then [s] else [])++g.binds.map (·.1)=[];rw[if_neg h5,hb];rfl
theorem zDD {f n:Int} {s:ByteArray} {t:Tp} {g:Cr} (h1:f≠1) (e d:List ByteArray) (W:DW):tyD (dbc (.node f n s t g) e d) W=zA2 f (if f=5∨f=7 then .empty else s) (db t (if f=7 then s::d else d)) (zDF (dbc g ((Cr.node f n s t g).names0.reverse++e) (if f=7 then s::d else d))) W:=by
 simp only[dbc,if_neg h1];rfl
theorem zAX {f n:Int} {s:ByteArray} {t:Tp} {g:Cr} (ho:(Cr.node f n s t g).Ok) (h1:f≠1) (h5:f≠5) (h7:f≠7) (h8:f≠8) (e d:List ByteArray) (W:DW):tyD (dbc (.node f n s t g) e d) W=zA2 f s (db t d) (zDF (dbc g e d)) W:=by
 rw[zDD h1,zZR ho h5 h8,if_neg (by omega),if_neg h7];rfl
theorem zOK {l:List Nm2} {s:ByteArray} {t:Tp} (h:xX l s=some t):∃x∈l,x.2=t:=by
 unfold xX at h;obtain⟨p,h1,h2⟩:=Option.map_eq_some_iff.1 h;exact⟨p,List.mem_reverse.1 (List.mem_of_find?_eq_some h1),h2⟩
theorem smb0 {a b:Tp}:smb a b [] []=true↔db a []=db b []:=zP8 a b [] [] rfl
theorem zHG {w:Wd} {G:List ByteArray} {b:Nat} {u:Tp} {p:Cr} {o:Option Db} (h:Both w p G b o) (hb:b<=1000):(IsT w u p/\o=some (db u []))∨(z4Q w u p/\¬o=some (db u [])):=by
 rcases h with⟨t,h1,h2,h3⟩|⟨h1,h2⟩
 ·have hd:dp t<1000000000:=by have:=h3.dp;omega
  by_cases hs:smb t u [] []=true
  ·exact .inl ⟨⟨t,h1,hs,hd⟩,by rw[h2,smb0.1 hs]⟩
  ·refine .inr ⟨.inr ⟨t,h1,by simpa using hs,hd⟩,fun q=>hs (smb0.2 ?_)⟩;rw[h2] at q;exact Option.some.inj q
 ·exact .inr ⟨.inl h1,by rw[h2];simp⟩
section
variable {w:Wd} {e d:List ByteArray} {W:DW} {G:List ByteArray} {b k:Nat} {n:Int} {s:ByteArray} {t:Tp} {g:Cr}
theorem z5G (h:Hyp (.node 1 n s t g) w e d W G b k):Both w (.node 1 n s t g) G b (tyD (dbc (.node 1 n s t g) e d) W):=by
 obtain⟨rfl,rfl⟩:t = .no/\g = .nil:=h.ok.2.1 rfl;have hnb:=zPG (w:=w) (c := .node 1 n s .no .nil) (by have:=h.el;omega);have yes:∀t,xX w.env s=some t->OfS w (.node 1 n s .no .nil) t/\TB G b (30*b) t:=fun t ht=>by
  refine⟨jC (j:=0) (f:=116) rfl rfl rfl (hnb.1 t ht),?_⟩;obtain⟨x,hx,e⟩:=zOK ht;rw[<-e];exact h.bd.env x hx
 have he:dbc (.node 1 n s .no .nil) e d=if memb s e then .bv (ixN e s) else .fr s:=rfl
 rw[he];by_cases hm:s∈e
 ·rw[zS hm];obtain⟨t,h1,h2⟩:=h.rel.env1 s hm;exact .inl ⟨t,(yes t h1).1,h2,(yes t h1).2⟩
 ·rw[yM hm];have h2:=h.rel.env2 s hm;show Both _ _ _ _ (W.nm s);rw[h2];cases h1:xX w.env s with
  | none=>exact .inr ⟨wC (j:=0) (f:=116) rfl rfl rfl (hnb.2 h1),rfl⟩
  | some t=>exact .inl ⟨t,(yes t h1).1,rfl,(yes t h1).2⟩
theorem z3L (h:Hyp (.node 2 n s t g) w e d W G b k):Both w (.node 2 n s t g) G b (tyD (dbc (.node 2 n s t g) e d) W):=by
 have hl:w.fs.length<10000000:=by have:=h.bd.fl;omega
 have hk:(Cr.node 2 n s t g).kids.length=0:=h.ok.2.2.2.1;rw[zAX h.ok (by decide) (by decide) (by decide) (by decide)];unfold zA2;rw[if_pos rfl,h.rel.fs];cases hf:wW w.fs s with
 | none=>exact .inr ⟨wC (j:=1) (f:=117) rfl rfl (by rw[hk];rfl) (z7F _ _ hl (zKH hf)),rfl⟩
 | some f =>
  obtain⟨i,h1,h2,h3⟩:=zCL hf;obtain⟨f1,f2,f3,f4⟩:=h.bd.fo f (List.mem_of_find?_eq_some hf);refine .inl ⟨f.t,?_,rfl,⟨fun x hx=>absurd hx (f4 x),by have:=h.b3;omega,by have:=zJ9 f.t;have:=h.b3;omega⟩⟩;rw[<-h2];exact jC (j:=1) (f:=117) rfl rfl (by rw[hk];rfl) (zYJ _ _ hl h1 h3)
theorem z18 (h:Hyp (.node 3 n s t g) w e d W G b k):Both w (.node 3 n s t g) G b (tyD (dbc (.node 3 n s t g) e d) W):=by
 have hk:(Cr.node 3 n s t g).kids.length=0:=h.ok.2.2.2.1;rw[zAX h.ok (by decide) (by decide) (by decide) (by decide)];unfold zA2;rw[if_neg (by decide),if_pos rfl];exact .inl ⟨.con xU,jC (j:=2) (f:=118) rfl rfl (by rw[hk];rfl) (zPP _ _),rfl,.con⟩
theorem z0P (h:Hyp (.node 11 n s t g) w e d W G b k):Both w (.node 11 n s t g) G (b+t.sz) (tyD (dbc (.node 11 n s t g) e d) W):=by
 have hk:(Cr.node 11 n s t g).kids.length=0:=h.ok.2.2.2.1;have hw:=h.wt;simp only[Cr.wt] at hw;have hde:=h.de;rw[zAX h.ok (by decide) (by decide) (by decide) (by decide)];unfold zA2;rw[if_neg (by decide),if_neg (by decide),if_neg (by decide),if_neg (by decide),if_neg (by decide),if_neg (by decide),if_neg (by decide),if_neg (by decide),if_neg (by decide),if_pos rfl,<-h.rel.mean];have hm:=h.bd.mean (t:=t) (fun y hy hd=>h.tv y (mem_tv_node.2 (.inl hy)) hd);have h1:=jG t;have h2:=zJ9 t;exact .inl ⟨w.mean t,jC (j:=10) (f:=126) rfl rfl (by rw[hk];rfl) (zXK _ _ (h.bd.fit h.gl (by show t.sz<=600;omega) (by omega))),rfl,hm.mono (by omega) (by omega)⟩
theorem Hyp.kid {f:Int} (h:Hyp (.node f n s t g) w e d W G b k) (h7:f≠7) {p:Cr} (hp:p∈g.kids):Hyp p w e d W G b (k-1):=by
 obtain⟨l1,l2⟩:=zN h.ok;have hpo:=l2.kid hp;have hw:=(zP4 (K:=0) hp).1;have hz:=zBF hp;rw[l1] at hz;have h1:=h.wt;have h2:=h.cs;have h3:=h.el;have h4:=h.de;simp only[Cr.wt,Cr.sz,cst] at h1 h2 h3;simp only[Bool.false_eq_true,if_false] at hz;exact⟨hpo.1,hpo.2,Dk.kid l1 l2 h.dk.2 p hp,h.rel,h.bd,fun y hy hd=>h.tv y (mem_tv_node.2 (.inr ⟨tvk l1 l2 p hp y hy,fun q=>h7 q.1⟩)) hd,h.gl,fun j hj=>h.own j (by omega),by omega,by omega,by show b+(p.wt+2*p.sz)<=1000;omega,h.b3,by omega⟩
theorem z4R {N:Nat} (ih:IHb N) (h:Hyp (.node 4 n s t g) w e d W G b k) (hs:(Cr.node 4 n s t g).sz<=N+1):Both w (.node 4 n s t g) G (b+cst g) (tyD (dbc (.node 4 n s t g) e d) W):=by
 obtain⟨l1,l2⟩:=zN h.ok;obtain⟨p,q,rfl⟩:=zQ8 l1 l2 h.ok.2.2.2.1 (Decidable.byContradiction fun q=>absurd (h.ok.2.2.2.2.1 q) (by decide)) (Decidable.byContradiction fun q=>absurd (h.ok.2.2.2.2.2.1 q) (by decide));have h2:=h.cs;simp only[Cr.sz] at hs;simp only[cst,Cr.sz,Cr.wt] at h2;have ip:=ih p (by omega) w e d W G b (k-1) (h.kid (by decide) (by simp[Cr.kids]));have iq:=ih q (by omega) w e d W G b (k-1) (h.kid (by decide) (by simp[Cr.kids]));rw[zAX h.ok (by decide) (by decide) (by decide) (by decide)];unfold zA2;rw[if_neg (by decide),if_neg (by decide),if_pos rfl,qX l1 l2];simp only[Cr.kids,List.map_cons,List.map_nil];rcases ip with⟨tp,p1,p2,p3⟩|⟨p1,p2⟩
 ·rw[p2];simp only;rcases iq with⟨tq,q1,q2,q3⟩|⟨q1,q2⟩
  ·rw[q2];simp only;rw[z0Y];have hz:dp (partsOf tp).1<1000000000:=by
    cases hf:(partsOf tp).2.2 with
    | true=>have:=(zMA hf).2.2.1;have:=p3.dp;simp only[cst] at this;omega
    | false=>rw[zVZ tp hf];simp[dp]
   by_cases hc:(partsOf tp).2.2=true/\smb (partsOf tp).1 tq [] []=true
   ·rw[if_pos hc.1];simp only;rw[if_pos (smb0.1 hc.2)];refine .inl ⟨(partsOf tp).2.1,jC (j:=3) (f:=119) rfl rfl rfl (zX9 rfl p1 q1 hc.1 hc.2 hz),rfl,?_⟩;exact (p3.parts hc.1).2.b (by simp only[cst,Cr.wt,Cr.sz];omega)
   ·refine .inr ⟨wC (j:=3) (f:=119) rfl rfl rfl (zO0 rfl p1 q1 hz hc),?_⟩;by_cases hf:(partsOf tp).2.2=true
    ·rw[if_pos hf];simp only;rw[if_neg fun q=>hc ⟨hf,smb0.2 q⟩]
    ·rw[if_neg hf]
  ·rw[q2];exact .inr ⟨wC (j:=3) (f:=119) rfl rfl rfl (zZ7 rfl p1 q1),rfl⟩
 ·rw[p2];exact .inr ⟨wC (j:=3) (f:=119) rfl rfl rfl (z0X rfl p1),rfl⟩
end
section
variable {w:Wd} {e d:List ByteArray} {W:DW} {G:List ByteArray} {b k:Nat} {n:Int} {s:ByteArray} {t:Tp} {g:Cr}
theorem jI {f:Int} (ho:(Cr.node f n s t g).Ok) (h:f≠8):g.binds=[]:=Decidable.byContradiction fun q=>h (ho.2.2.2.2.1 q)
theorem zBB {f:Int} (ho:(Cr.node f n s t g).Ok) (h:f≠9):g.alts=[]:=Decidable.byContradiction fun q=>h (ho.2.2.2.2.2.1 q)
theorem z6H {N:Nat} (ih:IHb N) (h:Hyp (.node 5 n s t g) w e d W G b k) (hs:(Cr.node 5 n s t g).sz<=N+1):Both w (.node 5 n s t g) G (b+cst (.node 5 n s t g)) (tyD (dbc (.node 5 n s t g) e d) W):=by
 obtain⟨l1,l2⟩:=zN h.ok;obtain⟨p,rfl,hp1,hp2⟩:=qR l1 l2 h.ok.2.2.2.1 (jI h.ok (by decide)) (zBB h.ok (by decide));have hcs:=h.cs;have hel:=h.el;have hwt:=h.wt;have hde:=h.de;simp only[Cr.sz] at hs;simp only[cst,Cr.sz,Cr.wt] at hcs hel hwt;have hm:=h.bd.mean (t:=t) (fun y hy hd=>h.tv y (mem_tv_node.2 (.inl hy)) hd);have t1:=jG t;have t2:=zJ9 t;have hmb:TB G (b+t.sz) (30*(b+t.sz)) (w.mean t):=hm.mono (by omega) (by omega);have hx:=h.kid (by decide) (p:=p) (by simp[Cr.kids]);have hb:b+t.sz+cst p<=1000:=by show b+t.sz+(p.wt+2*p.sz)<=1000;omega
 have ip:=ih p (by omega) (w.more [(s,w.mean t)]) (s::e) d (W.mores [W.mean (db t d)]) G (b+t.sz) (k-1) ⟨hx.n,hx.ok,hx.dk,by
   have:=h.rel.one (s,w.mean t);rw[show db (s,w.mean t).2 []=W.mean (db t d) from h.rel.mean t] at this;exact this,(h.bd.mono (Nat.le_add_right b t.sz)).more (fun x hx=>by rw[List.mem_singleton.1 hx];exact hmb),hx.tv,h.gl,hx.own,hx.de,hx.wt,hb,by have:=h.b3;omega,by show (w.env++[(s,w.mean t)]).length+p.wt<=_;simp;omega⟩
 have hfit:=h.bd.fit h.gl (t:=t) (by omega) (by omega);have hl:w.env.length<100000:=by omega
 rw[zDD (by decide)];have e0:(Cr.node 5 n s t (.kid p .nil)).names0.reverse++e=s::e:=rfl;rw[e0];unfold zA2;rw[if_neg (by decide),if_neg (by decide),if_neg (by decide),if_pos rfl,qX l1 l2,if_neg (by decide)];simp only[Cr.kids,List.map_cons,List.map_nil];rcases ip with⟨u,p1,p2,p3⟩|⟨p1,p2⟩
 ·rw[p2];refine .inl ⟨zUA u [w.mean t],jC (j:=4) (f:=120) rfl rfl rfl (zX5 rfl hfit hl p1),?_,?_⟩
  ·rw[<-h.rel.mean t];rfl
  ·refine TB.mono (TB.fun (a:=b+t.sz+cst p) (b:=30*(b+t.sz+cst p)) (hmb.b (by omega)) p3) ?_ ?_<;>simp only[cst,Cr.wt,Cr.sz]<;>omega
 ·rw[p2];exact .inr ⟨wC (j:=4) (f:=120) rfl rfl rfl (z7T rfl hfit hl p1),rfl⟩
theorem zZ2 {N:Nat} (ih:IHb N) (h:Hyp (.node 6 n s t g) w e d W G b k) (hs:(Cr.node 6 n s t g).sz<=N+1):Both w (.node 6 n s t g) G (b+cst (.node 6 n s t g)) (tyD (dbc (.node 6 n s t g) e d) W):=by
 obtain⟨l1,l2⟩:=zN h.ok;obtain⟨p,rfl,hp1,hp2⟩:=qR l1 l2 h.ok.2.2.2.1 (jI h.ok (by decide)) (zBB h.ok (by decide));have hcs:=h.cs;have hwt:=h.wt;have hde:=h.de;simp only[Cr.sz] at hs;simp only[cst,Cr.sz,Cr.wt] at hcs hwt;have hm:=h.bd.mean (t:=t) (fun y hy hd=>h.tv y (mem_tv_node.2 (.inl hy)) hd);have t1:=jG t;have t2:=zJ9 t;have ip:=ih p (by omega) w e d W G b (k-1) (h.kid (by decide) (p:=p) (by simp[Cr.kids]));have hfit:=h.bd.fit h.gl (t:=t) (by omega) (by omega);rw[zAX h.ok (by decide) (by decide) (by decide) (by decide)];unfold zA2;rw[if_neg (by decide),if_neg (by decide),if_neg (by decide),if_neg (by decide),if_pos rfl,qX l1 l2];simp only[Cr.kids,List.map_cons,List.map_nil];rcases ip with⟨u,p1,p2,p3⟩|⟨p1,p2⟩
 ·rw[p2];have no:¬u.form=5->Both w (.node 6 n s t (.kid p .nil)) G (b+cst (.node 6 n s t (.kid p .nil))) (match some (db u []) with|some (.all x)=>some (inD (W.mean (db t d)) 0 x)|_=>none):=fun hu=>by
   refine .inr ⟨wC (j:=5) (f:=121) rfl rfl rfl (zVL rfl p1 hu),?_⟩;cases u with
   | all=>exact absurd rfl hu
   | var x=>simp[db,memb]
   | _=>rfl
  cases u with
  | all x a =>
   have hfv:∀y∈fv a,y∈x::G:=fun y hy=>by
    by_cases hyx:y=x
    ·simp[hyx]
    ·exact List.mem_cons_of_mem _ (p3.nm y (mem_fv_all.2 ⟨hy,hyx⟩))
   have hda:=p3.dp;have hha:=p3.ht;simp only[dp,ht] at hda hha;simp only[cst] at hda hha;have hfit2:FitX 21 a [(x,w.mean t)]:=by
    refine⟨⟨x::G,by have:=h.gl;simp;omega,hfv,fun p hp y hy=>?_⟩,by omega,by simp;omega,fun p hp=>?_⟩
    ·rw[List.mem_singleton.1 hp] at hy;exact List.mem_cons_of_mem _ (hm.nm y hy)
    ·rw[List.mem_singleton.1 hp];show dp (w.mean t)<_;have:=hm.dp;omega
   refine .inl ⟨sub a [(x,w.mean t)],jC (j:=5) (f:=121) rfl rfl rfl (zSZ rfl hfit p1 hfit2),?_,?_⟩
   ·show some (inD _ 0 (db a [x]))=_;rw[z9X,h.rel.mean]
   ·refine TB.mono (TB.sub (a:=b+p.wt+2*p.sz) (b:=30*(b+p.wt+2*p.sz)) (a':=t.sz) (b':=t.sz) (fun y hy=>?_) (by omega) (by omega) fun q hq=>?_) ?_ ?_
    ·rcases List.mem_cons.1 (hfv y hy) with rfl|hG
     ·exact .inr (by simp)
     ·exact .inl hG
    ·rw[List.mem_singleton.1 hq];exact hm.mono (by omega) (by omega)
    ·simp only[cst,Cr.wt,Cr.sz];omega
    ·simp only[cst,Cr.wt,Cr.sz];omega
  | _=>exact no (by simp[Tp.form])
 ·rw[p2];exact .inr ⟨wC (j:=5) (f:=121) rfl rfl rfl (zVF rfl p1),rfl⟩
theorem z0E {N:Nat} (ih:IHb N) (h:Hyp (.node 7 n s t g) w e d W G b k) (hs:(Cr.node 7 n s t g).sz<=N+1):Both w (.node 7 n s t g) G (b+cst (.node 7 n s t g)) (tyD (dbc (.node 7 n s t g) e d) W):=by
 obtain⟨l1,l2⟩:=zN h.ok;obtain⟨p,rfl,hp1,hp2⟩:=qR l1 l2 h.ok.2.2.2.1 (jI h.ok (by decide)) (zBB h.ok (by decide));have hcs:=h.cs;have hel:=h.el;have hwt:=h.wt;have hde:=h.de;have hk0:0<k:=h.dk.1.resolve_left (by simp);simp only[Cr.sz] at hs;simp only[cst,Cr.sz,Cr.wt] at hcs hel hwt;have ho:jM w.deep∈G:=h.own _ (by omega);have hpl:=h.bd.pl;have ip:=ih p (by omega) (w.all s (jM w.deep)) e (s::d) W.all G b (k-1) ⟨hp1,hp2,h.dk.2.1,h.rel.all s,h.bd.all s ho,fun y hy hd=>by
   simp only[List.mem_cons,not_or] at hd;exact h.tv y (mem_tv_node.2 (.inr ⟨mem_tv_kid.2 (.inl hy),fun q=>hd.1 q.2⟩)) hd.2,h.gl,fun j hj=>h.own j (by
   have hj:j<w.deep+1+(k-1):=hj;omega),by show w.deep+1+(k-1)<=20;omega,by omega,by show b+(p.wt+2*p.sz)<=1000;omega,h.b3,by show w.env.length+p.wt<=_;omega⟩
 rw[zDD (by decide)];have e0:(Cr.node 7 n s t (.kid p .nil)).names0.reverse++e=e:=rfl;rw[e0];unfold zA2;rw[if_neg (by decide),if_neg (by decide),if_neg (by decide),if_neg (by decide),if_neg (by decide),if_pos rfl,qX l1 l2,if_pos rfl];simp only[Cr.kids,List.map_cons,List.map_nil];rcases ip with⟨u,p1,p2,p3⟩|⟨p1,p2⟩
 ·rw[p2];refine .inl ⟨.all (jM w.deep) u,jC (j:=6) (f:=122) rfl rfl rfl (zTY rfl (by omega) (by omega) p1),?_,?_⟩
  ·rw[zdE,h.rel.deep];rfl
  ·have p4:=p3.dp;have p5:=p3.ht;refine⟨fun y hy=>p3.nm y (mem_fv_all.1 hy).1,?_,?_⟩
   ·simp only[dp,cst,Cr.wt,Cr.sz] at p4⊢;omega
   ·simp only[ht,cst,Cr.wt,Cr.sz] at p5⊢;omega
 ·rw[p2];exact .inr ⟨wC (j:=6) (f:=122) rfl rfl rfl (zZE rfl (by omega) (by omega) p1),rfl⟩
theorem z2R {s:ByteArray} {r:Tp} (h:zCG s=some r):TB G b (30*b) r:=by
 unfold zCG at h;split at h
 ·cases h;exact .con
 ·split at h
  ·cases h;exact .con
  ·cases h
theorem z0U {N:Nat} (ih:IHb N) (h:Hyp (.node 10 n s t g) w e d W G b k) (hs:(Cr.node 10 n s t g).sz<=N+1):Both w (.node 10 n s t g) G (b+cst g) (tyD (dbc (.node 10 n s t g) e d) W):=by
 obtain⟨l1,l2⟩:=zN h.ok;obtain⟨p,q,rfl⟩:=zQ8 l1 l2 h.ok.2.2.2.1 (jI h.ok (by decide)) (zBB h.ok (by decide));have hcs:=h.cs;simp only[Cr.sz] at hs;simp only[cst,Cr.sz,Cr.wt] at hcs;have ip:=zHG (u := .con xU) (ih p (by omega) w e d W G b (k-1) (h.kid (by decide) (by simp[Cr.kids]))) (by show b+(p.wt+2*p.sz)<=1000;omega);have iq:=zHG (u := .con xU) (ih q (by omega) w e d W G b (k-1) (h.kid (by decide) (by simp[Cr.kids]))) (by show b+(q.wt+2*q.sz)<=1000;omega);rw[zAX h.ok (by decide) (by decide) (by decide) (by decide)];unfold zA2;rw[if_neg (by decide),if_neg (by decide),if_neg (by decide),if_neg (by decide),if_neg (by decide),if_neg (by decide),if_neg (by decide),if_neg (by decide),if_pos rfl,qX l1 l2];simp only[Cr.kids,List.map_cons,List.map_nil];have isInt:∀{p:Cr},IsT w (.con xU) p->IsInt w p:=fun h=>⟨h.of⟩
 rcases ip with⟨p1,p2⟩|⟨p1,p2⟩
 ·rcases iq with⟨q1,q2⟩|⟨q1,q2⟩
  ·rw[if_pos ⟨p2,q2⟩];have hall:∀x∈(Cr.node 10 n s t (.kid p (.kid q .nil))).kids,IsInt w x:=fun x hx=>by
    simp only[Cr.kids,List.mem_cons,List.not_mem_nil,or_false] at hx;rcases hx with rfl|rfl
    ·exact isInt p1
    ·exact isInt q1
   cases hr:zCG s with
   | none=>exact .inr ⟨wC (j:=9) (f:=125) rfl rfl rfl (zUW (by simp[Cr.kids]) hall hr),rfl⟩
   | some r=>exact .inl ⟨r,jC (j:=9) (f:=125) rfl rfl rfl (zSL (by simp[Cr.kids]) hall hr),rfl,z2R hr⟩
  ·rw[if_neg fun c=>q2 c.2];refine .inr ⟨wC (j:=9) (f:=125) rfl rfl rfl (zPU (m:=1) (by simp[Cr.kids]) (by simp[Cr.kids]) (fun j hj hlt=>?_) q1),rfl⟩;obtain rfl:j=0:=by omega
   exact isInt p1
 ·rw[if_neg fun c=>p2 c.1];exact .inr ⟨wC (j:=9) (f:=125) rfl rfl rfl (zPU (m:=0) (by simp[Cr.kids]) (by simp[Cr.kids]) (fun j hj hlt=>absurd hlt (Nat.not_lt_zero _)) p1),rfl⟩
end
section
variable {w:Wd} {e d:List ByteArray} {W:DW} {G:List ByteArray} {b k:Nat} {n:Int} {s:ByteArray} {t:Tp} {g:Cr}
theorem zHQ {l:List Cr} (h:l.length=1):∃p,l=[p]:=by
 match l,h with
 | [p],_=>exact⟨p,rfl⟩
theorem z5M {N:Nat} (ih:IHb N) (h:Hyp (.node 8 n s t g) w e d W G b k) (hs:(Cr.node 8 n s t g).sz<=N+1):Both w (.node 8 n s t g) G (b+cst (.node 8 n s t g)) (tyD (dbc (.node 8 n s t g) e d) W):=by
 obtain⟨l1,l2⟩:=zN h.ok;obtain⟨p,hk⟩:∃p,g.kids=[p]:=zHQ h.ok.2.2.2.1;have hkc:(Cr.node 8 n s t g).kids=[p]:=hk;have hbc:(Cr.node 8 n s t g).binds=g.binds:=rfl;have hnd:(g.binds.map (·.1)).Nodup:=h.ok.2.2.2.2.2.2.1;have hcs:=h.cs;have hel:=h.el;have hwt:=h.wt;have hde:=h.de;simp only[Cr.sz] at hs;simp only[cst,Cr.sz,Cr.wt] at hcs hel hwt;obtain⟨k1,k2⟩:=z1D l1 l2;have hpm:p∈g.kids:=by rw[hk];simp
 have hb1:=zLA l1 l2;have hfv:∀b∈g.binds,∀y∈fv b.2.1,y∉d->y∈G:=fun b hb y hy hd=>h.tv y (mem_tv_node.2 (.inr ⟨(tvb l1 l2 b hb).2 y hy,fun q=>absurd q.1 (by decide)⟩)) hd;have htb:∀x∈bdL w g.binds,TB G (b+aB g) (30*(b+aB g)) x.2:=fun x hx=>by
  obtain⟨c,hc,rfl⟩:=List.mem_map.1 hx;have:=(zQN l1 l2 c hc).2;have t1:=jG c.2.1;have t2:=zJ9 c.2.1;exact (h.bd.mean (hfv c hc)).mono (by omega) (by omega)
 have hfit:∀b∈g.binds,FitX 700 b.2.1 w.ps:=fun c hc=>h.bd.fit h.gl (by have:=(zQN l1 l2 c hc).2;omega) (by omega);have hrel:RelW (w.more (bdL w g.binds)) ((g.binds.map (·.1)).reverse++e) d (W.mores (g.binds.map fun c=>W.mean (db c.2.1 d))):=by
  have:=h.rel.mores (bdL w g.binds);rw[show (bdL w g.binds).map (·.1)=g.binds.map (·.1) by simp[bdL],show (bdL w g.binds).map (fun x=>db x.2 [])=g.binds.map fun c=>W.mean (db c.2.1 d) by
   unfold bdL;rw[List.map_map];exact List.map_congr_left fun c _=>h.rel.mean c.2.1] at this
  exact this
 have hbd:=(h.bd.mono (Nat.le_add_right b (aB g))).more htb;have hlen:(bdL w g.binds).length=g.binds.length:=by simp[bdL]
 have hyp:∀q:Cr,q.isN=true->q.Ok->q.Dk (k-1)->(∀y∈q.tv,y∈g.tv)->q.wt+aB g+g.binds.length<=g.wt->q.sz<=g.sz->Hyp q (w.more (bdL w g.binds)) ((g.binds.map (·.1)).reverse++e) d (W.mores (g.binds.map fun c=>W.mean (db c.2.1 d))) G (b+aB g) (k-1):=fun q q1 q2 q3 q4 q5 q6 =>
  ⟨q1,q2,q3,hrel,hbd,fun y hy hd=>h.tv y (mem_tv_node.2 (.inr ⟨q4 y hy,fun q=>absurd q.1 (by decide)⟩)) hd,h.gl,fun j hj=>h.own j (by
   have hj:j<w.deep+(k-1):=hj;omega),by show w.deep+(k-1)<=20;omega,by omega,by show b+aB g+(q.wt+2*q.sz)<=1000;omega,by have:=h.b3;omega,by show (w.env++bdL w g.binds).length+q.wt<=_;rw[List.length_append,hlen];omega⟩
 have hpz:=zBF hpm;rw[l1] at hpz;simp only[Bool.false_eq_true,if_false] at hpz;have ip:=ih p (by omega) _ _ _ _ G _ _ (hyp p (l2.kid hpm).1 (l2.kid hpm).2 (Dk.kid l1 l2 h.dk.2 p hpm) (tvk l1 l2 p hpm) (k1 p hpm) (by omega));have ib:∀c∈g.binds,(IsT (w.more (bdL w g.binds)) (w.mean c.2.1) c.2.2/\tyD (dbc c.2.2 ((g.binds.map (·.1)).reverse++e) d) (W.mores (g.binds.map fun c=>W.mean (db c.2.1 d)))=some (W.mean (db c.2.1 d)))∨(z4Q (w.more (bdL w g.binds)) (w.mean c.2.1) c.2.2/\¬tyD (dbc c.2.2 ((g.binds.map (·.1)).reverse++e) d) (W.mores (g.binds.map fun c=>W.mean (db c.2.1 d)))=some (W.mean (db c.2.1 d))):=fun c hc=>by
  have hz:=zCF hc;rw[l1] at hz;simp only[Bool.false_eq_true,if_false] at hz;have:=k2 c hc;have:=zHG (u:=w.mean c.2.1) (ih c.2.2 (by omega) _ _ _ _ G _ _ (hyp c.2.2 (l2.bind hc).1 (l2.bind hc).2 (Dk.bind l1 l2 h.dk.2 c hc) (tvb l1 l2 c hc).1 (k2 c hc) (by omega))) (by show b+aB g+(c.2.2.wt+2*c.2.2.sz)<=1000;omega);rw[h.rel.mean] at this;exact this
 have hl0:w.env.length+g.binds.length<=100000:=by omega
 rw[zDD (by decide)];have e0:(Cr.node 8 n s t g).names0.reverse++e=(g.binds.map (·.1)).reverse++e:=rfl;rw[e0];unfold zA2;rw[if_neg (by decide),if_neg (by decide),if_neg (by decide),if_neg (by decide),if_neg (by decide),if_neg (by decide),if_pos rfl,qX l1 l2,zX6 l1 l2,if_neg (by decide),hk];simp only[List.map_cons,List.map_nil];rw[show (List.map (fun b=>W.mean b.1) (List.map (fun b=>(db b.2.1 d,tyD (dbc b.2.2 ((List.map (·.1) g.binds).reverse++e) d))) g.binds))=g.binds.map fun c=>W.mean (db c.2.1 d) by rw[List.map_map];rfl];rcases zLI g.binds ib with hall|⟨m,hm,hbad,hgood⟩
 ·rw[if_pos (fun x hx=>by obtain⟨c,hc,rfl⟩:=List.mem_map.1 hx;exact (hall c hc).2)];have hbo:=zO4 hl0 hnd hfit fun c hc=>(hall c hc).1;rcases ip with⟨u,p1,p2,p3⟩|⟨p1,p2⟩
  ·rw[p2];refine .inl ⟨u,jC (j:=7) (f:=123) rfl rfl (by rw[hkc];rfl) (zX8 hkc hbo p1),rfl,p3.b ?_⟩;have:=k1 p hpm;simp only[cst,Cr.wt,Cr.sz];omega
  ·rw[p2];exact .inr ⟨wC (j:=7) (f:=123) rfl rfl (by rw[hkc];rfl) (zZG hkc hbo p1),rfl⟩
 ·rw[if_neg (fun q=>hbad.2 (q _ (List.mem_map.2 ⟨_,List.getElem_mem hm,rfl⟩)))];exact .inr ⟨wC (j:=7) (f:=123) rfl rfl (by rw[hkc];rfl) (zZ6 hkc (zS3 hl0 hnd hfit hm (fun j hj hlt=>(hgood j hj hlt).1) hbad.1)),rfl⟩
theorem za4 (g:Cr):g.alts.length<=g.wt:=by
 induction g with
 | nil=>simp[Cr.alts]
 | node f n s t g ih=>simp only[Cr.alts,Cr.wt];omega
 | kid q r _ ih=>simp only[Cr.alts,Cr.wt];omega
 | bind x t q r _ ih=>simp only[Cr.alts,Cr.wt];omega
 | alt f n s vs q r _ ih=>simp only[Cr.alts,Cr.wt,List.length_cons];omega
theorem z08 {N:Nat} (ih:IHb N) (h:Hyp (.node 9 n s t g) w e d W G b k) (hs:(Cr.node 9 n s t g).sz<=N+1):Both w (.node 9 n s t g) G (b+cst (.node 9 n s t g)) (tyD (dbc (.node 9 n s t g) e d) W):=by
 obtain⟨l1,l2⟩:=zN h.ok;obtain⟨p,hk⟩:∃p,g.kids=[p]:=zHQ h.ok.2.2.2.1;have hkc:(Cr.node 9 n s t g).kids=[p]:=hk;have hpm:p∈g.kids:=by rw[hk];simp
 have hcs:=h.cs;have hel:=h.el;have hwt:=h.wt;have hde:=h.de;have hb3:=h.b3;simp only[Cr.sz] at hs;simp only[cst,Cr.sz,Cr.wt] at hcs hel hwt;have hpz:=zBF hpm;rw[l1] at hpz;simp only[Bool.false_eq_true,if_false] at hpz;have hpw:=(zP4 (K:=0) hpm).1;have hm:=h.bd.mean (t:=t) (fun y hy hd=>h.tv y (mem_tv_node.2 (.inl hy)) hd);have t1:=jG t;have t2:=zJ9 t;have hfit:=h.bd.fit h.gl (t:=t) (by omega) (by omega);have ip:=ih p (by omega) w e d W G b (k-1) (h.kid (by decide) hpm);have hal:g.alts.length<=1000000:=by
  have:=za4 g;omega
 rw[zAX h.ok (by decide) (by decide) (by decide) (by decide)];unfold zA2;rw[if_neg (by decide),if_neg (by decide),if_neg (by decide),if_neg (by decide),if_neg (by decide),if_neg (by decide),if_neg (by decide),if_pos rfl,qX l1 l2,zXC l1 l2,hk];simp only[List.map_cons,List.map_nil];rcases ip with⟨u,p1,p2,p3⟩|⟨p1,p2⟩
 ·rw[p2];simp only;rw[<-h.rel.mean t];have ia:∀a∈g.alts,(zc0 w u (w.mean t) a/\∃W',jZ W (db u []) a.1 a.2.1.length=some W'/\tyD (dbc a.2.2 (a.2.1.reverse++e) d) W'=some (db (w.mean t) []))∨(zd4 w u (w.mean t) a/\¬∃W',jZ W (db u []) a.1 a.2.1.length=some W'/\tyD (dbc a.2.2 (a.2.1.reverse++e) d) W'=some (db (w.mean t) [])):=fun a ha=>by
   obtain⟨z1,z2⟩:=z5O l1 l2 p hpm a ha;obtain⟨o1,o2,o3⟩:=l2.alt ha;obtain⟨v1,v2⟩:=Dk.alt l1 l2 h.dk.2 a ha;have hbu:b+cst p+2<=1000:=by show b+(p.wt+2*p.sz)+2<=1000;omega
   have hcode:=zV5 (b:=b+cst p) (h.bd.mono (Nat.le_add_right b (cst p))) h.gl p3 hbu o3 (by omega);rcases z0R h.rel u a o3 v1 with⟨w',W',q1,q2,q3⟩|⟨q1,q2⟩
   ·obtain⟨c1,c2,c3,c4⟩:=hcode.1 w' q1;have:=zHG (u:=w.mean t) (ih a.2.2 (by omega) w' (a.2.1.reverse++e) d W' G (b+cst p+2) (k-1) ⟨o1,o2,v2,q3,c2,fun y hy hd=>h.tv y (mem_tv_node.2 (.inr ⟨tva l1 l2 a ha y hy,fun q=>absurd q.1 (by decide)⟩)) hd,h.gl,fun j hj=>h.own j (by omega),by omega,by omega,by show b+(p.wt+2*p.sz)+2+(a.2.2.wt+2*a.2.2.sz)<=1000;omega,by omega,by omega⟩) (by show b+(p.wt+2*p.sz)+2+(a.2.2.wt+2*a.2.2.sz)<=1000;omega);rcases this with⟨r1,r2⟩|⟨r1,r2⟩
    ·exact .inl ⟨⟨w',c1,r1⟩,W',q2,r2⟩
    ·refine .inr ⟨.inr ⟨w',c1,r1⟩,fun⟨W2,h2,h3⟩=>?_⟩;rw[q2] at h2;cases h2
     exact r2 h3
   ·refine .inr ⟨.inl (hcode.2 q1),fun⟨W2,h2,h3⟩=>?_⟩;rw[q2] at h2;cases h2
  rcases zLI g.alts ia with hall|⟨m,hm',hbad,hgood⟩
  ·rw[if_pos (fun x hx=>by obtain⟨a,ha,rfl⟩:=List.mem_map.1 hx;exact (hall a ha).2)];refine .inl ⟨w.mean t,jC (j:=8) (f:=124) rfl rfl (by rw[hkc];rfl) (zS2 hkc p1 hfit hal fun a ha=>(hall a ha).1),rfl,hm.mono ?_ ?_⟩<;>simp only[cst,Cr.wt,Cr.sz]<;>omega
  ·rw[if_neg (fun q=>hbad.2 (q _ (List.mem_map.2 ⟨_,List.getElem_mem hm',rfl⟩)))];exact .inr ⟨wC (j:=8) (f:=124) rfl rfl (by rw[hkc];rfl) (zWX hkc p1 hfit hm' (fun j hj hlt=>(hgood j hj hlt).1) hbad.1 hal),rfl⟩
 ·rw[p2];exact .inr ⟨wC (j:=8) (f:=124) rfl rfl (by rw[hkc];rfl) (zVK hkc p1),rfl⟩
theorem z3Q {j:Nat} {k n:Int} {f:Nat} (h:frmL[j]? = some (fE k n f)):1<=k/\k<=11:=by
 have hlt:j<11:=(List.getElem?_eq_some_iff.1 h).1
 match j,hlt with
 | 0,_=>cases h;decide
 | 1,_=>cases h;decide
 | 2,_=>cases h;decide
 | 3,_=>cases h;decide
 | 4,_=>cases h;decide
 | 5,_=>cases h;decide
 | 6,_=>cases h;decide
 | 7,_=>cases h;decide
 | 8,_=>cases h;decide
 | 9,_=>cases h;decide
 | 10,_=>cases h;decide
theorem both_ok:∀N,IHb N:=by
 intro N;induction N with
 | zero=>intro c hs w e d W G b k h;have:=h.n;cases c<;>simp[Cr.isN,Cr.sz] at this hs
 | succ N ih =>
  intro c hs w e d W G b k h;have hn:=h.n;cases c with
  | node f n s t g =>
   by_cases hf:1<=f/\f<=11
   ·have hc:f=1∨f=2∨f=3∨f=4∨f=5∨f=6∨f=7∨f=8∨f=9∨f=10∨f=11:=by omega
    rcases hc with rfl|rfl|rfl|rfl|rfl|rfl|rfl|rfl|rfl|rfl|rfl
    ·exact (z5G h).mono (by omega)
    ·exact (z3L h).mono (by omega)
    ·exact (z18 h).mono (by omega)
    ·exact (z4R ih h hs).mono (by simp only[cst,Cr.wt,Cr.sz];omega)
    ·exact z6H ih h hs
    ·exact zZ2 ih h hs
    ·exact z0E ih h hs
    ·exact z5M ih h hs
    ·exact z08 ih h hs
    ·exact (z0U ih h hs).mono (by simp only[cst,Cr.wt,Cr.sz];omega)
    ·exact (z0P h).mono (by simp only[cst,Cr.wt,Cr.sz];omega)
   ·refine .inr ⟨zaR fun j k n' f' hj he=>hf ?_,?_⟩
    ·have:=z3Q hj;rw[show (Cr.node f n s t g).f=f from rfl] at he;omega
    ·rw[zDD (by omega)];unfold zA2;rw[if_neg (by omega),if_neg (by omega),if_neg (by omega),if_neg (by omega),if_neg (by omega),if_neg (by omega),if_neg (by omega),if_neg (by omega),if_neg (by omega),if_neg (by omega)]
  | _=>cases hn
end
noncomputable instance decDb:DecidableEq Db:=fun a b=>Classical.propDecidable _
noncomputable instance decDC:DecidableEq DC:=fun a b=>Classical.propDecidable _
set_option maxHeartbeats 16000000
end Go.Proofs.YtdmbahepaglcbaaGreatDoor
