/- Compiled cases may be owned. No condition but on names. -/
import Derived.Test.YtebmimnglcdogaaGreatDoorX
import Derived.Test.YtebmimnglcdogaaGreatDoorY
set_option linter.unusedSimpArgs false
set_option linter.unusedVariables false
namespace Go.Proofs.YtebmimnglcdogaaGreatDoor
open Go Fp
set_option maxRecDepth 10000
set_option maxHeartbeats 8000000
set_option linter.unusedVariables false
set_option linter.unusedSimpArgs false
structure Gl (c:Ck.Cr):Prop where
 n:c.isN=true
 ok:c.Ok
 few:c.Few
 ty:c.TyA
 lw:Ck.Lw c
theorem Gl.own {c:Ck.Cr} (h:Gl c):Ck.OwnOk c:=Ck.ownOkL ⟨h.n,h.ok,h.few,h.ty⟩ h.lw
theorem zII (u:Nat):Ck.TyS (wTy u):=⟨by
 obtain⟨f4,f5,f6⟩:=zJC u;exact Ck.substX_ok _ (wTy u) (Nat.le_refl _) 0 [] (zFG u)⟩
theorem zR9:Ck.TyS .no:=⟨Ck.substX_ok _ .no (Nat.le_refl _) 0 [] ⟨⟨[],by simp,by simp[Ck.fv],by simp⟩,by simp[Ck.dp],by simp[Ck.dp],by simp⟩⟩
theorem zWU (n:Int):Gl (zHF n) :=
 ⟨rfl,⟨rfl,fun h=>absurd h (by decide),fun h=>absurd h (by decide),rfl,fun h=>absurd rfl h,fun h=>absurd rfl h,List.nodup_nil,trivial⟩,trivial,⟨zR9,trivial⟩,⟨by decide,trivial⟩⟩
theorem zW8 (s:ByteArray):Gl (zCB s) :=
 ⟨rfl,⟨rfl,fun _=>⟨rfl,rfl⟩,fun h=>absurd h (by decide),rfl,fun h=>absurd rfl h,fun h=>absurd rfl h,List.nodup_nil,trivial⟩,trivial,⟨zR9,trivial⟩,⟨by decide,trivial⟩⟩
theorem z0I:Gl (toC (wTy 0) .fail):=by
 rw[toC];exact⟨rfl,⟨rfl,fun h=>absurd h (by decide),fun h=>absurd h (by decide),rfl,fun h=>absurd rfl h,fun h=>absurd rfl h,List.nodup_nil,trivial⟩,trivial,⟨zII 0,trivial⟩,⟨by decide,trivial⟩⟩
structure Ll (c:Ck.Cr):Prop where
 n:c.isN=false
 ok:c.Ok
 few:c.Few
 ty:c.TyA
 lw:Ck.Lw c
theorem zO7:∀bs:List Bd,(∀q∈bs,∃u,q.2.1=wTy u)->Ll (yP bs .nil)
 | [],_=>⟨rfl,trivial,trivial,trivial,trivial⟩
 | q::r,h=>by
  have ih:=zO7 r fun x hx=>h x (by simp[hx]);obtain⟨u,hu⟩:=h q (by simp);have hv:=zW8 q.2.2;exact⟨rfl,⟨hv.n,ih.n,by rw[zBA];rfl,hv.ok,ih.ok⟩,⟨hv.few,ih.few⟩,⟨by rw[hu];exact zII u,hv.ty,ih.ty⟩,⟨hv.lw,ih.lw⟩⟩
theorem zJ2:∀bs:List Bd,(yP bs .nil).alts=[]
 | []=>rfl
 | q::r=>zJ2 r
theorem z1W (bs:List Bd) (n:Int) (hl:bs.length<80000) (hnd:(bs.map (·.1)).Nodup) (ht:∀q∈bs,∃u,q.2.1=wTy u):Gl (toC (wTy 0) (.leaf bs n)):=by
 cases bs with
 | nil=>rw[toC];exact zWU n
 | cons q0 bs0 =>
  generalize hbs:q0::bs0=bs at *;have htc:toC (wTy 0) (.leaf bs n) = .node 8 0 .empty .no (.kid (zHF n) (yP bs .nil)):=by subst hbs;rw[toC]
  rw[htc];have hL:=zO7 bs ht;have hN:=zWU n;have hk:(yP bs .nil).kids=[]:=by rw[zBA];rfl
  have hb:(yP bs .nil).binds=bs.map (fun q=>(q.1,q.2.1,zCB q.2.2)):=by rw[zCF];exact List.append_nil _
  have ha:=zJ2 bs;refine⟨rfl,⟨rfl,fun h=>absurd h (by decide),fun h=>absurd h (by decide),?_,fun _=>rfl,fun h=>absurd ha h,?_,hN.n,hL.n,hN.ok,hL.ok⟩,⟨hN.few,hL.few⟩,⟨zR9,hN.ty,hL.ty⟩,⟨?_,hN.lw,hL.lw⟩⟩
  ·show (zHF n::(yP bs .nil).kids).length=_;rw[hk];rfl
  ·show ((yP bs .nil).binds.map (·.1)).Nodup;rw[hb,List.map_map];exact hnd
  ·show (zHF n::(yP bs .nil).kids).length+(yP bs .nil).binds.length+(yP bs .nil).alts.length<90000;rw[hk,hb,ha];simp;omega
theorem zTV (to:Tp):∀(hs:List Hd) (ks:List Cr),hs.length=ks.length->(∀(i:Nat) h k,hs[i]? = some h->ks[i]? = some k->h.2.2.2.Nodup/\h.2.2.2.length<=10000/\Gl (toC to k))->Ll (xW to hs ks)/\(xW to hs ks).binds=[]
 | [],[],_,_=>by rw[xW];exact⟨⟨rfl,trivial,trivial,trivial,trivial⟩,rfl⟩;intros;simp_all
 | [],_::_,e,_=>by simp at e
 | _::_,[],e,_=>by simp at e
 | h::hs,k::ks,e,hg=>by
  obtain⟨ih,ihb⟩:=zTV to hs ks (by simpa using e) fun i h k h1 h2=>hg (i+1) h k h1 h2;obtain⟨g1,g2,g3⟩:=hg 0 h k rfl rfl;rw[xW];exact⟨⟨rfl,⟨g3.n,ih.n,zHD to hs ks,ihb,g1,g3.ok,ih.ok⟩,⟨g2,g3.few,ih.few⟩,⟨g3.ty,ih.ty⟩,⟨g3.lw,ih.lw⟩⟩,ihb⟩
theorem zWV (v:ByteArray) (hs:List Hd) (ks:List Cr) (hlen:hs.length=ks.length) (hmany:hs.length<80000) (hg:∀(i:Nat) h k,hs[i]? = some h->ks[i]? = some k->h.2.2.2.Nodup/\h.2.2.2.length<=10000/\Gl (toC (wTy 0) k)):Gl (toC (wTy 0) (.cas v hs ks)):=by
 rw[toC];obtain⟨hL,hb⟩:=zTV (wTy 0) hs ks hlen hg;have hV:=zW8 v;have hk:=zHD (wTy 0) hs ks;have ha:(xW (wTy 0) hs ks).alts.length=hs.length:=by rw[zGL (wTy 0) hs ks hlen];simp;omega
 refine⟨rfl,⟨rfl,fun h=>absurd h (by decide),fun h=>absurd h (by decide),?_,fun h=>absurd hb h,fun _=>rfl,?_,hV.n,hL.n,hV.ok,hL.ok⟩,⟨hV.few,hL.few⟩,⟨zII 0,hV.ty,hL.ty⟩,⟨?_,hV.lw,hL.lw⟩⟩
 ·show (zCB v::(xW (wTy 0) hs ks).kids).length=_;rw[hk];rfl
 ·show ((xW (wTy 0) hs ks).binds.map (·.1)).Nodup;rw[hb];exact List.nodup_nil
 ·show (zCB v::(xW (wTy 0) hs ks).kids).length+(xW (wTy 0) hs ks).binds.length+(xW (wTy 0) hs ks).alts.length<90000;rw[hk,hb,ha];simp;omega
theorem zW6 (b:Nat->Int):∀(n:Nat) (l:List Rw) (cs:List Nat) (ns:List ByteArray) (Γ:Ct) (env:List Ck.Nm2),RowsTy cs n l->Inv Γ env ns cs->(∀r∈l,RowN Γ env r)->env.length+3*n<=60000->Gl (toC (wTy 0) (made b n l ns)):=by
 intro n;induction n with
 | zero=>intro l cs ns Γ env h;have:=h.fuel;omega
 | succ n ih =>
  intro l cs ns Γ env h hI hN hE;have hcap:=h.cap;have hfu:=h.fuel;have hn:=hI.len;cases l with
  | nil=>rw[made];exact z0I
  | cons r l =>
   have hrow:=h.row r (by simp);have hrt:=hrow.ty;have hpl:=hrt.len;have hlost:=hrow.lost;obtain⟨i,hi⟩:=zG6 r.ps;rcases hi with⟨k,rfl,hk,h1,h2⟩|⟨rfl,ho⟩
   ·obtain⟨t,ha⟩:∃t,cs[k]? = some t:=⟨_,List.getElem?_eq_getElem (by omega)⟩
    obtain⟨p,hp,hty⟩:=hrt.get ha;have hpk:p=r.ps[k]:=by rw[List.getElem?_eq_getElem hk] at hp;injection hp with hp;exact hp.symm
    have hop:p.opn=false:=by rw[hpk];exact h1
    obtain⟨s,hs⟩:∃s,ns[k]? = some s:=⟨_,List.getElem?_eq_getElem (by omega)⟩
    have hkn:k<ns.length:=by omega
    obtain⟨l1,l2,l3⟩:=hI.live k s t hs ha;have hname:=hI.name l1 l2;have hix:=zBD hk h1 h2;have h43:p.f=4∨p.f=3:=by
     have:=hty.form.1;simp only[Pt.opn,Bool.or_eq_false_iff,decide_eq_false_iff_not] at hop;omega
    by_cases h4:p.f=4
    ·rcases zA2 ha h.tys with⟨_,hno⟩|⟨hks,ht0,ht5,hh⟩
     ·exact absurd h4 (hno r (by simp) p hp)
     ·have hmd:made b (n+1) (r::l) ns = .cas s ((qA t).map fun q=>(1,0,q.1,yE s q.2.length)) ((qA t).map fun q=>made b n (parts (.con q.1 q.2.length) k s (r::l)) (xJ ns k (yE s q.2.length))):=by
       rw[made,hix];simp only[hp,hs,if_pos h4,hks]
      rw[hmd];have hc3:=zDT t;refine zWV _ _ _ (by simp) (by simp;omega) fun i hd c hhd hc=>?_;rw[List.getElem?_map] at hhd hc;cases hq:(qA t)[i]? with
      | none=>rw[hq] at hhd;cases hhd
      | some q =>
       rw[hq] at hhd hc;simp only[Option.map_some,Option.some.injEq] at hhd hc;subst hhd;subst hc;obtain⟨us,hus,hul⟩:=zC5 (List.mem_of_getElem? hq);have h2u:=(wQ hus).1;simp only at h2u;have hR:=h.conA (y:=s) ha hus ⟨r,by simp,p,hp,h4⟩;rw[<-hul];obtain⟨hI',hext⟩:=hI.con hs ha h2u;have hnd:(yE s us.length).Nodup:=by
        unfold yE;refine List.pairwise_map.2 (List.Pairwise.imp_of_mem (fun {i j} hi hj hne e=>?_) List.nodup_range);have hi:=List.mem_range.1 hi;have hj:=List.mem_range.1 hj;exact hne (zA7 (by omega) (by omega) e).2
       refine⟨hnd,by show (yE s us.length).length<=_;rw[xU];omega,ih _ _ _ _ _ hR hI' (fun x hx=>?_) ?_⟩
       ·obtain⟨r',hr',hp'⟩:=List.mem_filterMap.1 hx;exact (hN r' hr').part hext (fun z hz=>by rw[List.map_append];exact List.mem_append_left _ hz) (hext _ _ l1) (by rw[List.map_append];exact List.mem_append_left _ l2) (h.tys r' hr') ha hp'
       ·rw[List.length_append,List.length_zip,xU,List.length_map];omega
    ·have h3:p.f=3:=by omega
     obtain⟨rfl,_,_⟩:=zNB hty h3;have hmd:made b (n+1) (r::l) ns = .cas s ((intsOf k (r::l)).map (fun x=>(2,x,.empty,[]))++[(3,0,.empty,[])]) ((intsOf k (r::l)).map (fun x=>made b n (parts (.int x) k s (r::l)) (xJ ns k []))++[made b n (parts .none k s (r::l)) (xJ ns k [])]):=by
      rw[made,hix];simp only[hp,hs,if_neg h4]
     rw[hmd];have go:∀K:Kn,Fit 0 K []->Gl (toC (wTy 0) (made b n (parts K k s (r::l)) (xJ ns k []))):=fun K hK=>by
      refine ih _ _ _ _ _ (h.lessA (y:=s) ha hK) (hI.less hkn) (fun x hx=>?_) (by omega);obtain⟨r',hr',hp'⟩:=List.mem_filterMap.1 hx;exact (hN r' hr').part (fun _ _ h=>h) (fun _ h=>h) l1 l2 (h.tys r' hr') ha hp'
     have hil:(intsOf k (r::l)).length<=(r::l).length:=Nat.le_trans (zDS k (r::l) []) (by rw[List.length_nil];omega);have hll:=h.len;refine zWV _ _ _ (by simp) (by simp at hil hll⊢;omega) fun i hd c hhd hc=>?_;by_cases hi2:i<(intsOf k (r::l)).length
     ·rw[List.getElem?_append_left (by simpa using hi2),List.getElem?_map,List.getElem?_eq_getElem hi2] at hhd hc;simp only[Option.map_some,Option.some.injEq] at hhd hc;subst hhd;subst hc;exact⟨List.nodup_nil,Nat.zero_le _,go (.int _) (.int _)⟩
     ·rw[List.getElem?_append_right (by simp;omega)] at hhd hc;simp only[List.length_map] at hhd hc;have hz:i-(intsOf k (r::l)).length=0:=by
       have:=(List.getElem?_eq_some_iff.1 hhd).1;simp at this;omega
      rw[hz] at hhd hc;simp only[List.getElem?_cons_zero,Option.some.injEq] at hhd hc;subst hhd;subst hc;exact⟨List.nodup_nil,Nat.zero_le _,go .none (.none 0)⟩
   ·have hmd:made b (n+1) (r::l) ns = .leaf (r.lost++ownB r.ps ns) (b r.body):=by rw[made,zCY ho]
    rw[hmd];obtain⟨i1,i2⟩:=zGN hrt ho hn;have hR:=hN r (by simp);have hm:(r.lost++ownB r.ps ns).map (·.1)=r.lost.map (·.1)++yD r.ps:=by rw[List.map_append,i1]
    have hol:(ownB r.ps ns).length<=cs.length:=by
     unfold ownB;refine Nat.le_trans (List.length_filterMap_le _ _) ?_;rw[List.length_zip];omega
    refine z1W _ _ (by rw[List.length_append];omega) (by rw[hm];exact hR.nd) fun q hq=>?_;rcases List.mem_append.1 hq with hq|hq
    ·obtain⟨u,_,e,_⟩:=hR.lost q hq;exact⟨u,e⟩
    ·obtain⟨i,u,k1,k2,k3⟩:=i2 q hq;exact⟨u,k3⟩
end Go.Proofs.YtebmimnglcdogaaGreatDoor
