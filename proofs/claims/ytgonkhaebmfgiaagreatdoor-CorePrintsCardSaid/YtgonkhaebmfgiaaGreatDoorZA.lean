/- Core in print, by the code: let, case. No condition but on what there is within. -/
import Derived.Test.YtgonkhaebmfgiaaGreatDoorZ
import Derived.Test.YtgonkhaebmfgiaaGreatDoorN
import Derived.Lib.LaidTab
import Derived.Test.YtgonkhaebmfgiaaGreatDoorRows
set_option linter.unusedSimpArgs false
set_option linter.unusedVariables false
namespace Go.Proofs.YtgonkhaebmfgiaaGreatDoor
open Go Fp
set_option maxRecDepth 10000
set_option maxHeartbeats 16000000
set_option linter.unusedVariables false
theorem zHG {t:Tp} (hg:good t) (hs:t.sz<=590):zF Tryz.prog 67 [eTy t] (str (P0 t)):=zL1 zHF t (by omega) (zG6 t hg) (zUP hg)
theorem cp8 {ob:Obj} {n:Int} {s:ByteArray} {t:Tp} {g:Cr} {u:ByteArray} (hT:zF Tryz.prog 67 [eTy t] (str u)) {S:Cr->ByteArray} {p:Cr} {a:ByteArray} (hk:g.kids=[p]) (hp:CpS ob p a) (ha:a.size<=20000000) (hB:∀b∈g.binds,BiOk (CpS ob) S b) (hz:(g.binds.map fun b=>b.2.2.sz).sum<=200) (hl:g.binds.length<=590):CpS ob (.node 8 n s t g) (((⟨#[108,101,116,32]⟩++brc (g.binds.map (tBi S)))++⟨#[32,105,110,32]⟩)++a):=by
 obtain⟨z1,z2⟩:=zS7 hB hz;refine yC (first:=[]) (cap:=[]) ttok mixed Tryz.func24 rfl (by rfl) rfl (Nat.le_of_ble_eq_true rfl) (by kernel_rfl) ?_;refine .inl ⟨_,hT,?_⟩;refine⟨fun h=>absurd h (by simp[Cr.f]),fun _=>?_⟩;refine⟨fun h=>absurd h (by simp[Cr.f]),fun _=>?_⟩;refine⟨fun h=>absurd h (by simp[Cr.f]),fun _=>?_⟩;refine⟨fun h=>absurd h (by simp[Cr.f]),fun _=>?_⟩;refine⟨fun h=>absurd h (by simp[Cr.f]),fun _=>?_⟩;refine⟨fun _=>?_,fun h=>absurd h (by simp[Cr.f])⟩;refine⟨{k:Nat // k<=g.binds.length},fun k=>{vs:=[(1,.box 0 (eC (.node 8 n s t g))),(4,.v (.sl (eSs ((g.binds.take k.1).map (tBi S))))),(75,.v (.sl ((Cr.node 8 n s t g).e3 1))),(76,sv (g.binds.length:Nat)),(77,sv (k.1:Nat))],ow:=[(4,0,2)],hp:=kb ob},
  fun k=>g.binds.length-k.1,⟨0,Nat.zero_le _⟩,⟨⟨rfl,rfl,rfl,svc (by rw[zVA];rfl),rfl,trivial⟩,⟨trivial,trivial⟩,rfl⟩,?_⟩
 rintro⟨k,hk2⟩;refine⟨fun h=>?_,fun h=>?_⟩
 ·have h:k<g.binds.length:=by have h:=of_decide_eq_true h;simp only at h;omega
  have hb:=hB _ (List.getElem_mem h);have hgl:=zS9 (c := .node 8 n s t g) h;have e:(Cr.node 8 n s t g).binds[k]=g.binds[k]:=rfl;rw[e] at hgl;have hup:=zDZ (tBi S) h;generalize g.binds[k]=b at hb hgl hup;obtain⟨s1,s2,s3,s4⟩:=hb.size;refine⟨_,by omega,hgl,rfl,?_⟩;refine⟨by simp only[psz,b1,b92,b35,b93,bco,beq',bar',bbr,bLa,blet,bin',bcase,bof,bfail,Cr.s,Cr.t];omega,?_⟩;refine .inl ⟨_,zHG hb.g hb.z,?_⟩;refine⟨by simp only[psz,b1,b92,b35,b93,bco,beq',bar',bbr,bLa,blet,bin',bcase,bof,bfail,Cr.s,Cr.t];omega,?_⟩;refine⟨by simp only[psz,b1,b92,b35,b93,bco,beq',bar',bbr,bLa,blet,bin',bcase,bof,bfail,Cr.s,Cr.t];omega,?_⟩;refine .inr (.inr (.inl ⟨[0],kb ob,_,rfl,by decide,hb.q,?_⟩));refine⟨by simp only[psz,b1,b92,b35,b93,bco,beq',bar',bbr,bLa,blet,bin',bcase,bof,bfail,Cr.s,Cr.t];omega,?_⟩;refine⟨by show (eSs ((g.binds.take k).map (tBi S))).length+1<=_;rw[zAZ,List.length_map,List.length_take];omega,xU _,qK rfl,?_⟩;refine⟨by kernel_rfl,?_⟩;refine⟨⟨k+1,h⟩,by simp;omega,⟨rfl,?_,rfl,rfl,svc (wrap_succ (k:=k) (by omega)),trivial⟩,⟨rfl,trivial⟩,rfl⟩;rw[hup,zCE];exact rfl
 ·have h:k=g.binds.length:=by have h:=of_decide_eq_false h;simp only at h;omega
  subst h;rw[List.take_length];refine .inl ⟨_,zLX _ z2 (by rw[List.length_map];omega) (by omega),?_⟩;refine⟨by simp only[psz,b1,b92,b35,b93,bco,beq',bar',bbr,bLa,blet,bin',bcase,bof,bfail,Cr.s,Cr.t];omega,?_⟩;refine⟨by simp only[psz,b1,b92,b35,b93,bco,beq',bar',bbr,bLa,blet,bin',bcase,bof,bfail,Cr.s,Cr.t];omega,?_⟩;refine⟨eC p,by omega,zA6 hk,rfl,?_⟩;refine .inr (.inr (.inl ⟨[0],kb ob,_,rfl,by decide,hp,?_⟩));refine⟨by simp only[psz,b1,b92,b35,b93,bco,beq',bar',bbr,bLa,blet,bin',bcase,bof,bfail,Cr.s,Cr.t];omega,?_⟩;refine⟨by kernel_rfl,?_⟩;exact⟨rfl,rfl,rfl⟩
theorem zUT (l:List ByteArray) (hl0:l.length<=1000000):∃r o h,zWN l r o h:=by
 by_cases hl:l=[]
 ·subst hl;exact⟨_,_,_,rfl,⟨none,0,[]⟩,rfl,rfl,⟨fun _=>rfl,fun h=>absurd rfl h⟩,by decide⟩
 ·exact⟨_,_,_,rfl,⟨some ⟨0,0,none⟩,l.length,[]⟩,rfl,rfl,⟨fun h=>absurd h hl,fun _=>⟨0,rfl,rfl⟩⟩,by show l.length<=_;omega⟩
theorem zSA (l:List ByteArray):∃r o h,zW2 l r o h:=⟨_,_,_,rfl,0,l.length,[],rfl,rfl,Nat.le_refl _⟩
theorem cp9 {n:Int} {s:ByteArray} {t:Tp} {g:Cr} {ob:Obj} (hT:zF Tryz.prog 67 [eTy t] (str (P0 t))) (hz:(P0 t).size<=29500) {S:Cr->ByteArray} {p:Cr} {a:ByteArray} (hk:g.kids=[p]) (hp:CpS ob p a) (ha:a.size<=20000000) (hA:∀b∈g.alts,AlOk (CpS ob) S b) (hz9:(g.alts.map fun b=>b.2.2.sz).sum<=200) (hl:g.alts.length<=590):CpS ob (.node 9 n s t g) (((((⟨#[99,97,115,101,32]⟩++a)++⟨#[32,58,32]⟩)++P0 t)++⟨#[32,111,102,32]⟩)++brc (g.alts.map (tAl S))):=by
 obtain⟨z1,z2⟩:=zS4 hA hz9;refine zM (first:=[]) (cap:=[]) ttok mixed Tryz.func24 rfl (by rfl) rfl (Nat.le_of_ble_eq_true rfl) (by kernel_rfl) ?_;refine Wsem.seq ttok mixed ?_;refine Wsem.seq ttok mixed ?_;refine .inl ⟨_,hT,?_⟩;refine Wsem.seq ttok mixed ?_;refine Wsem.seqS (Wsem.seq ttok mixed ?_);refine Wsem.block ?_;refine Wsem.seq ttok mixed ?_;refine Wsem.cond rfl (fun h=>absurd h (by simp[Cr.f])) (fun _=>?_);refine Wsem.seq ttok mixed ?_;refine Wsem.cond rfl (fun h=>absurd h (by simp[Cr.f])) (fun _=>?_);refine Wsem.seq ttok mixed ?_;refine Wsem.cond rfl (fun h=>absurd h (by simp[Cr.f])) (fun _=>?_);refine Wsem.seq ttok mixed ?_;refine Wsem.cond rfl (fun h=>absurd h (by simp[Cr.f])) (fun _=>?_);refine Wsem.seq ttok mixed ?_;refine Wsem.cond rfl (fun h=>absurd h (by simp[Cr.f])) (fun _=>?_);refine Wsem.seq ttok mixed ?_;refine Wsem.cond rfl (fun h=>absurd h (by simp[Cr.f])) (fun _=>?_);refine Wsem.seq ttok mixed ?_;refine Wsem.cond rfl (fun _=>?_) (fun h=>absurd h (by simp[Cr.f]));refine Wsem.seqS (Wsem.seq ttok mixed ?_);refine Wsem.block (Wsem.loop (α:={k:Nat // k<=g.alts.length}) (fun k=>{vs:=[(1,.box 0 (eC (.node 9 n s t g))),(3,.v (str (P0 t))),(4,.v (.sl (eSs ((g.alts.take k.1).map (tAl S))))),(110,.v (.sl ((Cr.node 9 n s t g).e3 2))),(111,sv (g.alts.length:Nat)),(112,sv (k.1:Nat))],ow:=[(4,0,2)],hp:=kb ob})
  (fun k=>g.alts.length-k.1) ⟨0,Nat.zero_le _⟩ ⟨⟨rfl,rfl,rfl,rfl,svc (by rw[zYL];rfl),rfl,trivial⟩,⟨trivial,trivial⟩,rfl⟩ ?_)
 rintro⟨k,hk2⟩;refine Wsem.seq ttok mixed ?_;refine Wsem.seq ttok mixed ?_;refine⟨fun h=>?_,fun h=>?_⟩
 ·have h:k<g.alts.length:=by have h:=of_decide_eq_true h;simp only at h;omega
  have hb:=hA _ (List.getElem_mem h);have hgl:=zS1 (c := .node 9 n s t g) h;have e:(Cr.node 9 n s t g).alts[k]=g.alts[k]:=rfl;rw[e] at hgl;have hup:=zDZ (tAl S) h;generalize g.alts[k]=b at hb hgl hup;obtain⟨s1,s2,s4⟩:=hb.size;refine Wsem.seqS (Wsem.block ?_);refine Wsem.seq ttok mixed ?_;refine⟨_,by omega,hgl,rfl,?_⟩;refine Wsem.seq ttok mixed ?_;refine Wsem.seqS (Wsem.seq ttok mixed ?_);refine Wsem.block ?_;refine Wsem.seq ttok mixed ?_;refine Wsem.cond rfl (fun h1=>?_) (fun h1=>?_)
  ·have h1:b.1.1=1:=of_decide_eq_true h1;have hH:tHd b=jnS ⟨#[32]⟩ (b.1.2.2::b.2.1):=by unfold tHd;rw[if_pos h1]
   have hvl:=hb.vl;refine Wsem.regionTA zFL ttok mixed [0,1,3,4,5,2,6,7,8] [false,false,false,false,false,true,true,true] (by kernel_rfl) ?_;refine⟨[],[],[],_,rfl,List.nodup_nil,rfl,zUE b.2.1 (by omega),zUT _ (by omega),?_⟩;rintro _ _ _ ⟨rfl,v,rfl,rfl,hcl,hcap⟩;have hins:=z0P v b.2.1 b.1.2.2 hcl (by omega) hcap;rw[hH] at s4;by_cases hv0:b.2.1=[]
   ·rw[hv0] at hH s4;rw[hv0,List.length_nil,blk_none] at hins;rw[hv0,List.length_nil,blk_none];refine⟨[],_,[],_,rfl,by decide,rfl,hins,zSA _,?_⟩;rintro _ _ _ ⟨rfl,bb,cap,z,rfl,rfl,hcc⟩;refine⟨[1],_,[],_,rfl,by decide,rfl,zN8 ⟨#[32]⟩ [b.1.2.2] (by omega) (by simp only[List.length_cons,List.length_nil];omega) hcc,⟨_,_,_,rfl,rfl,rfl⟩,?_⟩;rintro _ _ _ ⟨rfl,rfl,rfl⟩;refine⟨by kernel_rfl,?_⟩;refine Wsem.cut {vs:=[(1,.box 0 (eC (.node 9 n s t g))),(3,.v (str (P0 t))),(4,.v (.sl (eSs ((g.alts.take k).map (tAl S))))),(8,.box 0 (eAl b)),(9,.v (str (jnS ⟨#[32]⟩ [b.1.2.2]))),(110,.v (.sl ((Cr.node 9 n s t g).e3 2))),(111,sv (g.alts.length:Nat)),(112,sv (k:Nat))],ow:=[(4,0,2)],hp:=kb ob} ⟨⟨rfl,rfl,rfl,rfl,rfl,rfl,rfl,rfl,trivial⟩,⟨rfl,trivial⟩,rfl⟩ ?_;refine Wsem.of ttok mixed ?_;refine⟨by simp only[psz,b1,b92,b35,b93,bco,beq',bar',bbr,bLa,blet,bin',bcase,bof,bfail,Cr.s,Cr.t];omega,?_⟩;refine .inr (.inr (.inl ⟨[0],kb ob,_,rfl,by decide,hb.q,?_⟩));refine⟨by simp only[psz,b1,b92,b35,b93,bco,beq',bar',bbr,bLa,blet,bin',bcase,bof,bfail,Cr.s,Cr.t];omega,?_⟩;refine⟨by show (eSs ((g.alts.take k).map (tAl S))).length+1<=_;rw[zAZ,List.length_map,List.length_take];omega,xU _,qK rfl,?_⟩;refine Wsem.of ttok mixed ?_;refine⟨⟨k+1,h⟩,by simp;omega,⟨rfl,rfl,?_,rfl,rfl,svc (wrap_succ (k:=k) (by omega)),trivial⟩,⟨rfl,trivial⟩,rfl⟩;rw[hup,zCE];unfold tAl;rw[hH];exact rfl
   ·obtain⟨b0,hA0,_⟩:=hcl.2 hv0;have hpos:0<b.2.1.length:=List.length_pos_iff.2 hv0;rw[jX hpos hA0] at hins;rw[jX hpos hA0];refine⟨[1],_,[],_,rfl,by decide,rfl,hins,zSA _,?_⟩;rintro _ _ _ ⟨rfl,bb,cap,z,rfl,rfl,hcc⟩;refine⟨[1],_,[],_,rfl,by decide,rfl,zN8 ⟨#[32]⟩ (b.1.2.2::b.2.1) (by omega) (by simp only[List.length_cons,List.length_nil];omega) hcc,⟨_,_,_,rfl,rfl,rfl⟩,?_⟩;rintro _ _ _ ⟨rfl,rfl,rfl⟩;refine⟨by kernel_rfl,?_⟩;refine Wsem.cut {vs:=[(1,.box 0 (eC (.node 9 n s t g))),(3,.v (str (P0 t))),(4,.v (.sl (eSs ((g.alts.take k).map (tAl S))))),(8,.box 0 (eAl b)),(9,.v (str (jnS ⟨#[32]⟩ (b.1.2.2::b.2.1)))),(110,.v (.sl ((Cr.node 9 n s t g).e3 2))),(111,sv (g.alts.length:Nat)),(112,sv (k:Nat))],ow:=[(4,0,2)],hp:=kb ob} ⟨⟨rfl,rfl,rfl,rfl,rfl,rfl,rfl,rfl,trivial⟩,⟨rfl,trivial⟩,rfl⟩ ?_;refine Wsem.of ttok mixed ?_;refine⟨by simp only[psz,b1,b92,b35,b93,bco,beq',bar',bbr,bLa,blet,bin',bcase,bof,bfail,Cr.s,Cr.t];omega,?_⟩;refine .inr (.inr (.inl ⟨[0],kb ob,_,rfl,by decide,hb.q,?_⟩));refine⟨by simp only[psz,b1,b92,b35,b93,bco,beq',bar',bbr,bLa,blet,bin',bcase,bof,bfail,Cr.s,Cr.t];omega,?_⟩;refine⟨by show (eSs ((g.alts.take k).map (tAl S))).length+1<=_;rw[zAZ,List.length_map,List.length_take];omega,xU _,qK rfl,?_⟩;refine Wsem.of ttok mixed ?_;refine⟨⟨k+1,h⟩,by simp;omega,⟨rfl,rfl,?_,rfl,rfl,svc (wrap_succ (k:=k) (by omega)),trivial⟩,⟨rfl,trivial⟩,rfl⟩;rw[hup,zCE];unfold tAl;rw[hH];exact rfl
  ·have h1:¬b.1.1=1:=of_decide_eq_false h1;refine Wsem.seq ttok mixed ?_;refine Wsem.cond rfl (fun h2=>?_) (fun h2=>?_)
   ·have h2:b.1.1=2:=of_decide_eq_true h2;have hH:tHd b=dci b.1.2.1:=by unfold tHd;rw[if_neg h1,if_pos h2]
    have hn:=hb.n;obtain⟨m,hm⟩:=Int.eq_ofNat_of_zero_le hn.1;have hI:zF Tryz.prog 68 [.lit (.int .i64 b.1.2.1)] (str (dci b.1.2.1)):=by
     have e2:dci b.1.2.1=dcm m:=by unfold dci;rw[if_pos hn.1,hm];rfl
     rw[e2,hm];exact zID (n:=m) (by omega)
    refine Wsem.of ttok mixed ?_;refine .inl ⟨_,hI,?_⟩;rw[hH] at s4;refine Wsem.cut {vs:=[(1,.box 0 (eC (.node 9 n s t g))),(3,.v (str (P0 t))),(4,.v (.sl (eSs ((g.alts.take k).map (tAl S))))),(8,.box 0 (eAl b)),(9,.v (str (dci b.1.2.1))),(110,.v (.sl ((Cr.node 9 n s t g).e3 2))),(111,sv (g.alts.length:Nat)),(112,sv (k:Nat))],ow:=[(4,0,2)],hp:=kb ob} ⟨⟨rfl,rfl,rfl,rfl,rfl,rfl,rfl,rfl,trivial⟩,⟨rfl,trivial⟩,rfl⟩ ?_;refine Wsem.of ttok mixed ?_;refine⟨by simp only[psz,b1,b92,b35,b93,bco,beq',bar',bbr,bLa,blet,bin',bcase,bof,bfail,Cr.s,Cr.t];omega,?_⟩;refine .inr (.inr (.inl ⟨[0],kb ob,_,rfl,by decide,hb.q,?_⟩));refine⟨by simp only[psz,b1,b92,b35,b93,bco,beq',bar',bbr,bLa,blet,bin',bcase,bof,bfail,Cr.s,Cr.t];omega,?_⟩;refine⟨by show (eSs ((g.alts.take k).map (tAl S))).length+1<=_;rw[zAZ,List.length_map,List.length_take];omega,xU _,qK rfl,?_⟩;refine Wsem.of ttok mixed ?_;refine⟨⟨k+1,h⟩,by simp;omega,⟨rfl,rfl,?_,rfl,rfl,svc (wrap_succ (k:=k) (by omega)),trivial⟩,⟨rfl,trivial⟩,rfl⟩;rw[hup,zCE];unfold tAl;rw[hH];exact rfl
   ·have h2:¬b.1.1=2:=of_decide_eq_false h2;have hH:tHd b=⟨#[95]⟩:=by unfold tHd;rw[if_neg h1,if_neg h2]
    refine Wsem.of ttok mixed ?_;rw[hH] at s4;refine Wsem.cut {vs:=[(1,.box 0 (eC (.node 9 n s t g))),(3,.v (str (P0 t))),(4,.v (.sl (eSs ((g.alts.take k).map (tAl S))))),(8,.box 0 (eAl b)),(9,.v (str (⟨#[95]⟩))),(110,.v (.sl ((Cr.node 9 n s t g).e3 2))),(111,sv (g.alts.length:Nat)),(112,sv (k:Nat))],ow:=[(4,0,2)],hp:=kb ob} ⟨⟨rfl,rfl,rfl,rfl,rfl,rfl,rfl,rfl,trivial⟩,⟨rfl,trivial⟩,rfl⟩ ?_;refine Wsem.of ttok mixed ?_;refine⟨by simp only[psz,b1,b92,b35,b93,bco,beq',bar',bbr,bLa,blet,bin',bcase,bof,bfail,Cr.s,Cr.t];omega,?_⟩;refine .inr (.inr (.inl ⟨[0],kb ob,_,rfl,by decide,hb.q,?_⟩));refine⟨by simp only[psz,b1,b92,b35,b93,bco,beq',bar',bbr,bLa,blet,bin',bcase,bof,bfail,Cr.s,Cr.t];omega,?_⟩;refine⟨by show (eSs ((g.alts.take k).map (tAl S))).length+1<=_;rw[zAZ,List.length_map,List.length_take];omega,xU _,qK rfl,?_⟩;refine Wsem.of ttok mixed ?_;refine⟨⟨k+1,h⟩,by simp;omega,⟨rfl,rfl,?_,rfl,rfl,svc (wrap_succ (k:=k) (by omega)),trivial⟩,⟨rfl,trivial⟩,rfl⟩;rw[hup,zCE];unfold tAl;rw[hH];exact rfl
 ·have h:k=g.alts.length:=by have h:=of_decide_eq_false h;simp only at h;omega
  subst h;rw[List.take_length];refine Wsem.of ttok mixed ?_;refine⟨eC p,by omega,zA6 hk,rfl,?_⟩;refine .inr (.inr (.inl ⟨[0],kb ob,_,rfl,by decide,hp,?_⟩));refine⟨by simp only[psz,b1,b92,b35,b93,bco,beq',bar',bbr,bLa,blet,bin',bcase,bof,bfail,Cr.s,Cr.t];omega,?_⟩;refine⟨by simp only[psz,b1,b92,b35,b93,bco,beq',bar',bbr,bLa,blet,bin',bcase,bof,bfail,Cr.s,Cr.t];omega,?_⟩;refine⟨by simp only[psz,b1,b92,b35,b93,bco,beq',bar',bbr,bLa,blet,bin',bcase,bof,bfail,Cr.s,Cr.t];omega,?_⟩;refine⟨by simp only[psz,b1,b92,b35,b93,bco,beq',bar',bbr,bLa,blet,bin',bcase,bof,bfail,Cr.s,Cr.t];omega,?_⟩;refine .inl ⟨_,zLX _ z2 (by rw[List.length_map];omega) (by omega),?_⟩;refine⟨by simp only[psz,b1,b92,b35,b93,bco,beq',bar',bbr,bLa,blet,bin',bcase,bof,bfail,Cr.s,Cr.t];omega,?_⟩;exact⟨rfl,rfl,rfl⟩
theorem z5V {c:Cr} (h:Pg c):1<=c.f/\c.f<=11:=by
 cases c with
 | node f n s t g=>exact h.pk.1
 | _=>cases h.n
theorem z0I {t:Tp} (h:good t∨t = .no) (hs:t.sz<=590):∃u,zF Tryz.prog 67 [eTy t] (str u):=by
 rcases h with h|rfl
 ·exact⟨_,zHG h hs⟩
 ·exact⟨_,zDU⟩
abbrev Both (ob:Obj) (c:Cr) (s:ByteArray):Prop:=Lg c s/\RpS c s/\CpS ob c s
open Classical in
noncomputable def wI (ob:Obj) (c:Cr):ByteArray:=if h:∃s,Both ob c s then h.choose else .empty
theorem zJQ {ob:Obj} {c:Cr} (h:∃s,Both ob c s):Both ob c (wI ob c):=by
 unfold wI;rw[dif_pos h];exact h.choose_spec
theorem z4S {c:Cr} {s:ByteArray} (h:Lg c s) (hz:c.sz<=200):s.size<=20000000:=by unfold Lg at h;omega
theorem z2L {l:List Cr} (h:l.length=2):∃p q,l=[p,q]:=by
 match l,h with
 | [p,q],_=>exact⟨p,q,rfl⟩
theorem z2P {l:List Cr} (h:l.length=1):∃p,l=[p]:=by
 match l,h with
 | [p],_=>exact⟨p,rfl⟩
theorem zQA {ob:Obj} (hob:Tb ob) (N:Nat):∀c:Cr,c.sz<=N->c.sz<=200->Pg c->∃s,Both ob c s:=by
 induction N with
 | zero=>intro c h _ hp;have:=zAC hp.n;omega
 | succ N ih =>
  intro c hN h2 hp;cases c with
  | node f n s t g =>
   obtain⟨ht,hpk,hpb,hpa⟩:=z0R hp;obtain⟨hf,hn,hs,hty,_⟩:=hp.pk;have ok:=hp.ok;have hkl:g.kids.length=Cr.nk f:=ok.2.2.2.1;have hsz:(Cr.node f n s t g).sz=1+g.sz:=rfl;have hps:=zTZ g;have hs5:=(zES hs).2;obtain⟨u,hT⟩:=z0I (hty.elim .inl fun h => .inr h.1) ht;have kid:∀p∈g.kids,p.sz<=g.sz/\Lg p (wI ob p)/\RpS p (wI ob p)/\CpS ob p (wI ob p)/\(wI ob p).size<=20000000/\(1<=p.f/\p.f<=11):=fun p hm=>by
    have h1:=zNN (c := .node f n s t g) hm;rw[show (if (Cr.node f n s t g).isN=true then 1 else 0)=1 from rfl] at h1;obtain⟨b1,b2,b3⟩:=zJQ (ih p (by omega) (by omega) (hpk p hm));exact⟨by omega,b1,b2,b3,z4S b1 (by omega),z5V (hpk p hm)⟩
   have bi:∀b∈g.binds,BiOk RpS (wI ob) b/\BiOk (CpS ob) (wI ob) b:=fun b hm=>by
    have h1:=zH6 (c := .node f n s t g) hm;rw[show (if (Cr.node f n s t g).isN=true then 1 else 0)=1 from rfl] at h1;obtain⟨q1,q2,q3,q4⟩:=hpb b hm;obtain⟨b1,b2,b3⟩:=zJQ (ih b.2.2 (by omega) (by omega) q4);exact⟨⟨q1,q2,q3,b2,b1,by omega⟩,⟨q1,q2,q3,b3,b1,by omega⟩⟩
   have al:∀a∈g.alts,AlOk RpS (wI ob) a/\AlOk (CpS ob) (wI ob) a:=fun a hm=>by
    have h1:=zMV (c := .node f n s t g) hm;rw[show (if (Cr.node f n s t g).isN=true then 1 else 0)=1 from rfl] at h1;obtain⟨q1,q2,q3,q4,q5,q6⟩:=hpa a hm;obtain⟨b1,b2,b3⟩:=zJQ (ih a.2.2 (by omega) (by omega) q6);exact⟨⟨q1,q2,q3,q4,q5,b2,b1,by omega⟩,⟨q1,q2,q3,q4,q5,b3,b1,by omega⟩⟩
   have gd:f=5∨f=6∨f=9∨f=11->good t:=fun h=>hty.elim id fun h'=>by omega
   have c11:f=1∨f=2∨f=3∨f=4∨f=5∨f=6∨f=7∨f=8∨f=9∨f=10∨f=11:=by omega
   have two:Cr.nk f=2->∃p q,g.kids=[p,q]/\p.sz+q.sz<=g.sz:=fun h=>by
    obtain⟨p,q,e⟩:=z2L (hkl.trans h);refine⟨p,q,e,?_⟩;rw[e] at hps;simp only[List.map_cons,List.map_nil,List.sum_cons,List.sum_nil] at hps;omega
   have one:Cr.nk f=1->∃p,g.kids=[p]/\p.sz+((g.binds.map fun b=>b.2.2.sz).sum+(g.alts.map fun a=>a.2.2.sz).sum)<=g.sz:=fun h=>by
    obtain⟨p,e⟩:=z2P (hkl.trans h);refine⟨p,e,?_⟩;rw[e] at hps;simp only[List.map_cons,List.map_nil,List.sum_cons,List.sum_nil] at hps;omega
   rcases c11 with rfl|rfl|rfl|rfl|rfl|rfl|rfl|rfl|rfl|rfl|rfl
   ·exact⟨s,by unfold Lg;omega,rp1 ok,cp1 hT⟩
   ·exact⟨s,by unfold Lg;omega,rp2 ok,cp2 hT⟩
   ·have h7:(dci n).size<=7:=zSM (by omega) (by omega);exact⟨dci n,by unfold Lg;omega,rp3 ok ⟨by omega,by omega⟩,cp3 hT hob ⟨by omega,by omega⟩⟩
   ·obtain⟨p,q,hk,hpq⟩:=two rfl;obtain⟨p0,p1,p2,p3,p4,p5⟩:=kid p (by rw[hk];simp);obtain⟨q0,q1,q2,q3,q4,q5⟩:=kid q (by rw[hk];simp);have i1:=yX p (wI ob p);have i2:=xG q (wI ob q);have i3:=xG p (wI ob p);unfold Lg at p1 q1;exact⟨_,by unfold Lg;simp only[psz,b1,b92,b35,b93,bco,beq',bar',bbr,bLa,blet,bin',bcase,bof,bfail];omega,rp4 ok hk p5 q5 p2 q2 p4 q4,cp4 hT hk p3 q3 p4 q4⟩
   ·obtain⟨p,hk,hpq⟩:=one rfl;obtain⟨p0,p1,p2,p3,p4,p5⟩:=kid p (by rw[hk];simp);have i1:=yX p (wI ob p);unfold Lg at p1;have hg:=gd (by omega);have hz:=jI hg ht;exact⟨_,by unfold Lg;simp only[psz,b1,b92,b35,b93,bco,beq',bar',bbr,bLa,blet,bin',bcase,bof,bfail];omega,rp5 ok hk p2 p4 hs5 hg ht,cp5 (zHG hg ht) (by omega) hk p3 p4 hs5⟩
   ·obtain⟨p,hk,hpq⟩:=one rfl;obtain⟨p0,p1,p2,p3,p4,p5⟩:=kid p (by rw[hk];simp);have i1:=yX p (wI ob p);unfold Lg at p1;have hg:=gd (by omega);have hz:=jI hg ht;exact⟨_,by unfold Lg;simp only[psz,b1,b92,b35,b93,bco,beq',bar',bbr,bLa,blet,bin',bcase,bof,bfail];omega,rp6 ok hk p2 p4 hs5 p5 hg ht,cp6 (zHG hg ht) (by omega) hk p3 p4 hs5⟩
   ·obtain⟨p,hk,hpq⟩:=one rfl;obtain⟨p0,p1,p2,p3,p4,p5⟩:=kid p (by rw[hk];simp);have i1:=yX p (wI ob p);unfold Lg at p1;exact⟨_,by unfold Lg;simp only[psz,b1,b92,b35,b93,bco,beq',bar',bbr,bLa,blet,bin',bcase,bof,bfail];omega,rp7 ok hk p2 p4 hs5,cp7 hT hk p3 p4 hs5⟩
   ·obtain⟨p,hk,hpq⟩:=one rfl;obtain⟨p0,p1,p2,p3,p4,p5⟩:=kid p (by rw[hk];simp);have i1:=yX p (wI ob p);unfold Lg at p1;have hl:=zAG g (xQ ok).2;have hb:(brc (g.binds.map (tBi (wI ob)))).size<=4+100000*(g.binds.map fun b=>b.2.2.sz).sum:=zW6 fun b hb=>(zMO (bi b hb).1.w (bi b hb).1.g (bi b hb).1.z (bi b hb).1.lg).1;exact⟨_,by unfold Lg;simp only[psz,b1,b92,b35,b93,bco,beq',bar',bbr,bLa,blet,bin',bcase,bof,bfail];omega,rp8 ok hk p2 p4 (fun b hb=>(bi b hb).1) (by omega) (by omega),cp8 hT hk p3 p4 (fun b hb=>(bi b hb).2) (by omega) (by omega)⟩
   ·obtain⟨p,hk,hpq⟩:=one rfl;obtain⟨p0,p1,p2,p3,p4,p5⟩:=kid p (by rw[hk];simp);have i1:=yX p (wI ob p);unfold Lg at p1;have hg:=gd (by omega);have hz:=jI hg ht;have hl:=zAG g (xQ ok).2;have hb:(brc (g.alts.map (tAl (wI ob)))).size<=4+100000*(g.alts.map fun b=>b.2.2.sz).sum:=zV5 fun b hb=>zM8 (al b hb).1.size.2.2 (al b hb).1.lg;exact⟨_,by unfold Lg;simp only[psz,b1,b92,b35,b93,bco,beq',bar',bbr,bLa,blet,bin',bcase,bof,bfail];omega,rp9 ok hk p2 p4 hg ht (fun b hb=>(al b hb).1) (by omega) (by omega),cp9 (zHG hg ht) (by omega) hk p3 p4 (fun b hb=>(al b hb).2) (by omega) (by omega)⟩
   ·obtain⟨p,q,hk,hpq⟩:=two rfl;obtain⟨p0,p1,p2,p3,p4,p5⟩:=kid p (by rw[hk];simp);obtain⟨q0,q1,q2,q3,q4,q5⟩:=kid q (by rw[hk];simp);have i1:=yX p (wI ob p);have i2:=xG q (wI ob q);have i3:=xG p (wI ob p);unfold Lg at p1 q1;exact⟨_,by unfold Lg;simp only[psz,b1,b92,b35,b93,bco,beq',bar',bbr,bLa,blet,bin',bcase,bof,bfail];omega,z5Y ok hk p5 q5 p2 q2 p4 q4 hs5,cp10 hT hk p3 q3 p4 q4 hs5⟩
   ·have hg:=gd (by omega);have hz:=jI hg ht;exact⟨_,by unfold Lg;simp only[psz,b1,b92,b35,b93,bco,beq',bar',bbr,bLa,blet,bin',bcase,bof,bfail];omega,z5U ok hg ht,z5W (zHG hg ht) (by omega)⟩
  | _=>cases hp.n
theorem zLA {ob:Obj} (hob:Tb ob) {l:List Int} (hlen:l.length<9223372036854775808) (hr:∀x∈l,InR x):CallsG Tryz.prog (fnv 5) (kb ob) [.sl (eIs l)] [] (fun r o h=>r = .sb true/\o=0/\h=kb ob):=by
 obtain⟨c,sc,pc,⟨wc,zc,_⟩,hC⟩:=zRE hlen hr;obtain⟨s,hlg,hR,hP⟩:=zQA hob 200 c (by omega) (by omega) ⟨sc.n,sc.ok,pc,sc.wt⟩;refine yC (first:=[]) (cap:=[]) ttok mixed Tryz.func5 rfl (by rfl) rfl (Nat.le_of_ble_eq_true rfl) (by kernel_rfl) ?_;refine .inl ⟨_,hC,?_⟩;refine .inr (.inr (.inl ⟨[0],kb ob,_,rfl,by decide,hP,?_⟩));refine .inl ⟨_,hR,?_⟩;refine⟨fun _=>?_,fun h=>absurd h (by simp)⟩;refine .inl ⟨_,zYI,?_⟩;refine⟨by kernel_rfl,?_⟩;exact⟨rfl,rfl,rfl⟩
open Go Fp Go.RowKit
set_option maxRecDepth 100000
theorem zTQ {W:World} (h:laidMet Tryz.prog Rows.corePrintsRow.laid W):∃ob,W.heap[0]? = some ob/\Tb ob:=by
 obtain⟨ps,⟨_,_,_,_,_,q1,_,_,_,_,⟨_,_,_,_,_,q2,_,_,_,_,⟨g,t,cs,fuel,p,q3,hg,ht,hv,hd,_,_⟩,_⟩,_⟩,_⟩:=h;obtain rfl := Option.some.inj ((show Tryz.prog.globalNamed "internal/strconv.uint64pow10" = some 0 by kernel_rfl).symm.trans hg)
 obtain rfl:=Option.some.inj ((show (Tryz.prog.globals[0]?).map (·.type)=some 163 by kernel_rfl).symm.trans ht);have e:(Rows.laid_internal_strconv_uint64pow10:DataW Unit)=Lib.tabData .u64 Lib.pow10Tab:=rfl;rw[e] at hd;have hc:=Lib.cells_of_tab (Tryz.underlying163) (Tryz.underlying150) (show Tryz.prog.cellsOf 150=1 by kernel_rfl) (show Tryz.prog.cellsOf 163=20 by kernel_rfl) hd;unfold World.var? at hv;rw [show Tryz.prog.globalNamed "internal/strconv.uint64pow10" = some 0 by kernel_rfl, Option.bind_some] at hv
 split at hv
 ·rename_i cs' E c hb;injection hv with hv
  subst hv;exact⟨_,hb,E,c,congrArg (fun x=>Obj.cells x E c) (by rw[<-hc])⟩
 ·cases hv
def F0 (b:Nat):Option Nat:=if b=0 then some 0 else none
theorem zUR {W:World} {v:Value} {l:List Int} {ob:Obj} (h0:W.heap[0]? = some ob) (hob:Tb ob) (h:Rep noF W v (.sl (eIs l))):Rep F0 W v (.sl (eIs l)):=by
 generalize hq:eIs l=q at h;cases h with
 | slNil=>exact .slNil
 | slZ a=>exact .slZ a
 | sl b off n cap sz _ us hn hc hsz hcl hcell hrep =>
  subst hq;have hlit:∀(i:Nat) x (j:Nat) c,(eIs l)[i]? = some x->x.cells[j]? = some c->Rep F0 W (us (i*sz+j)) c:=fun i x j c hx hj=>by
   have hr:=hrep i x j c hx hj;obtain⟨y,_,rfl⟩:=List.mem_map.1 (List.mem_of_getElem? hx);have hj':([AV.lit (.int .i64 y)]:List AV)[j]? = some c:=hj;cases j with
   | zero =>
    simp at hj';subst hj';rw[hr.lit_eq.1];exact .lit _ rfl
   | succ j=>simp at hj'
  refine .sl b off n cap sz _ us hn hc hsz hcl (fun k hk=>⟨(hcell k hk).1,fun m hm=>?_⟩) hlit;have hb0:b=0:=by
   by_cases hb:b=0
   ·exact hb
   ·unfold F0 at hm;rw[if_neg hb] at hm;cases hm
  exfalso;subst hb0;cases l with
  | nil =>
   rw[show n=0 by rw[<-hn];rfl,Nat.zero_mul] at hk;exact absurd hk (Nat.not_lt_zero _)
  | cons y r =>
   have hsz1:sz=1:=by
    have:=hsz (.lit (.int .i64 y)) (by simp[eIs]);simpa[AV.cells] using this.symm
   subst hsz1;have hkn:k<(y::r).length:=by
    rw[Nat.mul_one,<-hn] at hk;simpa[eIs] using hk
   have h1:=(hcell k hk).1;have h2:=hrep k (.lit (.int .i64 (y::r)[k])) 0 (.lit (.int .i64 (y::r)[k])) (by rw[eIs,List.getElem?_map,List.getElem?_eq_getElem hkn];rfl) rfl;rw[Nat.mul_one,Nat.add_zero] at h2;rw[h2.lit_eq.1] at h1;obtain⟨E,c,rfl⟩:=hob;unfold World.cell? at h1;rw[show (⟨0,off+k,none⟩:Addr).block=0 from rfl,h0] at h1;simp only[Option.isSome_none,if_false,List.getElem?_toArray,List.getElem?_map] at h1;cases hx:Lib.pow10Tab[off+k]? with
   | none=>rw[hx] at h1;cases h1
   | some z=>rw[hx] at h1;cases h1
theorem zN1 {l:List Int} {v:Value} {W:World} (hL:laidMet Tryz.prog Rows.corePrintsRow.laid W) (hlen:l.length<9223372036854775808) (hr:∀x∈l,InR x) (hrep:Rep noF W v (.sl (eIs l))) :
  Calls Tryz.prog 5 #[v] W fun e W'=>e = .returned (.bool true)/\Below W.heap.size W W':=by
 obtain⟨ob,h0,hob⟩:=zTQ hL;obtain⟨f',first,cap,he,_,hcalls⟩:=zLA hob hlen hr;injection he with e1 e2 e3
 injection e1 with e1
 subst e1;subst e2;subst e3;have hs0:0<W.heap.size:=Nat.lt_of_not_le fun h=>by rw[Array.getElem?_eq_none h] at h0;cases h0
 have hy:yD [v] []=[]:=by cases v<;>rfl
 have hrep':=zUR h0 hob hrep;have:=hcalls F0 W [v] (fun b hb=>by unfold F0;rw[if_neg (by omega)]) ⟨by simp[kb,keys],fun b hb=>by simp[kb,keys] at hb;subst hb;rfl,fun x hx=>by simp[kb] at hx;subst hx;exact⟨ob,h0,rfl⟩⟩
  ⟨rfl,fun i u a hu ha=>by
   match i with
   | 0=>simp at hu ha;subst hu;subst ha;exact hrep'
   | i+1=>simp at hu,fun i u sz _ h=>by simp at h,by rw[hy];exact List.nodup_nil⟩ (fun b hb=>by rw[hy] at hb;simp at hb)
 rw[show #[]++[v].toArray ++ #[] = #[v] by simp] at this;refine this.mono fun e W' hp=>?_;obtain⟨u,r,o,hout,F',rfl,⟨rfl,_,rfl⟩,p2,_,p4,_,_,p7,_⟩:=hp;refine⟨by rw[p2.sb_eq],p4.os,p4.tape,p4.output,p4.size,fun k hk=>?_⟩;rcases p4.block k hk with h|⟨h,_⟩|h
 ·simp[kb,keys] at h;subst h;obtain⟨o,h1,h2⟩:=p7.ok (0,.raw (· = ob)) (by simp[kb]);have h2:o=ob:=h2;subst h2;rw[h0];exact h1
 ·rw[hy] at h;simp at h
 ·exact h
end Go.Proofs.YtgonkhaebmfgiaaGreatDoor
