/- name: the last of the names that is it; or none: a panic. No condition but on lengths. -/
import Derived.Test.YtebmimnglcdogaaGreatDoorV
import Derived.Test.YtebmimnglcdogaaGreatDoorT
set_option linter.unusedSimpArgs false
set_option linter.unusedVariables false
namespace Go.Proofs.YtebmimnglcdogaaGreatDoor.Ck
open Go Fp
set_option maxRecDepth 10000
set_option maxHeartbeats 8000000
set_option linter.unusedVariables false
theorem zVB {P:Program} {f:Nat} {args:List AV} {r:AV} (he:Fp.Enters P f) (h:∀F w (vs:List Value),Fresh F w->qQ F w vs args []->Calls P f vs.toArray w fun e w'=>RowKit.Below w.heap.size w w'/\∃v,e = .returned v/\Rep F w v r):zB P f args r:=by
 refine⟨f,#[],#[],rfl,he,fun F w vs hfr hh ha hy=>?_⟩;have hyk:zS vs []=[]:=by cases vs<;>rfl
 rw[hyk,show (#[]:Array Value)++vs.toArray ++ #[]=vs.toArray by simp];refine (h F w vs hfr ha).mono fun e w' hp=>?_;obtain⟨hB,v,rfl,hr⟩:=hp;have hk0:Kept F (keys []) [] w w:=⟨rfl,rfl,rfl,Nat.le_refl _,fun b hb => .inr (.inr rfl)⟩
 have hk:=hk0.below hB;have hx:zWF F F w []:=fun b hb => .inl rfl;refine⟨v,r,0,[],F,rfl,⟨rfl,rfl,rfl⟩,hr.mono (hk.keeps hx (fun b hb=>by simp[keys] at hb)),fun sz h=>by omega,hk,hx,fun b hb=>hfr b (Nat.le_trans hB.size hb),⟨by simp[keys],fun b hb=>by simp[keys] at hb,fun x hx=>by simp at hx⟩,fun b hb=>by simp[keys] at hb⟩
theorem zRB {P:Program} {f:Nat} {args:List AV} {pv:Value} (he:Fp.Enters P f) (h:∀F w (vs:List Value),Fresh F w->qQ F w vs args []->Calls P f vs.toArray w fun e w'=>RowKit.Below w.heap.size w w'/\e = .panicked (z18 pv)):zZI P f args pv:=by
 refine⟨f,#[],#[],rfl,he,fun F w vs hfr ha=>?_⟩;rw[show (#[]:Array Value)++vs.toArray ++ #[]=vs.toArray by simp];exact (h F w vs hfr ha).mono fun e w' hp=>⟨hp.2,hp.1⟩
def nameT (l:List Nm2) (s:ByteArray):Option Tp:=(l.reverse.find? fun p=>decide (p.1=s)).map (·.2)
theorem zZU {l:List Nm2} {s:ByteArray} {k:Nat} (hk:k<l.length) (h:l[k].1=s) (hn:∀j,k<j->∀(hj:j<l.length),l[j].1≠s):nameT l s=some l[k].2:=by
 unfold nameT;have e:l.reverse=(l.drop (k+1)).reverse++l[k]::(l.take k).reverse:=by
  have h2:l=l.take k++(l[k]::l.drop (k+1)):=by rw[<-List.drop_eq_getElem_cons hk,List.take_append_drop]
  have h3:=congrArg List.reverse h2;rw[List.reverse_append,List.reverse_cons,List.append_assoc] at h3;simp
 rw[e,List.find?_append,List.find?_eq_none.2 fun x hx=>?_]
 ·simp[h]
 ·obtain⟨i,hi,rfl⟩:=List.getElem_of_mem (List.mem_reverse.1 hx);rw[List.length_drop] at hi;simp only[List.getElem_drop,decide_eq_true_eq];exact hn _ (by omega) (by omega)
theorem five {α:Type} {a:Array α} (h:a.size=5):∃x0 x1 x2 x3 x4,a = #[x0,x1,x2,x3,x4]:=by
 obtain⟨l⟩:=a
 match l,h with
 | [x0,x1,x2,x3,x4],_=>exact⟨x0,x1,x2,x3,x4,rfl⟩
theorem ten {α:Type} {a:Array α} (h:a.size=10):∃x0 x1 x2 x3 x4 x5 x6 x7 x8 x9,a = #[x0,x1,x2,x3,x4,x5,x6,x7,x8,x9]:=by
 obtain⟨l⟩:=a
 match l,h with
 | [x0,x1,x2,x3,x4,x5,x6,x7,x8,x9],_=>exact⟨x0,x1,x2,x3,x4,x5,x6,x7,x8,x9,rfl⟩
theorem zVP {F:Nat->Option Nat} {w:World} {v:Value} {l:List Nm2} (h:Rep F w v (.sl (zC1 l))):∃a cap,∃us:Nat->Value,v = .slice a l.length cap/\NmsAt w.heap.size w v l.length us /\
  ∀(k:Nat) (hk:k<l.length),us (k*5) = .string l[k].1/\us (k*5+1) = .int .i64 l[k].2.form/\us (k*5+2) = .int .i64 l[k].2.num/\us (k*5+3) = .string l[k].2.nam/\Rep F w (us (k*5+4)) (.sl l[k].2.eArgs):=by
 have hln:(zC1 l).length=l.length:=by simp[zC1]
 generalize hq:zC1 l=q at h;cases h with
 | slNil=>exact⟨none,0,fun _ => .bool true,by rw[<-hln,hq];rfl,.inl ⟨by rw[<-hln,hq];rfl,none,0,rfl⟩,fun k hk=>by rw[<-hln,hq] at hk;simp at hk⟩
 | slZ a=>exact⟨some a,0,fun _ => .bool true,by rw[<-hln,hq];rfl,.inl ⟨by rw[<-hln,hq];rfl,some a,0,rfl⟩,fun k hk=>by rw[<-hln,hq] at hk;simp at hk⟩
 | sl b off n cap sz _ us hn hc hsz hcl hcell hrep =>
  rw[<-hq,hln] at hn;subst hn;rcases Nat.eq_zero_or_pos l.length with h0|h0
  ·exact⟨_,cap,us,rfl,.inl ⟨h0,_,cap,by rw[h0]⟩,fun k hk=>by omega⟩
  ·have hm:eNa l[0]∈q:=by rw[<-hq];exact List.mem_map.2 ⟨_,List.getElem_mem h0,rfl⟩
   have h5:sz=5:=(hsz _ hm).symm;subst h5;have hb:b<w.heap.size:=by
    have h1:=(hcell 0 (by omega)).1;simp only[World.cell?] at h1;rcases Nat.lt_or_ge b w.heap.size with h2|h2
    ·exact h2
    ·rw[Array.getElem?_eq_none h2] at h1;simp at h1
   refine⟨_,cap,us,rfl,.inr ⟨b,off,cap,rfl,hb,fun j hj=>(hcell j hj).1⟩,fun k hk=>?_⟩;have hg:q[k]? = some (eNa l[k]):=by rw[<-hq];simp[zC1,hk]
   have r0:=hrep k _ 0 _ hg rfl;have r1:=hrep k _ 1 _ hg rfl;have r2:=hrep k _ 2 _ hg rfl;have r3:=hrep k _ 3 _ hg rfl;have r4:=hrep k _ 4 _ hg rfl;exact⟨r0.lit_eq.1,r1.lit_eq.1,r2.lit_eq.1,r3.lit_eq.1,r4⟩
theorem name_both {w:Wd} {c:Cr} (hl:w.env.length<1000000000):(∀t,nameT w.env c.s=some t->zB Tryz.prog 99 [eW w,eC c] (eTy t))/\(nameT w.env c.s=none->zZI Tryz.prog 99 [eW w,eC c] z3E):=by
 have key:∀F W (vs:List Value),Fresh F W->qQ F W vs [eW w,eC c] []->Calls Tryz.prog 99 vs.toArray W fun e W'=>RowKit.Below W.heap.size W W' /\
   ((e = .panicked (z18 z3E)/\nameT w.env c.s=none)∨∃v t,nameT w.env c.s=some t/\e = .returned v/\Rep F W v (eTy t)):=fun F W vs hfr ha=>by
  have hlen:=ha.len
  match vs,hlen with
  | [v0,v1],_ =>
   obtain⟨cs0,rfl,s0,-,q0⟩:=(ha.rep 0 v0 _ rfl rfl).agg_eq;obtain⟨cs1,rfl,s1,-,q1⟩:=(ha.rep 1 v1 _ rfl rfl).agg_eq;obtain⟨x0,x1,x2,x3,x4,rfl⟩:=five s0;obtain⟨y0,y1,y2,y3,y4,y5,y6,y7,y8,y9,rfl⟩:=ten s1;obtain⟨a,cap,us,e1,hI,hus⟩:=zVP (q0 1 x1 _ rfl rfl);have ey:y2 = .string c.s:=(q1 2 y2 _ rfl rfl).lit_eq.1;subst e1;subst ey;have hsl:∀(k:Nat) (hk:k<w.env.length),∃A ln cp,us (k*5+4) = .slice A ln cp:=fun k hk=>by
    obtain⟨A,cp,e,_⟩:=(hus k hk).2.2.2.2.sl_shape;exact⟨A,_,cp,e⟩
   refine ((callsIn_wide (n:=6)).1 (zXJ Fence.wide 6 trivial trivial trivial rfl (Nat.le_refl _) W x0 x2 x3 x4 y0 y1 y3 y4 y5 y6 y7 y8 y9 a cap c.s w.env.length us (fun k=>if h:k<w.env.length then w.env[k].1 else .empty) (fun k=>if h:k<w.env.length then w.env[k].2.nam else .empty) (fun k=>if h:k<w.env.length then w.env[k].2.form else 0) (fun k=>if h:k<w.env.length then w.env[k].2.num else 0)
    (fun k=>match us (k*5+4) with | .slice A _ _=>A|_=>none) (fun k=>match us (k*5+4) with | .slice _ ln _=>ln|_=>0) (fun k=>match us (k*5+4) with | .slice _ _ cp=>cp|_=>0) hI hl fun k hk=>?_)).mono fun e W' hp=>⟨hp.2,?_⟩
   ·obtain⟨h0,h1,h2,h3,h4⟩:=hus k hk;obtain⟨A,ln,cp,e⟩:=hsl k hk;rw[h0,h1,h2,h3,e,dif_pos hk,dif_pos hk,dif_pos hk,dif_pos hk];exact⟨rfl,rfl,rfl,rfl,rfl⟩
   ·rcases hp.1 with⟨rfl,h⟩|⟨k,hk,h1,h2,rfl⟩
    ·refine .inl ⟨rfl,?_⟩;unfold nameT;rw[List.find?_eq_none.2 fun x hx=>?_]
     ·rfl
     ·obtain⟨k,hk,rfl⟩:=List.getElem_of_mem (List.mem_reverse.1 hx);have:=h k hk;rw[dif_pos hk] at this;simpa using this
    ·refine .inr ⟨_,w.env[k].2,?_,rfl,?_⟩
     ·rw[dif_pos hk] at h1;exact zZU hk h1 fun j hj hjl=>by have:=h2 j hj hjl;rw[dif_pos hjl] at this;exact this
     ·obtain⟨h0,h1,h2,h3,h4⟩:=hus k hk;rw[h1,h2,h3];refine .agg _ _ rfl (fun c hc=>?_) fun j u c hu hc=>?_
      ·simp only[List.mem_cons,List.not_mem_nil,or_false] at hc;rcases hc with rfl|rfl|rfl|rfl<;>rfl
      ·match j,hu,hc with
       | 0,hu,hc=>cases hu;cases hc;exact .lit _ rfl
       | 1,hu,hc=>cases hu;cases hc;exact .lit _ rfl
       | 2,hu,hc=>cases hu;cases hc;exact .lit _ rfl
       | 3,hu,hc=>cases hu;cases hc;exact h4
 refine⟨fun t ht=>zVB ⟨_,Tryz.func99,rfl,rfl⟩ fun F W vs hfr ha=>(key F W vs hfr ha).mono fun e W' hp=>⟨hp.1,?_⟩,fun hn=>zRB ⟨_,Tryz.func99,rfl,rfl⟩ fun F W vs hfr ha=>(key F W vs hfr ha).mono fun e W' hp=>⟨hp.1,?_⟩⟩
 ·rcases hp.2 with⟨_,h⟩|⟨v,t',h1,h2,h3⟩
  ·rw[ht] at h;cases h
  ·rw[ht] at h1;cases h1;exact⟨v,h2,h3⟩
 ·rcases hp.2 with⟨h,_⟩|⟨v,t',h1,_⟩
  ·exact h
  ·rw[hn] at h1;cases h1
def fieldT (l:List Fd) (s:ByteArray):Option Fd:=l.find? fun f=>decide (f.nm=s)
theorem zHJ:∀{l:List Fd} {s:ByteArray} {f:Fd},fieldT l s=some f->∃i,∃h:i<l.length,l[i]=f/\ixI (l.map Fd.nm) s=(i:Nat)
 | [],_,_,h=>by cases h
 | x::l,s,f,h=>by
  by_cases e:x.nm=s
  ·simp only[fieldT,List.find?_cons,decide_eq_true e] at h;cases h
   exact⟨0,by simp,rfl,by rw[List.map_cons,e];simp[ixI]⟩
  ·simp only[fieldT,List.find?_cons,decide_eq_false e] at h;obtain⟨i,h1,h2,h3⟩:=zHJ h;have hm:s∈l.map Fd.nm:=by
    rw[ixI] at h3;split at h3
    ·assumption
    ·omega
   refine⟨i+1,by simp;omega,by simpa using h2,?_⟩;rw[List.map_cons,zOJ e hm,h3];rfl
theorem zUH {w:Wd} {s:ByteArray} {f:Fd} (hl:w.fs.length<10000000) (h:fieldT w.fs s=some f):zB Tryz.prog 124 [eW w,.lit (.string s)] (eFd f):=by
 obtain⟨i,h1,h2,h3⟩:=zHJ h;rw[<-h2];exact zYW w s hl h1 h3
abbrev Al:=(Int×Int×ByteArray)×List ByteArray×Cr
abbrev bys (vs:List ByteArray) (t:Tp):Env':=vs.zip (spAr t).reverse
noncomputable def takenNs (xs:List ByteArray) (l:List Tp) (ps:Env'):List Nm2:=xs.zip (l.map fun t=>sub t ps)
theorem z4G {vs:List ByteArray} {l:List Tp} (h:vs.length=l.length):eN (vs.zip l)=eSs vs:=by
 simp only[eN,eSs];rw[show (vs.zip l).map (·.1)=vs from List.map_fst_zip (by omega)]
theorem z3O {vs:List ByteArray} {l:List Tp} (h:vs.length=l.length):eB (vs.zip l)=zQ l:=by
 simp only[eB,zQ];rw[show (vs.zip l).map (·.2)=l from List.map_snd_zip (by omega)]
theorem Wd.more_more (w:Wd) (a b:List Nm2):(w.more a).more b=w.more (a++b):=by simp[Wd.more]
theorem zOP (w:Wd):w.more []=w:=by simp[Wd.more]
theorem zN2 {xs:List ByteArray} {l:List Tp} {ps:Env'} {k:Nat} (h1:k<xs.length) (h2:k<l.length):(takenNs xs l ps).take (k+1)=(takenNs xs l ps).take k++[(xs[k],sub l[k] ps)]:=by
 rw[List.take_succ_eq_append_getElem (by simp[takenNs];omega)];simp[takenNs]
theorem zPZ {xs:List ByteArray} (h:xs.Nodup) {k:Nat} (hk:k<xs.length):xs[k]∉xs.take k:=fun hm=>by
 obtain⟨j,h1,h2⟩:=List.getElem_of_mem hm;rw[List.length_take] at h1;rw[List.getElem_take] at h2;exact List.pairwise_iff_getElem.1 h j k (by omega) hk (by omega) h2
theorem z4D (xs:List ByteArray) (k:Nat):List.drop (Int.toNat 0) (List.take (Int.toNat ((k:Nat):Int)) (eSs xs))=eSs (xs.take k):=by simp[eSs]
theorem tk_else (w:Wd) (t:Tp) {a:Al} (h:a.1.1=3):zB Tryz.prog 130 [eW w,eTy t,eAl a] (eW w):=by
 refine zA ttok mixed Tryz.func130 rfl (by rfl) (Nat.le_of_ble_eq_true rfl) (by kernel_rfl) ?_;refine⟨fun _=>?_,fun hn=>absurd h (of_decide_eq_false hn)⟩;exact rfl
theorem tk_int {w:Wd} {t:Tp} {a:Al} (h:a.1.1=2) (hd:dp t<1000000000) (hs:smb t (.con zKZ) [] []=true):zB Tryz.prog 130 [eW w,eTy t,eAl a] (eW w):=by
 refine zA ttok mixed Tryz.func130 rfl (by rfl) (Nat.le_of_ble_eq_true rfl) (by kernel_rfl) ?_;refine⟨fun hn=>absurd (of_decide_eq_true hn) (by rw[h];decide),fun _=>?_⟩;refine⟨fun _=>?_,fun hn=>absurd h (of_decide_eq_false hn)⟩;refine .inl ⟨_,con_mk _,?_⟩;refine .inl ⟨_,sameTX_ok _ _ hd,?_⟩;refine .inl ⟨_,qB hs,?_⟩;refine⟨by kernel_rfl,?_⟩;exact rfl
theorem tk_con {w:Wd} {t:Tp} {a:Al} {f:Fd} {l:List Tp} {n:ByteArray} {vs:List ByteArray} (h:a.1.1=1) (hfl:w.fs.length<10000000) (hf:fieldT w.fs a.1.2.2=some f) (hsh:shapeF f=some (l,n,vs)) (hdf:dp f.t<1000000) (har:f.ar<=1000000)
  (hsp:(spAr t).length<1000000) (hc:(spHd t).form=3/\(spHd t).nam=n/\(spAr t).length=vs.length/\a.2.1.length=l.length/\a.2.1.Nodup) {K:Nat} (hfit:∀x∈l,FitX K x (bys vs t)) (hel:w.env.length+a.2.1.length<=100000):zB Tryz.prog 130 [eW w,eTy t,eAl a] (eW (w.more (takenNs a.2.1 l (bys vs t)))):=by
 obtain⟨c1,c2,c3,c4,c5⟩:=hc;have hrl:(spAr t).reverse.length=vs.length:=by simp[c3]
 have eNv:eN (bys vs t)=eSs vs:=z4G hrl.symm;have eBv:eB (bys vs t)=zQ (spAr t).reverse:=z3O hrl.symm;refine zA ttok mixed Tryz.func130 rfl (by rfl) (Nat.le_of_ble_eq_true rfl) (by kernel_rfl) ?_;refine⟨fun hn=>absurd (of_decide_eq_true hn) (by rw[h];decide),fun _=>?_⟩;refine⟨fun hn=>absurd (of_decide_eq_true hn) (by rw[h];decide),fun _=>?_⟩;refine⟨fun _=>?_,fun hn=>absurd h (of_decide_eq_false hn)⟩;refine .inl ⟨_,zUH hfl hf,?_⟩;refine .inl ⟨_,zWY hsh hdf har,?_⟩;refine .inl ⟨_,zPB t hsp,?_⟩;refine⟨fun _=>?_,fun hn=>absurd c1 (of_decide_eq_false hn)⟩;refine⟨fun _=>?_,fun hn=>absurd c2 (of_decide_eq_false hn)⟩;refine⟨fun _=>?_,fun hn=>absurd (of_decide_eq_false hn) (by simp[zQ,eSs,c3])⟩;refine .inl ⟨_,qB (decide_eq_true (by simp[zQ,eSs,c4])),?_⟩;have hll:(zQ l).length=l.length:=by simp[zQ]
 refine⟨{k:Nat // k<=l.length},fun k=>{vs:=[(3,.box 0 (eW (w.more ((takenNs a.2.1 l (bys vs t)).take k.1)))),(5,.box 0 (eAl a)),(6,.box 0 (.agg [.sl [],.sl [],.sl [],.sl [],.lit (.int .i64 0)])),(9,.v (.sl (eSs vs))),(11,.v (.sl (zQ (spAr t).reverse))),(67,.v (.sl (zQ l))),(68,sv (l.length:Nat)),(69,sv (k.1:Nat))]},fun k=>l.length-k.1,⟨0,Nat.zero_le _⟩,⟨⟨?_,rfl,rfl,rfl,rfl,rfl,svc (by rw[hll]),rfl,trivial⟩,trivial,rfl⟩,?_⟩
 ·show SV.box 0 (eW w)=SV.box 0 (eW (w.more ((takenNs a.2.1 l (bys vs t)).take 0)));rw[List.take_zero,zOP]
 rintro⟨k,hk⟩;refine⟨fun h=>?_,fun h=>?_⟩
 ·have h:k<l.length:=by have h:=of_decide_eq_true h;simp only at h;omega
  have hkx:k<a.2.1.length:=by omega
  refine⟨eTy l[k],by omega,zNL h,rfl,?_⟩;have hsl:=z4D a.2.1 k;have hct:=xY (l:=a.2.1.take k) (s:=a.2.1[k]) (by rw[List.length_take];omega);rw[<-hsl] at hct;refine⟨by decide,by omega,by simp[eSs];omega,.inl rfl,?_⟩;refine⟨_,by omega,zKW hkx,rfl,?_⟩;refine .inr (.inl ⟨_,hct,?_⟩);refine .inl ⟨_,qB (by rw[zMW (zPZ c5 hkx)];rfl),?_⟩;refine⟨by kernel_rfl,?_⟩;refine⟨_,by omega,zKW hkx,rfl,?_⟩;have hsb:=substX_ok l[k].sz l[k] (Nat.le_refl _) K (bys vs t) (hfit _ (List.getElem_mem h));unfold wH at hsb;rw[eNv,eBv] at hsb;refine .inl ⟨_,hsb,?_⟩;have htl:((takenNs a.2.1 l (bys vs t)).take k).length<=k:=by rw[List.length_take];omega
  refine .inl ⟨_,zDO (w.more ((takenNs a.2.1 l (bys vs t)).take k)) [(a.2.1[k],sub l[k] (bys vs t))] (by simp only[Wd.more,List.length_append,List.length_cons,List.length_nil];omega),?_⟩;refine⟨by kernel_rfl,?_⟩;refine⟨⟨k+1,h⟩,by simp;omega,⟨?_,rfl,rfl,rfl,rfl,rfl,rfl,svc (wrap_succ (k:=k) (by omega)),trivial⟩,trivial,rfl⟩;rw[zN2 hkx h,<-Wd.more_more];exact rfl
 have h:k=l.length:=by have h:=of_decide_eq_false h;simp only at h;omega
 subst h;rw[List.take_of_length_le (by simp[takenNs];omega)];exact rfl
abbrev Bd:=ByteArray×Tp×Cr
def zGD (sn:List ByteArray):List (AV×AV):=sn.map fun s=>(.lit (.string s),.agg [])
theorem zIT (sn:List ByteArray):∀p∈zGD sn,qC (.lit (.string .empty)) p.1:=fun p hp=>by
 obtain⟨y,_,rfl⟩:=List.mem_map.1 hp;trivial
theorem zOO {sn:List ByteArray} {s:ByteArray} (h:s∉sn):Fp.Found (zGD sn) (.string s) none := .no fun p hp=>by
 obtain⟨y,hy,rfl⟩:=List.mem_map.1 hp;intro e;have e:AV.lit (.string y) = .lit (.string s):=e;injection e with e;injection e with e
 exact h (e ▸ hy)
theorem zR4 (sn:List ByteArray) (s:ByteArray):zGD (sn++[s])=zEX (zGD sn) (.string s) (.agg []) none:=by simp[zGD,zEX]
noncomputable def bdL (w:Wd) (l:List Bd):List Nm2:=l.map fun b=>(b.1,w.mean b.2.1)
theorem z0C {w:Wd} {l:List Bd} {k:Nat} (h:k<l.length):(bdL w l).take (k+1)=(bdL w l).take k++[(l[k].1,w.mean l[k].2.1)]:=by
 rw[List.take_succ_eq_append_getElem (by simpa[bdL] using h)];simp[bdL]
theorem zRU {l:List Bd} {k:Nat} (h:k<l.length):(l.map (·.1)).take (k+1)=(l.map (·.1)).take k++[l[k].1]:=by
 rw[List.take_succ_eq_append_getElem (by simpa using h)];simp
theorem z2M (l:List Bd):(xB l).length=l.length:=by simp[xB]
structure IsT (w:Wd) (u:Tp) (p:Cr):Prop where
 of:∃t,OfS w p t/\smb t u [] []=true/\dp t<1000000000
theorem kBinds_ok {w:Wd} {l:List Bd} (hl:w.env.length+l.length<=100000) (hnd:(l.map (·.1)).Nodup) {K:Nat} (hf:∀b∈l,FitX K b.2.1 w.ps) (h:∀b∈l,IsT (w.more (bdL w l)) (w.mean b.2.1) b.2.2):zB Tryz.prog 129 [eW w,.sl (xB l)] (eW (w.more (bdL w l))):=by
 refine CallsG.lessS (post:=fun r o h=>r=eW (w.more (bdL w l))) ?_ (fun r o h hp=>⟨[],List.nil_sublist _,hp,rfl,rfl⟩);refine yS (first:=[]) (cap:=[]) ttok mixed Tryz.func129 rfl (by rfl) rfl (Nat.le_of_ble_eq_true rfl) (by kernel_rfl) ?_;intro b;refine⟨{k:Nat // k<=l.length},fun k=>{vs:=[(1,.v (.sl (xB l))),(2,.box 0 (eW w)),(4,.box 0 (.agg [.sl [],.sl [],.sl [],.sl [],.lit (.int .i64 0)])),(5,.v (.lit (.map (some b)))),(6,.box 0 (eW (w.more ((bdL w l).take k.1)))),(15,.v (.sl (xB l))),(16,sv (l.length:Nat)),(17,sv (k.1:Nat))],hp:=[(b,HO.mp (zGD ((l.map (·.1)).take k.1)))]},fun k=>l.length-k.1,⟨0,Nat.zero_le _⟩,⟨⟨rfl,rfl,rfl,rfl,?_,rfl,svc (by rw[z2M]),rfl,trivial⟩,trivial,rfl⟩,?_⟩
 ·show SV.box 0 (eW w)=SV.box 0 (eW (w.more ((bdL w l).take 0)));rw[List.take_zero,zOP]
 rintro⟨k,hk⟩;refine⟨fun h1=>?_,fun h1=>?_⟩
 ·have h1:k<l.length:=by have h:=of_decide_eq_true h1;simp only at h;omega
  refine⟨eBd l[k],by omega,zTN h1,rfl,?_⟩;have hno:l[k].1∉(l.map (·.1)).take k:=by
   have:=zPZ hnd (k:=k) (by simpa using h1);simpa using this
  refine⟨0,_,none,rfl,zIT _,trivial,zOO hno,?_⟩;refine .inl ⟨_,qB rfl,?_⟩;refine⟨0,_,none,rfl,zIT _,trivial,zOO hno,?_⟩;refine .inl ⟨_,zDL w l[k].2.1 (hf _ (List.getElem_mem h1)),?_⟩;have htl:((bdL w l).take k).length<=k:=by rw[List.length_take];omega
  refine .inl ⟨_,zDO (w.more ((bdL w l).take k)) [(l[k].1,w.mean l[k].2.1)] (by simp only[Wd.more,List.length_append,List.length_cons,List.length_nil];omega),?_⟩;refine⟨by kernel_rfl,?_⟩;refine⟨⟨k+1,h1⟩,by simp;omega,⟨rfl,rfl,rfl,rfl,?_,rfl,rfl,svc (wrap_succ (k:=k) (by omega)),trivial⟩,trivial,?_⟩
  ·rw[z0C h1,<-Wd.more_more];exact rfl
  ·show [(b,HO.mp (zEX (zGD ((l.map (·.1)).take k)) (.string l[k].1) (.agg []) none))]=[(b,HO.mp (zGD ((l.map (·.1)).take (k+1))))];rw[zRU h1,zR4]
 have h1:k=l.length:=by have h:=of_decide_eq_false h1;simp only at h;omega
 subst h1;rw[List.take_of_length_le (by simp[bdL])];refine⟨{k:Nat // k<=l.length},fun k=>{vs:=[(2,.box 0 (eW w)),(4,.box 0 (.agg [.sl [],.sl [],.sl [],.sl [],.lit (.int .i64 0)])),(6,.box 0 (eW (w.more (bdL w l)))),(46,.v (.sl (xB l))),(47,sv (l.length:Nat)),(48,sv (k.1:Nat))],hp:=[(b,HO.mp (zGD ((l.map (·.1)).take l.length)))]},fun k=>l.length-k.1,⟨0,Nat.zero_le _⟩,⟨⟨rfl,rfl,rfl,rfl,svc (by rw[z2M]),rfl,trivial⟩,trivial,rfl⟩,?_⟩;rintro⟨k,hk⟩;refine⟨fun h1=>?_,fun h1=>?_⟩
 ·have h1:k<l.length:=by have h:=of_decide_eq_true h1;simp only at h;omega
  obtain⟨t,q1,q2,q3⟩:=(h _ (List.getElem_mem h1)).of;refine⟨eBd l[k],by omega,zTN h1,rfl,?_⟩;refine .inl ⟨_,q1,?_⟩;refine .inl ⟨_,zDL w l[k].2.1 (hf _ (List.getElem_mem h1)),?_⟩;refine .inl ⟨_,sameTX_ok _ _ q3,?_⟩;refine .inl ⟨_,qB q2,?_⟩;refine⟨by kernel_rfl,?_⟩;exact⟨⟨k+1,h1⟩,by simp;omega,⟨rfl,rfl,rfl,rfl,rfl,svc (wrap_succ (k:=k) (by omega)),trivial⟩,trivial,rfl⟩
 exact rfl
theorem kLet_ok {w w':Wd} {c p:Cr} {t:Tp} (hk:c.kids=[p]) (hb:zB Tryz.prog 129 [eW w,.sl (xB c.binds)] (eW w')) (h1:OfS w' p t):zB Tryz.prog 106 [eW w,eC c] (eTy t):=by
 rw[<-z0G] at hb;refine zA ttok mixed Tryz.func106 rfl (by rfl) (Nat.le_of_ble_eq_true rfl) (by kernel_rfl) ?_;refine .inl ⟨_,hb,?_⟩;refine⟨eC p,by omega,zY2 hk,rfl,?_⟩;refine .inl ⟨_,h1,?_⟩;refine⟨by kernel_rfl,?_⟩;exact rfl
abbrev TkS (w:Wd) (t:Tp) (a:Al) (w':Wd):Prop:=zB Tryz.prog 130 [eW w,eTy t,eAl a] (eW w')
theorem z4S (c:Cr):(c.e3 2).length=c.alts.length:=by rw[z16];simp[zA4]
theorem z3A {c:Cr} {k:Nat} (h:k<c.alts.length):(c.e3 2)[k]? = some (eAl c.alts[k]):=by rw[z16];exact z2N h
def AltT (w:Wd) (t u:Tp) (a:Al):Prop := ∃w',TkS w t a w'/\IsT w' u a.2.2
theorem kCase_ok {w:Wd} {c p:Cr} {t:Tp} {K:Nat} (hk:c.kids=[p]) (h1:OfS w p t) (hf:FitX K c.t w.ps) (hl:c.alts.length<=1000000) (h:∀a∈c.alts,AltT w t (w.mean c.t) a):zB Tryz.prog 107 [eW w,eC c] (eTy (w.mean c.t)):=by
 refine zA ttok mixed Tryz.func107 rfl (by rfl) (Nat.le_of_ble_eq_true rfl) (by kernel_rfl) ?_;refine⟨eC p,by omega,zY2 hk,rfl,?_⟩;refine .inl ⟨_,h1,?_⟩;refine .inl ⟨_,zDL w c.t hf,?_⟩;refine⟨by kernel_rfl,?_⟩;refine⟨{k:Nat // k<=c.alts.length},fun k=>{vs:=[(2,.box 0 (eW w)),(4,.box 0 (eTy .no)),(5,.box 0 (eTy t)),(6,.box 0 (eTy (w.mean c.t))),(20,.v (.sl (c.e3 2))),(21,sv (c.alts.length:Nat)),(22,sv (k.1:Nat))]},fun k=>c.alts.length-k.1,⟨0,Nat.zero_le _⟩,⟨⟨rfl,rfl,rfl,rfl,rfl,svc (by rw[z4S]),rfl,trivial⟩,trivial,rfl⟩,?_⟩;rintro⟨k,hk2⟩;refine⟨fun h2=>?_,fun h2=>?_⟩
 ·have h2:k<c.alts.length:=by have h:=of_decide_eq_true h2;simp only at h;omega
  obtain⟨w',q0,q⟩:=h _ (List.getElem_mem h2);obtain⟨t2,q1,q2,q3⟩:=q.of;refine⟨eAl c.alts[k],by omega,z3A h2,rfl,?_⟩;refine .inl ⟨_,q0,?_⟩;refine .inl ⟨_,q1,?_⟩;refine .inl ⟨_,sameTX_ok _ _ q3,?_⟩;refine .inl ⟨_,qB q2,?_⟩;refine⟨by kernel_rfl,?_⟩;exact⟨⟨k+1,h2⟩,by simp;omega,⟨rfl,rfl,rfl,rfl,rfl,rfl,svc (wrap_succ (k:=k) (by omega)),trivial⟩,trivial,rfl⟩
 exact rfl
theorem zV7 {j:Nat} {k n:Int} {f:Nat} (h:frmL[j]? = some (fE k n f)):Fp.Found frmL (.int .i64 k) (some (j,.agg [.lit (.int .i64 n),.lit (fnv f)])):=by
 refine .yes j _ h fun i hi p hp=>?_;have key:∀(i:Nat) (p:AV×AV),frmL[i]? = some p->p.1 = .lit (.int .i64 ((i:Int)+1)):=by
  intro i p hp;have hlt:i<11:=(List.getElem?_eq_some_iff.1 hp).1
  match i,hlt with
  | 0,_=>cases hp;rfl
  | 1,_=>cases hp;rfl
  | 2,_=>cases hp;rfl
  | 3,_=>cases hp;rfl
  | 4,_=>cases hp;rfl
  | 5,_=>cases hp;rfl
  | 6,_=>cases hp;rfl
  | 7,_=>cases hp;rfl
  | 8,_=>cases hp;rfl
  | 9,_=>cases hp;rfl
  | 10,_=>cases hp;rfl
 rw[key i p hp];have e:=key j _ h;intro e2;have e:AV.lit (.int .i64 k) = .lit (.int .i64 ((j:Int)+1)):=e;injection e with e;injection e with _ e
 injection e2 with e2;injection e2 with _ e2
 omega
theorem of_ok {w:Wd} {c:Cr} {t:Tp} {j:Nat} {k n:Int} {f:Nat} (hj:frmL[j]? = some (fE k n f)) (hk:c.f=k) (hn:(c.kids.length:Int)=n) (hc:zB Tryz.prog f [eW w,eC c] (eTy t)):OfS w c t:=by
 subst hk;have hfo:=zV7 hj;refine zA ttok mixed Tryz.func46 rfl (by rfl) (Nat.le_of_ble_eq_true rfl) (by kernel_rfl) ?_;refine .inl ⟨_,zA5,?_⟩;refine⟨_,z2P,rfl,hfo,?_⟩;refine⟨by kernel_rfl,?_⟩;refine .inl ⟨_,qB (decide_eq_true (by rw[zZM];exact hn)),?_⟩;refine .inl ⟨_,hc,?_⟩;exact rfl
end Go.Proofs.YtebmimnglcdogaaGreatDoor.Ck
