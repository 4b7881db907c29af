/- name: the last of the names that is it; or none: a panic. No condition but on lengths. -/
import Derived.Test.YtdmbahepaglcbaaGreatDoorS
import Derived.Test.YtdmbahepaglcbaaGreatDoorQ
set_option linter.unusedSimpArgs false
set_option linter.unusedVariables false
namespace Go.Proofs.YtdmbahepaglcbaaGreatDoor
open Go Fp
set_option maxRecDepth 10000
set_option maxHeartbeats 8000000
set_option linter.unusedVariables false
theorem zZI {P:Program} {f:Nat} {args:List AV} {r:AV} (he:Fp.Enters P f) (h:∀F w (vs:List Value),Fresh F w->zB2 F w vs args []->Calls P f vs.toArray w fun e w'=>RowKit.Below w.heap.size w w'/\∃v,e = .returned v/\Rep F w v r):zF P f args r:=by
 refine⟨f,#[],#[],rfl,he,fun F w vs hfr hh ha hy=>?_⟩;have hyk:yJ vs []=[]:=by cases vs<;>rfl
 rw[hyk,show (#[]:Array Value)++vs.toArray ++ #[]=vs.toArray by simp];refine (h F w vs hfr ha).mono fun e w' hp=>?_;obtain⟨hB,v,rfl,hr⟩:=hp;have hk0:Kept F (keys []) [] w w:=⟨rfl,rfl,rfl,Nat.le_refl _,fun b hb => .inr (.inr rfl)⟩
 have hk:=hk0.below hB;have hx:zU1 F F w []:=fun b hb => .inl rfl;refine⟨v,r,0,[],F,rfl,⟨rfl,rfl,rfl⟩,hr.mono (hk.keeps hx (fun b hb=>by simp[keys] at hb)),fun sz h=>by omega,hk,hx,fun b hb=>hfr b (Nat.le_trans hB.size hb),⟨by simp[keys],fun b hb=>by simp[keys] at hb,fun x hx=>by simp at hx⟩,fun b hb=>by simp[keys] at hb⟩
theorem zU0 {P:Program} {f:Nat} {args:List AV} {pv:Value} (he:Fp.Enters P f) (h:∀F w (vs:List Value),Fresh F w->zB2 F w vs args []->Calls P f vs.toArray w fun e w'=>RowKit.Below w.heap.size w w'/\e = .panicked (zLJ pv)):yS P f args pv:=by
 refine⟨f,#[],#[],rfl,he,fun F w vs hfr ha=>?_⟩;rw[show (#[]:Array Value)++vs.toArray ++ #[]=vs.toArray by simp];exact (h F w vs hfr ha).mono fun e w' hp=>⟨hp.2,hp.1⟩
def xX (l:List Nm2) (s:ByteArray):Option Tp:=(l.reverse.find? fun p=>decide (p.1=s)).map (·.2)
theorem z7X {l:List Nm2} {s:ByteArray} {k:Nat} (hk:k<l.length) (h:l[k].1=s) (hn:∀j,k<j->∀(hj:j<l.length),l[j].1≠s):xX l s=some l[k].2:=by
 unfold xX;have e:l.reverse=(l.drop (k+1)).reverse++l[k]::(l.take k).reverse:=by
  have h2:l=l.take k++(l[k]::l.drop (k+1)):=by rw[<-List.drop_eq_getElem_cons hk,List.take_append_drop]
  have h3:=congrArg List.reverse h2;rw[List.reverse_append,List.reverse_cons,List.append_assoc] at h3;simp
 rw[e,List.find?_append,List.find?_eq_none.2 fun x hx=>?_]
 ·simp[h]
 ·obtain⟨i,hi,rfl⟩:=List.getElem_of_mem (List.mem_reverse.1 hx);rw[List.length_drop] at hi;simp only[List.getElem_drop,decide_eq_true_eq];exact hn _ (by omega) (by omega)
theorem five {α:Type} {a:Array α} (h:a.size=5):∃x0 x1 x2 x3 x4,a = #[x0,x1,x2,x3,x4]:=by
 obtain⟨l⟩:=a
 match l,h with
 | [x0,x1,x2,x3,x4],_=>exact⟨x0,x1,x2,x3,x4,rfl⟩
theorem ten {α:Type} {a:Array α} (h:a.size=10):∃x0 x1 x2 x3 x4 x5 x6 x7 x8 x9,a = #[x0,x1,x2,x3,x4,x5,x6,x7,x8,x9]:=by
 obtain⟨l⟩:=a
 match l,h with
 | [x0,x1,x2,x3,x4,x5,x6,x7,x8,x9],_=>exact⟨x0,x1,x2,x3,x4,x5,x6,x7,x8,x9,rfl⟩
theorem zZK {F:Nat->Option Nat} {w:World} {v:Value} {l:List Nm2} (h:Rep F w v (.sl (xW l))):∃a cap,∃us:Nat->Value,v = .slice a l.length cap/\NmsAt w.heap.size w v l.length us /\
  ∀(k:Nat) (hk:k<l.length),us (k*5) = .string l[k].1/\us (k*5+1) = .int .i64 l[k].2.form/\us (k*5+2) = .int .i64 l[k].2.num/\us (k*5+3) = .string l[k].2.nam/\Rep F w (us (k*5+4)) (.sl l[k].2.eArgs):=by
 have hln:(xW l).length=l.length:=by simp[xW]
 generalize hq:xW l=q at h;cases h with
 | slNil=>exact⟨none,0,fun _ => .bool true,by rw[<-hln,hq];rfl,.inl ⟨by rw[<-hln,hq];rfl,none,0,rfl⟩,fun k hk=>by rw[<-hln,hq] at hk;simp at hk⟩
 | slZ a=>exact⟨some a,0,fun _ => .bool true,by rw[<-hln,hq];rfl,.inl ⟨by rw[<-hln,hq];rfl,some a,0,rfl⟩,fun k hk=>by rw[<-hln,hq] at hk;simp at hk⟩
 | sl b off n cap sz _ us hn hc hsz hcl hcell hrep =>
  rw[<-hq,hln] at hn;subst hn;rcases Nat.eq_zero_or_pos l.length with h0|h0
  ·exact⟨_,cap,us,rfl,.inl ⟨h0,_,cap,by rw[h0]⟩,fun k hk=>by omega⟩
  ·have hm:eNa l[0]∈q:=by rw[<-hq];exact List.mem_map.2 ⟨_,List.getElem_mem h0,rfl⟩
   have h5:sz=5:=(hsz _ hm).symm;subst h5;have hb:b<w.heap.size:=by
    have h1:=(hcell 0 (by omega)).1;simp only[World.cell?] at h1;rcases Nat.lt_or_ge b w.heap.size with h2|h2
    ·exact h2
    ·rw[Array.getElem?_eq_none h2] at h1;simp at h1
   refine⟨_,cap,us,rfl,.inr ⟨b,off,cap,rfl,hb,fun j hj=>(hcell j hj).1⟩,fun k hk=>?_⟩;have hg:q[k]? = some (eNa l[k]):=by rw[<-hq];simp[xW,hk]
   have r0:=hrep k _ 0 _ hg rfl;have r1:=hrep k _ 1 _ hg rfl;have r2:=hrep k _ 2 _ hg rfl;have r3:=hrep k _ 3 _ hg rfl;have r4:=hrep k _ 4 _ hg rfl;exact⟨r0.lit_eq.1,r1.lit_eq.1,r2.lit_eq.1,r3.lit_eq.1,r4⟩
theorem zPG {w:Wd} {c:Cr} (hl:w.env.length<1000000000):(∀t,xX w.env c.s=some t->zF Tryz.prog 116 [eW w,eC c] (eTy t))/\(xX w.env c.s=none->yS Tryz.prog 116 [eW w,eC c] wJ):=by
 have key:∀F W (vs:List Value),Fresh F W->zB2 F W vs [eW w,eC c] []->Calls Tryz.prog 116 vs.toArray W fun e W'=>RowKit.Below W.heap.size W W' /\
   ((e = .panicked (zLJ wJ)/\xX w.env c.s=none)∨∃v t,xX w.env c.s=some t/\e = .returned v/\Rep F W v (eTy t)):=fun F W vs hfr ha=>by
  have hlen:=ha.len
  match vs,hlen with
  | [v0,v1],_ =>
   obtain⟨cs0,rfl,s0,-,q0⟩:=(ha.rep 0 v0 _ rfl rfl).agg_eq;obtain⟨cs1,rfl,s1,-,q1⟩:=(ha.rep 1 v1 _ rfl rfl).agg_eq;obtain⟨x0,x1,x2,x3,x4,rfl⟩:=five s0;obtain⟨y0,y1,y2,y3,y4,y5,y6,y7,y8,y9,rfl⟩:=ten s1;obtain⟨a,cap,us,e1,hI,hus⟩:=zZK (q0 1 x1 _ rfl rfl);have ey:y2 = .string c.s:=(q1 2 y2 _ rfl rfl).lit_eq.1;subst e1;subst ey;have hsl:∀(k:Nat) (hk:k<w.env.length),∃A ln cp,us (k*5+4) = .slice A ln cp:=fun k hk=>by
    obtain⟨A,cp,e,_⟩:=(hus k hk).2.2.2.2.sl_shape;exact⟨A,_,cp,e⟩
   refine ((callsIn_wide (n:=6)).1 (z1X Fence.wide 6 trivial trivial trivial rfl (Nat.le_refl _) W x0 x2 x3 x4 y0 y1 y3 y4 y5 y6 y7 y8 y9 a cap c.s w.env.length us (fun k=>if h:k<w.env.length then w.env[k].1 else .empty) (fun k=>if h:k<w.env.length then w.env[k].2.nam else .empty) (fun k=>if h:k<w.env.length then w.env[k].2.form else 0) (fun k=>if h:k<w.env.length then w.env[k].2.num else 0)
    (fun k=>match us (k*5+4) with | .slice A _ _=>A|_=>none) (fun k=>match us (k*5+4) with | .slice _ ln _=>ln|_=>0) (fun k=>match us (k*5+4) with | .slice _ _ cp=>cp|_=>0) hI hl fun k hk=>?_)).mono fun e W' hp=>⟨hp.2,?_⟩
   ·obtain⟨h0,h1,h2,h3,h4⟩:=hus k hk;obtain⟨A,ln,cp,e⟩:=hsl k hk;rw[h0,h1,h2,h3,e,dif_pos hk,dif_pos hk,dif_pos hk,dif_pos hk];exact⟨rfl,rfl,rfl,rfl,rfl⟩
   ·rcases hp.1 with⟨rfl,h⟩|⟨k,hk,h1,h2,rfl⟩
    ·refine .inl ⟨rfl,?_⟩;unfold xX;rw[List.find?_eq_none.2 fun x hx=>?_]
     ·rfl
     ·obtain⟨k,hk,rfl⟩:=List.getElem_of_mem (List.mem_reverse.1 hx);have:=h k hk;rw[dif_pos hk] at this;simpa using this
    ·refine .inr ⟨_,w.env[k].2,?_,rfl,?_⟩
     ·rw[dif_pos hk] at h1;exact z7X hk h1 fun j hj hjl=>by have:=h2 j hj hjl;rw[dif_pos hjl] at this;exact this
     ·obtain⟨h0,h1,h2,h3,h4⟩:=hus k hk;rw[h1,h2,h3];refine .agg _ _ rfl (fun c hc=>?_) fun j u c hu hc=>?_
      ·simp only[List.mem_cons,List.not_mem_nil,or_false] at hc;rcases hc with rfl|rfl|rfl|rfl<;>rfl
      ·match j,hu,hc with
       | 0,hu,hc=>cases hu;cases hc;exact .lit _ rfl
       | 1,hu,hc=>cases hu;cases hc;exact .lit _ rfl
       | 2,hu,hc=>cases hu;cases hc;exact .lit _ rfl
       | 3,hu,hc=>cases hu;cases hc;exact h4
 refine⟨fun t ht=>zZI ⟨_,Tryz.func116,rfl,rfl⟩ fun F W vs hfr ha=>(key F W vs hfr ha).mono fun e W' hp=>⟨hp.1,?_⟩,fun hn=>zU0 ⟨_,Tryz.func116,rfl,rfl⟩ fun F W vs hfr ha=>(key F W vs hfr ha).mono fun e W' hp=>⟨hp.1,?_⟩⟩
 ·rcases hp.2 with⟨_,h⟩|⟨v,t',h1,h2,h3⟩
  ·rw[ht] at h;cases h
  ·rw[ht] at h1;cases h1;exact⟨v,h2,h3⟩
 ·rcases hp.2 with⟨h,_⟩|⟨v,t',h1,_⟩
  ·exact h
  ·rw[hn] at h1;cases h1
def wW (l:List Fd) (s:ByteArray):Option Fd:=l.find? fun f=>decide (f.nm=s)
theorem zCL:∀{l:List Fd} {s:ByteArray} {f:Fd},wW l s=some f->∃i,∃h:i<l.length,l[i]=f/\ixI (l.map Fd.nm) s=(i:Nat)
 | [],_,_,h=>by cases h
 | x::l,s,f,h=>by
  by_cases e:x.nm=s
  ·simp only[wW,List.find?_cons,decide_eq_true e] at h;cases h
   exact⟨0,by simp,rfl,by rw[List.map_cons,e];simp[ixI]⟩
  ·simp only[wW,List.find?_cons,decide_eq_false e] at h;obtain⟨i,h1,h2,h3⟩:=zCL h;have hm:s∈l.map Fd.nm:=by
    rw[ixI] at h3;split at h3
    ·assumption
    ·omega
   refine⟨i+1,by simp;omega,by simpa using h2,?_⟩;rw[List.map_cons,zLR e hm,h3];rfl
theorem zKH {l:List Fd} {s:ByteArray} (h:wW l s=none):s∉l.map Fd.nm:=fun hm=>by
 obtain⟨f,h1,h2⟩:=List.mem_map.1 hm;have:=List.find?_eq_none.1 h f h1;simp[h2] at this
theorem zJK {w:Wd} {s:ByteArray} {f:Fd} (hl:w.fs.length<10000000) (h:wW w.fs s=some f):zF Tryz.prog 141 [eW w,.lit (.string s)] (eFd f):=by
 obtain⟨i,h1,h2,h3⟩:=zCL h;rw[<-h2];exact zS7 w s hl h1 h3
abbrev Al:=(Int×Int×ByteArray)×List ByteArray×Cr
abbrev bys (vs:List ByteArray) (t:Tp):Env':=vs.zip (xB t).reverse
noncomputable def xI (xs:List ByteArray) (l:List Tp) (ps:Env'):List Nm2:=xs.zip (l.map fun t=>sub t ps)
noncomputable def zDN (w:Wd) (t:Tp) (a:Al):Option Wd :=
 if a.1.1=3 then some w else if a.1.1=2 then (if smb t (.con xU) [] []=true then some w else none)
 else if a.1.1=1 then (match wW w.fs a.1.2.2 with
  | none=>none
  | some f=>match qF f with
   | none=>none
   | some (l,n,vs)=>if (zAC t).form=3/\(zAC t).nam=n/\(xB t).length=vs.length/\a.2.1.length=l.length/\a.2.1.Nodup then some (w.more (xI a.2.1 l (bys vs t))) else none)
 else none
theorem zcS {vs:List ByteArray} {l:List Tp} (h:vs.length=l.length):eN (vs.zip l)=eSs vs:=by
 simp only[eN,eSs];rw[show (vs.zip l).map (·.1)=vs from List.map_fst_zip (by omega)]
theorem zdN {vs:List ByteArray} {l:List Tp} (h:vs.length=l.length):eB (vs.zip l)=yA l:=by
 simp only[eB,yA];rw[show (vs.zip l).map (·.2)=l from List.map_snd_zip (by omega)]
theorem Wd.more_more (w:Wd) (a b:List Nm2):(w.more a).more b=w.more (a++b):=by simp[Wd.more]
theorem zHL (w:Wd):w.more []=w:=by simp[Wd.more]
theorem zP1 {xs:List ByteArray} {l:List Tp} {ps:Env'} {k:Nat} (h1:k<xs.length) (h2:k<l.length):(xI xs l ps).take (k+1)=(xI xs l ps).take k++[(xs[k],sub l[k] ps)]:=by
 rw[List.take_succ_eq_append_getElem (by simp[xI];omega)];simp[xI]
theorem zND {xs:List ByteArray} (h:xs.Nodup) {k:Nat} (hk:k<xs.length):xs[k]∉xs.take k:=fun hm=>by
 obtain⟨j,h1,h2⟩:=List.getElem_of_mem hm;rw[List.length_take] at h1;rw[List.getElem_take] at h2;exact List.pairwise_iff_getElem.1 h j k (by omega) hk (by omega) h2
theorem zcA (xs:List ByteArray) (k:Nat):List.drop (Int.toNat 0) (List.take (Int.toNat ((k:Nat):Int)) (eSs xs))=eSs (xs.take k):=by simp[eSs]
theorem zXI (w:Wd) (t:Tp) {a:Al} (h:a.1.1=3):zF Tryz.prog 144 [eW w,eTy t,eAl a] (eW w):=by
 refine zG ttok mixed Tryz.func144 rfl (by rfl) (Nat.le_of_ble_eq_true rfl) (by kernel_rfl) ?_;refine⟨fun _=>?_,fun hn=>absurd h (of_decide_eq_false hn)⟩;exact rfl
theorem z6W {w:Wd} {t:Tp} {a:Al} (h:a.1.1=2) (hd:dp t<1000000000) (hs:smb t (.con xU) [] []=true):zF Tryz.prog 144 [eW w,eTy t,eAl a] (eW w):=by
 refine zG ttok mixed Tryz.func144 rfl (by rfl) (Nat.le_of_ble_eq_true rfl) (by kernel_rfl) ?_;refine⟨fun hn=>absurd (of_decide_eq_true hn) (by rw[h];decide),fun _=>?_⟩;refine⟨fun _=>?_,fun hn=>absurd h (of_decide_eq_false hn)⟩;refine .inl ⟨_,zAT _,?_⟩;refine .inl ⟨_,xG _ _ hd,?_⟩;refine .inl ⟨_,yN hs,?_⟩;refine⟨by kernel_rfl,?_⟩;exact rfl
theorem z6F {w:Wd} {t:Tp} {a:Al} {f:Fd} {l:List Tp} {n:ByteArray} {vs:List ByteArray} (h:a.1.1=1) (hfl:w.fs.length<10000000) (hf:wW w.fs a.1.2.2=some f) (hsh:qF f=some (l,n,vs)) (hdf:dp f.t<1000000) (har:f.ar<=1000000)
  (hsp:(xB t).length<1000000) (hc:(zAC t).form=3/\(zAC t).nam=n/\(xB t).length=vs.length/\a.2.1.length=l.length/\a.2.1.Nodup) {K:Nat} (hfit:∀x∈l,FitX K x (bys vs t)) (hel:w.env.length+a.2.1.length<=100000):zF Tryz.prog 144 [eW w,eTy t,eAl a] (eW (w.more (xI a.2.1 l (bys vs t)))):=by
 obtain⟨c1,c2,c3,c4,c5⟩:=hc;have hrl:(xB t).reverse.length=vs.length:=by simp[c3]
 have eNv:eN (bys vs t)=eSs vs:=zcS hrl.symm;have eBv:eB (bys vs t)=yA (xB t).reverse:=zdN hrl.symm;refine zG ttok mixed Tryz.func144 rfl (by rfl) (Nat.le_of_ble_eq_true rfl) (by kernel_rfl) ?_;refine⟨fun hn=>absurd (of_decide_eq_true hn) (by rw[h];decide),fun _=>?_⟩;refine⟨fun hn=>absurd (of_decide_eq_true hn) (by rw[h];decide),fun _=>?_⟩;refine⟨fun _=>?_,fun hn=>absurd h (of_decide_eq_false hn)⟩;refine .inl ⟨_,zJK hfl hf,?_⟩;refine .inl ⟨_,zS4 hsh hdf har,?_⟩;refine .inl ⟨_,zG8 t hsp,?_⟩;refine⟨fun _=>?_,fun hn=>absurd c1 (of_decide_eq_false hn)⟩;refine⟨fun _=>?_,fun hn=>absurd c2 (of_decide_eq_false hn)⟩;refine⟨fun _=>?_,fun hn=>absurd (of_decide_eq_false hn) (by simp[yA,eSs,c3])⟩;refine .inl ⟨_,yN (decide_eq_true (by simp[yA,eSs,c4])),?_⟩;have hll:(yA l).length=l.length:=by simp[yA]
 refine⟨{k:Nat // k<=l.length},fun k=>{vs:=[(3,.box 0 (eW (w.more ((xI a.2.1 l (bys vs t)).take k.1)))),(5,.box 0 (eAl a)),(6,.box 0 (.agg [.sl [],.sl [],.sl [],.sl [],.lit (.int .i64 0)])),(9,.v (.sl (eSs vs))),(11,.v (.sl (yA (xB t).reverse))),(67,.v (.sl (yA l))),(68,sv (l.length:Nat)),(69,sv (k.1:Nat))]},fun k=>l.length-k.1,⟨0,Nat.zero_le _⟩,⟨⟨?_,rfl,rfl,rfl,rfl,rfl,svc (by rw[hll]),rfl,trivial⟩,trivial,rfl⟩,?_⟩
 ·show SV.box 0 (eW w)=SV.box 0 (eW (w.more ((xI a.2.1 l (bys vs t)).take 0)));rw[List.take_zero,zHL]
 rintro⟨k,hk⟩;refine⟨fun h=>?_,fun h=>?_⟩
 ·have h:k<l.length:=by have h:=of_decide_eq_true h;simp only at h;omega
  have hkx:k<a.2.1.length:=by omega
  refine⟨eTy l[k],by omega,zQI h,rfl,?_⟩;have hsl:=zcA a.2.1 k;have hct:=xN (l:=a.2.1.take k) (s:=a.2.1[k]) (by rw[List.length_take];omega);rw[<-hsl] at hct;refine⟨by decide,by omega,by simp[eSs];omega,.inl rfl,?_⟩;refine⟨_,by omega,zEK hkx,rfl,?_⟩;refine .inr (.inl ⟨_,hct,?_⟩);refine .inl ⟨_,yN (by rw[yM (zND c5 hkx)];rfl),?_⟩;refine⟨by kernel_rfl,?_⟩;refine⟨_,by omega,zEK hkx,rfl,?_⟩;have hsb:=zCZ l[k].sz l[k] (Nat.le_refl _) K (bys vs t) (hfit _ (List.getElem_mem h));unfold qB at hsb;rw[eNv,eBv] at hsb;refine .inl ⟨_,hsb,?_⟩;have htl:((xI a.2.1 l (bys vs t)).take k).length<=k:=by rw[List.length_take];omega
  refine .inl ⟨_,zG2 (w.more ((xI a.2.1 l (bys vs t)).take k)) [(a.2.1[k],sub l[k] (bys vs t))] (by simp only[Wd.more,List.length_append,List.length_cons,List.length_nil];omega),?_⟩;refine⟨by kernel_rfl,?_⟩;refine⟨⟨k+1,h⟩,by simp;omega,⟨?_,rfl,rfl,rfl,rfl,rfl,rfl,svc (wrap_succ (k:=k) (by omega)),trivial⟩,trivial,rfl⟩;rw[zP1 hkx h,<-Wd.more_more];exact rfl
 have h:k=l.length:=by have h:=of_decide_eq_false h;simp only at h;omega
 subst h;rw[List.take_of_length_le (by simp[xI];omega)];exact rfl
theorem zJE:∀(t:Tp) (ws vs:List ByteArray) (u:Tp),jY t ws=some (vs,u)->u.sz<=t.sz/\vs.length<=ws.length+dp t/\dp u<=dp t:=by
 intro t;induction t with
 | all s a ih =>
  intro ws vs u h;rw[wY] at h;split at h
  ·cases h
  ·have:=ih _ _ _ h;simp only[List.length_append,List.length_cons,List.length_nil] at this;simp only[Tp.sz,dp];omega
 | _=>intro ws vs u h;cases h;exact⟨Nat.le_refl _,by omega,Nat.le_refl _⟩
theorem zMA {t:Tp} (h:(partsOf t).2.2=true):(partsOf t).2.1.sz<=t.sz/\(partsOf t).1.sz<=t.sz/\dp (partsOf t).1<=dp t/\dp (partsOf t).2.1<=dp t:=by
 have hb:=zD4 t h;have h1:=congrArg Tp.sz hb;have h2:=congrArg Go.Proofs.YtdmbahepaglcbaaGreatDoor.dp hb;simp only[Tp.sz,Go.Proofs.YtdmbahepaglcbaaGreatDoor.dp] at h1 h2;omega
theorem zFM:∀(n:Nat) (t u:Tp) (l:List Tp),xJ n t=some (l,u)->u.sz<=t.sz/\dp u<=dp t/\∀x∈l,x.sz<=t.sz/\dp x<=dp t
 | 0,t,u,l,h=>by cases h;exact⟨Nat.le_refl _,Nat.le_refl _,by simp⟩
 | n+1,t,u,l,h=>by
  simp only[xJ] at h;split at h
  ·rename_i hf;have hp:=zMA hf;cases hq:xJ n (partsOf t).2.1 with
   | none=>rw[hq] at h;cases h
   | some r =>
    rw[hq] at h;cases h
    have:=zFM n _ _ _ hq;refine⟨by omega,by omega,fun x hx=>?_⟩;rcases List.mem_cons.1 hx with rfl|hx
    ·exact⟨hp.2.1,hp.2.2.1⟩
    ·have:=this.2.2 x hx;omega
  ·cases h
structure FdOk (f:Fd):Prop where
 sz:f.t.sz<1000000
 ar:f.ar<=1000000
theorem FdOk.dp {f:Fd} (h:FdOk f):dp f.t<1000000:=Nat.lt_of_le_of_lt (jG _) h.sz
theorem zY8 {f:Fd} {l:List Tp} {n:ByteArray} {vs:List ByteArray} (h:FdOk f) (hs:qF f=some (l,n,vs)):zF Tryz.prog 154 [eFd f] (.tup [.sl (yA l),.lit (.string n),.sl (eSs vs)]):=zS4 hs h.dp h.ar
theorem zZD {f:Fd} (h:FdOk f) (hs:qF f=none):yS Tryz.prog 154 [eFd f] wJ:=by
 have hd:=h.dp;have ha:=h.ar;unfold qF at hs;split at hs
 ·rename_i hA;exact zWL hA hd ha
 ·rename_i vs t0 hA;split at hs
  ·rename_i hF;exact zVA hA hF hd ha
  ·rename_i l u hF;split at hs
   ·cases hs
   ·rename_i hb;refine zWJ hA hF hb ?_ hd ha;have h1:=zJE _ _ _ _ hA;have h2:=zFM _ _ _ _ hF;have:=zLT u;have:=h.sz;omega
theorem z6Z (w:Wd) (t:Tp) {a:Al} (h1:¬a.1.1=1) (h2:¬a.1.1=2) (h3:¬a.1.1=3):yS Tryz.prog 144 [eW w,eTy t,eAl a] wJ:=by
 refine zJ ttok mixed Tryz.func144 rfl (by rfl) (Nat.le_of_ble_eq_true rfl) (by kernel_rfl) ?_;refine WsemQ.seq ttok mixed ?_;refine WsemQ.seqS (WsemQ.seq ttok mixed ?_);refine WsemQ.block ?_;refine WsemQ.seq ttok mixed ?_;refine WsemQ.cond rfl (fun h=>absurd (of_decide_eq_true h) h3) fun _=>?_;refine WsemQ.seq ttok mixed ?_;refine WsemQ.cond rfl (fun h=>absurd (of_decide_eq_true h) h2) fun _=>?_;refine WsemQ.seq ttok mixed ?_;refine WsemQ.cond rfl (fun h=>absurd (of_decide_eq_true h) h1) fun _=>?_;exact zJ0 rfl rfl rfl rfl rfl rfl rfl rfl rfl
theorem zaG {w:Wd} {t:Tp} {a:Al} (h:a.1.1=2) (hd:dp t<1000000000) (hs:smb t (.con xU) [] []=false):yS Tryz.prog 144 [eW w,eTy t,eAl a] wJ:=by
 refine zJ ttok mixed Tryz.func144 rfl (by rfl) (Nat.le_of_ble_eq_true rfl) (by kernel_rfl) ?_;refine WsemQ.seq ttok mixed ?_;refine WsemQ.seqS (WsemQ.seq ttok mixed ?_);refine WsemQ.block ?_;refine WsemQ.seq ttok mixed ?_;refine WsemQ.cond rfl (fun hn=>absurd (of_decide_eq_true hn) (by rw[h];decide)) fun _=>?_;refine WsemQ.seq ttok mixed ?_;refine WsemQ.cond rfl (fun _=>?_) fun hn=>absurd h (of_decide_eq_false hn);refine WsemQ.regionI ttok mixed 3 (by kernel_rfl) ?_;refine .inl ⟨_,zAT _,?_⟩;refine .inl ⟨_,xG _ _ hd,?_⟩;exact⟨by kernel_rfl,zAD hs⟩
theorem z1L {w:Wd} {t:Tp} {a:Al} (h:a.1.1=1) (hfl:w.fs.length<10000000) (hf:wW w.fs a.1.2.2=none):yS Tryz.prog 144 [eW w,eTy t,eAl a] wJ:=by
 refine zJ ttok mixed Tryz.func144 rfl (by rfl) (Nat.le_of_ble_eq_true rfl) (by kernel_rfl) ?_;refine WsemQ.seq ttok mixed ?_;refine WsemQ.seqS (WsemQ.seq ttok mixed ?_);refine WsemQ.block ?_;refine WsemQ.seq ttok mixed ?_;refine WsemQ.cond rfl (fun hn=>absurd (of_decide_eq_true hn) (by rw[h];decide)) fun _=>?_;refine WsemQ.seq ttok mixed ?_;refine WsemQ.cond rfl (fun hn=>absurd (of_decide_eq_true hn) (by rw[h];decide)) fun _=>?_;refine WsemQ.seq ttok mixed ?_;refine WsemQ.cond rfl (fun _=>?_) fun hn=>absurd h (of_decide_eq_false hn);refine WsemQ.seqS (WsemQ.region ttok 3 ?_);exact zPS w a.1.2.2 hfl (zKH hf)
theorem zZP {w:Wd} {t:Tp} {a:Al} {f:Fd} (h:a.1.1=1) (hfl:w.fs.length<10000000) (hf:wW w.fs a.1.2.2=some f) (hfo:FdOk f) (hs:qF f=none):yS Tryz.prog 144 [eW w,eTy t,eAl a] wJ:=by
 refine zJ ttok mixed Tryz.func144 rfl (by rfl) (Nat.le_of_ble_eq_true rfl) (by kernel_rfl) ?_;refine WsemQ.seq ttok mixed ?_;refine WsemQ.seqS (WsemQ.seq ttok mixed ?_);refine WsemQ.block ?_;refine WsemQ.seq ttok mixed ?_;refine WsemQ.cond rfl (fun hn=>absurd (of_decide_eq_true hn) (by rw[h];decide)) fun _=>?_;refine WsemQ.seq ttok mixed ?_;refine WsemQ.cond rfl (fun hn=>absurd (of_decide_eq_true hn) (by rw[h];decide)) fun _=>?_;refine WsemQ.seq ttok mixed ?_;refine WsemQ.cond rfl (fun _=>?_) fun hn=>absurd h (of_decide_eq_false hn);refine WsemQ.seqS (WsemQ.region ttok 4 ?_);refine .inl ⟨_,zJK hfl hf,?_⟩;exact zZD hfo hs
theorem zbA {w:Wd} {t:Tp} {a:Al} {f:Fd} {l:List Tp} {n:ByteArray} {vs:List ByteArray} (h:a.1.1=1) (hfl:w.fs.length<10000000) (hf:wW w.fs a.1.2.2=some f) (hfo:FdOk f) (hsh:qF f=some (l,n,vs))
  (hsp:(xB t).length<1000000) (hc:¬((zAC t).form=3/\(zAC t).nam=n/\(xB t).length=vs.length/\a.2.1.length=l.length)):yS Tryz.prog 144 [eW w,eTy t,eAl a] wJ:=by
 refine zJ ttok mixed Tryz.func144 rfl (by rfl) (Nat.le_of_ble_eq_true rfl) (by kernel_rfl) ?_;refine WsemQ.seq ttok mixed ?_;refine WsemQ.seqS (WsemQ.seq ttok mixed ?_);refine WsemQ.block ?_;refine WsemQ.seq ttok mixed ?_;refine WsemQ.cond rfl (fun hn=>absurd (of_decide_eq_true hn) (by rw[h];decide)) fun _=>?_;refine WsemQ.seq ttok mixed ?_;refine WsemQ.cond rfl (fun hn=>absurd (of_decide_eq_true hn) (by rw[h];decide)) fun _=>?_;refine WsemQ.seq ttok mixed ?_;refine WsemQ.cond rfl (fun _=>?_) fun hn=>absurd h (of_decide_eq_false hn);refine WsemQ.seq ttok mixed ?_;refine .inl ⟨_,zJK hfl hf,?_⟩;refine .inl ⟨_,zY8 hfo hsh,?_⟩;refine WsemQ.seq ttok mixed ?_;refine .inl ⟨_,zG8 t hsp,?_⟩;refine WsemQ.seqS (WsemQ.region ttok 24 ?_);refine⟨fun h1=>?_,fun h1=>?_⟩
 ·refine⟨fun h2=>?_,fun h2=>?_⟩
  ·refine⟨fun h3=>?_,fun h3=>?_⟩
   ·refine zAD (decide_eq_false fun h4=>hc ⟨of_decide_eq_true h1,of_decide_eq_true h2,?_,?_⟩)
    ·have e2:((xB t).length:Int)=(vs.length:Int):=by simpa[yA,eSs] using of_decide_eq_true h3
     omega
    ·have e2:(a.2.1.length:Int)=(l.length:Int):=by simpa[yA,eSs] using h4
     omega
   ·exact zAD rfl
  ·exact zAD rfl
 ·exact zAD rfl
abbrev Bd:=ByteArray×Tp×Cr
def zC6 (sn:List ByteArray):List (AV×AV):=sn.map fun s=>(.lit (.string s),.agg [])
theorem zD2 (sn:List ByteArray):∀p∈zC6 sn,zAM (.lit (.string .empty)) p.1:=fun p hp=>by
 obtain⟨y,_,rfl⟩:=List.mem_map.1 hp;trivial
theorem zHV {sn:List ByteArray} {s:ByteArray} (h:s∉sn):Fp.Found (zC6 sn) (.string s) none := .no fun p hp=>by
 obtain⟨y,hy,rfl⟩:=List.mem_map.1 hp;intro e;have e:AV.lit (.string y) = .lit (.string s):=e;injection e with e;injection e with e
 exact h (e ▸ hy)
theorem zL8 (sn:List ByteArray) (s:ByteArray):zC6 (sn++[s])=zEY (zC6 sn) (.string s) (.agg []) none:=by simp[zC6,zEY]
noncomputable def bdL (w:Wd) (l:List Bd):List Nm2:=l.map fun b=>(b.1,w.mean b.2.1)
theorem zSH {w:Wd} {l:List Bd} {k:Nat} (h:k<l.length):(bdL w l).take (k+1)=(bdL w l).take k++[(l[k].1,w.mean l[k].2.1)]:=by
 rw[List.take_succ_eq_append_getElem (by simpa[bdL] using h)];simp[bdL]
theorem zMQ {l:List Bd} {k:Nat} (h:k<l.length):(l.map (·.1)).take (k+1)=(l.map (·.1)).take k++[l[k].1]:=by
 rw[List.take_succ_eq_append_getElem (by simpa using h)];simp
theorem zXL (l:List Bd):(yK l).length=l.length:=by simp[yK]
structure IsT (w:Wd) (u:Tp) (p:Cr):Prop where
 of:∃t,OfS w p t/\smb t u [] []=true/\dp t<1000000000
theorem zO4 {w:Wd} {l:List Bd} (hl:w.env.length+l.length<=100000) (hnd:(l.map (·.1)).Nodup) {K:Nat} (hf:∀b∈l,FitX K b.2.1 w.ps) (h:∀b∈l,IsT (w.more (bdL w l)) (w.mean b.2.1) b.2.2):zF Tryz.prog 65 [eW w,.sl (yK l)] (eW (w.more (bdL w l))):=by
 refine CallsG.lessS (post:=fun r o h=>r=eW (w.more (bdL w l))) ?_ (fun r o h hp=>⟨[],List.nil_sublist _,hp,rfl,rfl⟩);refine zFZ (first:=[]) (cap:=[]) ttok mixed Tryz.func65 rfl (by rfl) rfl (Nat.le_of_ble_eq_true rfl) (by kernel_rfl) ?_;intro b;refine⟨{k:Nat // k<=l.length},fun k=>{vs:=[(1,.v (.sl (yK l))),(2,.box 0 (eW w)),(4,.box 0 (.agg [.sl [],.sl [],.sl [],.sl [],.lit (.int .i64 0)])),(5,.v (.lit (.map (some b)))),(6,.box 0 (eW (w.more ((bdL w l).take k.1)))),(15,.v (.sl (yK l))),(16,sv (l.length:Nat)),(17,sv (k.1:Nat))],hp:=[(b,HO.mp (zC6 ((l.map (·.1)).take k.1)))]},fun k=>l.length-k.1,⟨0,Nat.zero_le _⟩,⟨⟨rfl,rfl,rfl,rfl,?_,rfl,svc (by rw[zXL]),rfl,trivial⟩,trivial,rfl⟩,?_⟩
 ·show SV.box 0 (eW w)=SV.box 0 (eW (w.more ((bdL w l).take 0)));rw[List.take_zero,zHL]
 rintro⟨k,hk⟩;refine⟨fun h1=>?_,fun h1=>?_⟩
 ·have h1:k<l.length:=by have h:=of_decide_eq_true h1;simp only at h;omega
  refine⟨eBd l[k],by omega,zF4 h1,rfl,?_⟩;have hno:l[k].1∉(l.map (·.1)).take k:=by
   have:=zND hnd (k:=k) (by simpa using h1);simpa using this
  refine⟨0,_,none,rfl,zD2 _,trivial,zHV hno,?_⟩;refine .inl ⟨_,yN rfl,?_⟩;refine⟨0,_,none,rfl,zD2 _,trivial,zHV hno,?_⟩;refine .inl ⟨_,qJ w l[k].2.1 (hf _ (List.getElem_mem h1)),?_⟩;have htl:((bdL w l).take k).length<=k:=by rw[List.length_take];omega
  refine .inl ⟨_,zG2 (w.more ((bdL w l).take k)) [(l[k].1,w.mean l[k].2.1)] (by simp only[Wd.more,List.length_append,List.length_cons,List.length_nil];omega),?_⟩;refine⟨by kernel_rfl,?_⟩;refine⟨⟨k+1,h1⟩,by simp;omega,⟨rfl,rfl,rfl,rfl,?_,rfl,rfl,svc (wrap_succ (k:=k) (by omega)),trivial⟩,trivial,?_⟩
  ·rw[zSH h1,<-Wd.more_more];exact rfl
  ·show [(b,HO.mp (zEY (zC6 ((l.map (·.1)).take k)) (.string l[k].1) (.agg []) none))]=[(b,HO.mp (zC6 ((l.map (·.1)).take (k+1))))];rw[zMQ h1,zL8]
 have h1:k=l.length:=by have h:=of_decide_eq_false h1;simp only at h;omega
 subst h1;rw[List.take_of_length_le (by simp[bdL])];refine⟨{k:Nat // k<=l.length},fun k=>{vs:=[(2,.box 0 (eW w)),(4,.box 0 (.agg [.sl [],.sl [],.sl [],.sl [],.lit (.int .i64 0)])),(6,.box 0 (eW (w.more (bdL w l)))),(46,.v (.sl (yK l))),(47,sv (l.length:Nat)),(48,sv (k.1:Nat))],hp:=[(b,HO.mp (zC6 ((l.map (·.1)).take l.length)))]},fun k=>l.length-k.1,⟨0,Nat.zero_le _⟩,⟨⟨rfl,rfl,rfl,rfl,svc (by rw[zXL]),rfl,trivial⟩,trivial,rfl⟩,?_⟩;rintro⟨k,hk⟩;refine⟨fun h1=>?_,fun h1=>?_⟩
 ·have h1:k<l.length:=by have h:=of_decide_eq_true h1;simp only at h;omega
  obtain⟨t,q1,q2,q3⟩:=(h _ (List.getElem_mem h1)).of;refine⟨eBd l[k],by omega,zF4 h1,rfl,?_⟩;refine .inl ⟨_,q1,?_⟩;refine .inl ⟨_,qJ w l[k].2.1 (hf _ (List.getElem_mem h1)),?_⟩;refine .inl ⟨_,xG _ _ q3,?_⟩;refine .inl ⟨_,yN q2,?_⟩;refine⟨by kernel_rfl,?_⟩;exact⟨⟨k+1,h1⟩,by simp;omega,⟨rfl,rfl,rfl,rfl,rfl,svc (wrap_succ (k:=k) (by omega)),trivial⟩,trivial,rfl⟩
 exact rfl
theorem zS3 {w:Wd} {l:List Bd} (hl:w.env.length+l.length<=100000) (hnd:(l.map (·.1)).Nodup) {K:Nat} (hf:∀b∈l,FitX K b.2.1 w.ps) {m:Nat} (hm:m<l.length) (h:∀(k:Nat) (hk:k<l.length),k<m->IsT (w.more (bdL w l)) (w.mean l[k].2.1) l[k].2.2) (hb:z4Q (w.more (bdL w l)) (w.mean l[m].2.1) l[m].2.2):yS Tryz.prog 65 [eW w,.sl (yK l)] wJ:=by
 refine zJ ttok mixed Tryz.func65 rfl (by rfl) (Nat.le_of_ble_eq_true rfl) (by kernel_rfl) ?_;refine WsemQ.seq ttok mixed ?_;refine WsemQ.seq ttok mixed ?_;intro b;refine WsemQ.seq ttok mixed ?_;refine WsemQ.seq ttok mixed ?_;refine⟨{k:Nat // k<=l.length},fun k=>{vs:=[(1,.v (.sl (yK l))),(2,.box 0 (eW w)),(4,.box 0 (.agg [.sl [],.sl [],.sl [],.sl [],.lit (.int .i64 0)])),(5,.v (.lit (.map (some b)))),(6,.box 0 (eW (w.more ((bdL w l).take k.1)))),(15,.v (.sl (yK l))),(16,sv (l.length:Nat)),(17,sv (k.1:Nat))],hp:=[(b,HO.mp (zC6 ((l.map (·.1)).take k.1)))]},fun k=>l.length-k.1,⟨0,Nat.zero_le _⟩,⟨⟨rfl,rfl,rfl,rfl,?_,rfl,svc (by rw[zXL]),rfl,trivial⟩,trivial,rfl⟩,?_⟩
 ·show SV.box 0 (eW w)=SV.box 0 (eW (w.more ((bdL w l).take 0)));rw[List.take_zero,zHL]
 rintro⟨k,hk⟩;refine⟨fun h1=>?_,fun h1=>?_⟩
 ·have h1:k<l.length:=by have h:=of_decide_eq_true h1;simp only at h;omega
  refine⟨eBd l[k],by omega,zF4 h1,rfl,?_⟩;have hno:l[k].1∉(l.map (·.1)).take k:=by
   have:=zND hnd (k:=k) (by simpa using h1);simpa using this
  refine⟨0,_,none,rfl,zD2 _,trivial,zHV hno,?_⟩;refine .inl ⟨_,yN rfl,?_⟩;refine⟨0,_,none,rfl,zD2 _,trivial,zHV hno,?_⟩;refine .inl ⟨_,qJ w l[k].2.1 (hf _ (List.getElem_mem h1)),?_⟩;have htl:((bdL w l).take k).length<=k:=by rw[List.length_take];omega
  refine .inl ⟨_,zG2 (w.more ((bdL w l).take k)) [(l[k].1,w.mean l[k].2.1)] (by simp only[Wd.more,List.length_append,List.length_cons,List.length_nil];omega),?_⟩;refine⟨by kernel_rfl,?_⟩;refine⟨⟨k+1,h1⟩,by simp;omega,⟨rfl,rfl,rfl,rfl,?_,rfl,rfl,svc (wrap_succ (k:=k) (by omega)),trivial⟩,trivial,?_⟩
  ·rw[zSH h1,<-Wd.more_more];exact rfl
  ·show [(b,HO.mp (zEY (zC6 ((l.map (·.1)).take k)) (.string l[k].1) (.agg []) none))]=[(b,HO.mp (zC6 ((l.map (·.1)).take (k+1))))];rw[zMQ h1,zL8]
 have h1:k=l.length:=by have h:=of_decide_eq_false h1;simp only at h;omega
 subst h1;rw[List.take_of_length_le (by simp[bdL])];refine WsemQ.seqS (WsemQ.seqS (WsemQ.of ttok mixed ?_));refine WsemQ.block (WsemQ.loop (α:={k:Nat // k<=m}) (fun k=>{vs:=[(2,.box 0 (eW w)),(4,.box 0 (.agg [.sl [],.sl [],.sl [],.sl [],.lit (.int .i64 0)])),(6,.box 0 (eW (w.more (bdL w l)))),(46,.v (.sl (yK l))),(47,sv (l.length:Nat)),(48,sv (k.1:Nat))],hp:=[(b,HO.mp (zC6 ((l.map (·.1)).take l.length)))]}) (fun k=>m-k.1) ⟨0,Nat.zero_le _⟩ ⟨⟨rfl,rfl,rfl,rfl,svc (by rw[zXL]),rfl,trivial⟩,trivial,rfl⟩ ?_);rintro⟨k,hk⟩;refine WsemQ.seq ttok mixed ?_;refine WsemQ.seq ttok mixed ?_;refine⟨fun _=>?_,fun h1=>absurd (of_decide_eq_false h1) (by simp only;omega)⟩;have h1:k<l.length:=by omega
 refine WsemQ.seqS (WsemQ.block ?_);refine WsemQ.seq ttok mixed ?_;refine⟨eBd l[k],by omega,zF4 h1,rfl,?_⟩;rcases Nat.lt_or_ge k m with hkm|hkm
 ·obtain⟨t,q1,q2,q3⟩:=(h k h1 hkm).of;refine WsemQ.of ttok mixed ?_;refine .inl ⟨_,q1,?_⟩;refine .inl ⟨_,qJ w l[k].2.1 (hf _ (List.getElem_mem h1)),?_⟩;refine .inl ⟨_,xG _ _ q3,?_⟩;refine .inl ⟨_,yN q2,?_⟩;refine⟨by kernel_rfl,?_⟩;refine WsemQ.of ttok mixed ?_;exact⟨⟨k+1,hkm⟩,by simp;omega,⟨rfl,rfl,rfl,rfl,rfl,svc (wrap_succ (k:=k) (by omega)),trivial⟩,trivial,rfl⟩
 ·obtain rfl:k=m:=by omega
  rcases hb with hb|⟨t,q1,q2,q3⟩
  ·refine WsemQ.regionP ttok mixed [0,1,2,4,5,6,3,7,8,9] 6 (by kernel_rfl) (by kernel_rfl) ?_;exact⟨by kernel_rfl,hb⟩
  ·refine WsemQ.regionI ttok mixed 9 (by kernel_rfl) ?_;refine .inl ⟨_,q1,?_⟩;refine .inl ⟨_,qJ w l[k].2.1 (hf _ (List.getElem_mem h1)),?_⟩;refine .inl ⟨_,xG _ _ q3,?_⟩;exact⟨by kernel_rfl,zAD q2⟩
theorem zX8 {w w':Wd} {c p:Cr} {t:Tp} (hk:c.kids=[p]) (hb:zF Tryz.prog 65 [eW w,.sl (yK c.binds)] (eW w')) (h1:OfS w' p t):zF Tryz.prog 123 [eW w,eC c] (eTy t):=by
 rw[<-zI4] at hb;refine zG ttok mixed Tryz.func123 rfl (by rfl) (Nat.le_of_ble_eq_true rfl) (by kernel_rfl) ?_;refine .inl ⟨_,hb,?_⟩;refine⟨eC p,by omega,zA5 hk,rfl,?_⟩;refine .inl ⟨_,h1,?_⟩;refine⟨by kernel_rfl,?_⟩;exact rfl
theorem zZ6 {w:Wd} {c p:Cr} (hk:c.kids=[p]) (hb:yS Tryz.prog 65 [eW w,.sl (yK c.binds)] wJ):yS Tryz.prog 123 [eW w,eC c] wJ:=by
 rw[<-zI4] at hb;refine zJ ttok mixed Tryz.func123 rfl (by rfl) (Nat.le_of_ble_eq_true rfl) (by kernel_rfl) ?_;refine WsemQ.seq ttok mixed ?_;refine WsemQ.seqS (WsemQ.regionP ttok mixed [0,1,2,4,5,6,7,3,8,9] 7 (by kernel_rfl) (by kernel_rfl) ?_);refine⟨eC p,by omega,zA5 hk,rfl,?_⟩;exact⟨by kernel_rfl,hb⟩
theorem zZG {w w':Wd} {c p:Cr} (hk:c.kids=[p]) (hb:zF Tryz.prog 65 [eW w,.sl (yK c.binds)] (eW w')) (h1:OfN w' p):yS Tryz.prog 123 [eW w,eC c] wJ:=by
 rw[<-zI4] at hb;refine zJ ttok mixed Tryz.func123 rfl (by rfl) (Nat.le_of_ble_eq_true rfl) (by kernel_rfl) ?_;refine WsemQ.seq ttok mixed ?_;refine WsemQ.seqS (WsemQ.regionI ttok mixed 8 (by kernel_rfl) ?_);refine .inl ⟨_,hb,?_⟩;refine⟨eC p,by omega,zA5 hk,rfl,?_⟩;exact⟨by kernel_rfl,h1⟩
abbrev TkS (w:Wd) (t:Tp) (a:Al) (w':Wd):Prop:=zF Tryz.prog 144 [eW w,eTy t,eAl a] (eW w')
abbrev TkN (w:Wd) (t:Tp) (a:Al):Prop:=yS Tryz.prog 144 [eW w,eTy t,eAl a] wJ
theorem z4E (c:Cr):(c.e3 2).length=c.alts.length:=by rw[zKQ];simp[yY]
theorem z1U {c:Cr} {k:Nat} (h:k<c.alts.length):(c.e3 2)[k]? = some (eAl c.alts[k]):=by rw[zKQ];exact zYU h
def zc0 (w:Wd) (t u:Tp) (a:Al):Prop := ∃w',TkS w t a w'/\IsT w' u a.2.2
def zd4 (w:Wd) (t u:Tp) (a:Al):Prop:=TkN w t a∨∃w',TkS w t a w'/\z4Q w' u a.2.2
theorem zS2 {w:Wd} {c p:Cr} {t:Tp} {K:Nat} (hk:c.kids=[p]) (h1:OfS w p t) (hf:FitX K c.t w.ps) (hl:c.alts.length<=1000000) (h:∀a∈c.alts,zc0 w t (w.mean c.t) a):zF Tryz.prog 124 [eW w,eC c] (eTy (w.mean c.t)):=by
 refine zG ttok mixed Tryz.func124 rfl (by rfl) (Nat.le_of_ble_eq_true rfl) (by kernel_rfl) ?_;refine⟨eC p,by omega,zA5 hk,rfl,?_⟩;refine .inl ⟨_,h1,?_⟩;refine .inl ⟨_,qJ w c.t hf,?_⟩;refine⟨by kernel_rfl,?_⟩;refine⟨{k:Nat // k<=c.alts.length},fun k=>{vs:=[(2,.box 0 (eW w)),(4,.box 0 (eTy .no)),(5,.box 0 (eTy t)),(6,.box 0 (eTy (w.mean c.t))),(20,.v (.sl (c.e3 2))),(21,sv (c.alts.length:Nat)),(22,sv (k.1:Nat))]},fun k=>c.alts.length-k.1,⟨0,Nat.zero_le _⟩,⟨⟨rfl,rfl,rfl,rfl,rfl,svc (by rw[z4E]),rfl,trivial⟩,trivial,rfl⟩,?_⟩;rintro⟨k,hk2⟩;refine⟨fun h2=>?_,fun h2=>?_⟩
 ·have h2:k<c.alts.length:=by have h:=of_decide_eq_true h2;simp only at h;omega
  obtain⟨w',q0,q⟩:=h _ (List.getElem_mem h2);obtain⟨t2,q1,q2,q3⟩:=q.of;refine⟨eAl c.alts[k],by omega,z1U h2,rfl,?_⟩;refine .inl ⟨_,q0,?_⟩;refine .inl ⟨_,q1,?_⟩;refine .inl ⟨_,xG _ _ q3,?_⟩;refine .inl ⟨_,yN q2,?_⟩;refine⟨by kernel_rfl,?_⟩;exact⟨⟨k+1,h2⟩,by simp;omega,⟨rfl,rfl,rfl,rfl,rfl,rfl,svc (wrap_succ (k:=k) (by omega)),trivial⟩,trivial,rfl⟩
 exact rfl
theorem zVK {w:Wd} {c p:Cr} (hk:c.kids=[p]) (h1:OfN w p):yS Tryz.prog 124 [eW w,eC c] wJ:=by
 refine zJ ttok mixed Tryz.func124 rfl (by rfl) (Nat.le_of_ble_eq_true rfl) (by kernel_rfl) ?_;refine WsemQ.seq ttok mixed ?_;refine WsemQ.seqS (WsemQ.regionP ttok mixed [0,1,2,3,4,6,7,8,10,11,5,9,12,13] 10 (by kernel_rfl) (by kernel_rfl) ?_);refine⟨eC p,by omega,zA5 hk,rfl,?_⟩;exact⟨by kernel_rfl,h1⟩
theorem zWX {w:Wd} {c p:Cr} {t:Tp} {K:Nat} (hk:c.kids=[p]) (h1:OfS w p t) (hf:FitX K c.t w.ps) {m:Nat} (hm:m<c.alts.length) (h:∀(k:Nat) (hk:k<c.alts.length),k<m->zc0 w t (w.mean c.t) c.alts[k]) (hb:zd4 w t (w.mean c.t) c.alts[m]) (hl:c.alts.length<=1000000):yS Tryz.prog 124 [eW w,eC c] wJ:=by
 refine zJ ttok mixed Tryz.func124 rfl (by rfl) (Nat.le_of_ble_eq_true rfl) (by kernel_rfl) ?_;refine WsemQ.seq ttok mixed ?_;refine WsemQ.seq ttok mixed ?_;refine⟨eC p,by omega,zA5 hk,rfl,?_⟩;refine .inl ⟨_,h1,?_⟩;refine .inl ⟨_,qJ w c.t hf,?_⟩;refine⟨by kernel_rfl,?_⟩;refine WsemQ.seqS (WsemQ.seqS (WsemQ.of ttok mixed ?_));refine WsemQ.block (WsemQ.loop (α:={k:Nat // k<=m}) (fun k=>{vs:=[(2,.box 0 (eW w)),(4,.box 0 (eTy .no)),(5,.box 0 (eTy t)),(6,.box 0 (eTy (w.mean c.t))),(20,.v (.sl (c.e3 2))),(21,sv (c.alts.length:Nat)),(22,sv (k.1:Nat))]}) (fun k=>m-k.1) ⟨0,Nat.zero_le _⟩ ⟨⟨rfl,rfl,rfl,rfl,rfl,svc (by rw[z4E]),rfl,trivial⟩,trivial,rfl⟩ ?_);rintro⟨k,hk2⟩;refine WsemQ.seq ttok mixed ?_;refine WsemQ.seq ttok mixed ?_;refine⟨fun _=>?_,fun h1=>absurd (of_decide_eq_false h1) (by simp only;omega)⟩;have h2:k<c.alts.length:=by omega
 refine WsemQ.seqS (WsemQ.block ?_);refine WsemQ.seq ttok mixed ?_;refine⟨eAl c.alts[k],by omega,z1U h2,rfl,?_⟩;rcases Nat.lt_or_ge k m with hkm|hkm
 ·obtain⟨w',q0,q⟩:=h k h2 hkm;obtain⟨t2,q1,q2,q3⟩:=q.of;refine WsemQ.of ttok mixed ?_;refine .inl ⟨_,q0,?_⟩;refine .inl ⟨_,q1,?_⟩;refine .inl ⟨_,xG _ _ q3,?_⟩;refine .inl ⟨_,yN q2,?_⟩;refine⟨by kernel_rfl,?_⟩;refine WsemQ.of ttok mixed ?_;exact⟨⟨k+1,hkm⟩,by simp;omega,⟨rfl,rfl,rfl,rfl,rfl,rfl,svc (wrap_succ (k:=k) (by omega)),trivial⟩,trivial,rfl⟩
 ·obtain rfl:k=m:=by omega
  rcases hb with hb|⟨w',q0,hb|⟨t2,q1,q2,q3⟩⟩
  ·refine WsemQ.regionP ttok mixed [0,1,2,4,5,7,3,6,8,9] 6 (by kernel_rfl) (by kernel_rfl) ?_;exact⟨by kernel_rfl,hb⟩
  ·refine WsemQ.regionP ttok mixed [0,1,2,3,4,5,7,6,8,9] 7 (by kernel_rfl) (by kernel_rfl) ?_;refine .inl ⟨_,q0,?_⟩;exact⟨by kernel_rfl,hb⟩
  ·refine WsemQ.regionI ttok mixed 9 (by kernel_rfl) ?_;refine .inl ⟨_,q0,?_⟩;refine .inl ⟨_,q1,?_⟩;refine .inl ⟨_,xG _ _ q3,?_⟩;exact⟨by kernel_rfl,zAD q2⟩
theorem zPQ {j:Nat} {k n:Int} {f:Nat} (h:frmL[j]? = some (fE k n f)):Fp.Found frmL (.int .i64 k) (some (j,.agg [.lit (.int .i64 n),.lit (fnv f)])):=by
 refine .yes j _ h fun i hi p hp=>?_;have key:∀(i:Nat) (p:AV×AV),frmL[i]? = some p->p.1 = .lit (.int .i64 ((i:Int)+1)):=by
  intro i p hp;have hlt:i<11:=(List.getElem?_eq_some_iff.1 hp).1
  match i,hlt with
  | 0,_=>cases hp;rfl
  | 1,_=>cases hp;rfl
  | 2,_=>cases hp;rfl
  | 3,_=>cases hp;rfl
  | 4,_=>cases hp;rfl
  | 5,_=>cases hp;rfl
  | 6,_=>cases hp;rfl
  | 7,_=>cases hp;rfl
  | 8,_=>cases hp;rfl
  | 9,_=>cases hp;rfl
  | 10,_=>cases hp;rfl
 rw[key i p hp];have e:=key j _ h;intro e2;have e:AV.lit (.int .i64 k) = .lit (.int .i64 ((j:Int)+1)):=e;injection e with e;injection e with _ e
 injection e2 with e2;injection e2 with _ e2
 omega
theorem jC {w:Wd} {c:Cr} {t:Tp} {j:Nat} {k n:Int} {f:Nat} (hj:frmL[j]? = some (fE k n f)) (hk:c.f=k) (hn:(c.kids.length:Int)=n) (hc:zF Tryz.prog f [eW w,eC c] (eTy t)):OfS w c t:=by
 subst hk;have hfo:=zPQ hj;refine zG ttok mixed Tryz.func42 rfl (by rfl) (Nat.le_of_ble_eq_true rfl) (by kernel_rfl) ?_;refine .inl ⟨_,zK9,?_⟩;refine⟨_,zXF,rfl,hfo,?_⟩;refine⟨by kernel_rfl,?_⟩;refine .inl ⟨_,yN (decide_eq_true (by rw[zFU];exact hn)),?_⟩;refine .inl ⟨_,hc,?_⟩;exact rfl
theorem zaR {w:Wd} {c:Cr} (h:∀(j:Nat) (k n:Int) (f:Nat),frmL[j]? = some (fE k n f)->c.f≠k):OfN w c:=by
 have hfo:Fp.Found frmL (.int .i64 c.f) none := .no fun p hp=>by
  obtain⟨j,hj⟩:=List.getElem?_of_mem hp;have hlt:j<11:=(List.getElem?_eq_some_iff.1 hj).1;intro e;have key:∃k n f,p=fE k n f:=by
   simp only[frmL,List.mem_cons,List.not_mem_nil,or_false] at hp;rcases hp with rfl|rfl|rfl|rfl|rfl|rfl|rfl|rfl|rfl|rfl|rfl<;>exact⟨_,_,_,rfl⟩
  obtain⟨k,n,f,rfl⟩:=key;refine h j k n f hj ?_;have e:AV.lit (.int .i64 k) = .lit (.int .i64 c.f):=e;injection e with e;injection e with _ e
  exact e.symm
 refine zJ ttok mixed Tryz.func42 rfl (by rfl) (Nat.le_of_ble_eq_true rfl) (by kernel_rfl) ?_;refine WsemQ.seq ttok mixed ?_;refine WsemQ.seq ttok mixed ?_;refine .inl ⟨_,zK9,?_⟩;refine⟨_,zXF,rfl,hfo,?_⟩;refine⟨by kernel_rfl,?_⟩;refine WsemQ.seqS (WsemQ.region ttok 9 ?_);exact zAD rfl
theorem wC {w:Wd} {c:Cr} {j:Nat} {k n:Int} {f:Nat} (hj:frmL[j]? = some (fE k n f)) (hk:c.f=k) (hn:(c.kids.length:Int)=n) (hc:yS Tryz.prog f [eW w,eC c] wJ):OfN w c:=by
 subst hk;have hfo:=zPQ hj;refine zJ ttok mixed Tryz.func42 rfl (by rfl) (Nat.le_of_ble_eq_true rfl) (by kernel_rfl) ?_;refine WsemQ.seq ttok mixed ?_;refine WsemQ.seq ttok mixed ?_;refine .inl ⟨_,zK9,?_⟩;refine⟨_,zXF,rfl,hfo,?_⟩;refine⟨by kernel_rfl,?_⟩;refine WsemQ.seq ttok mixed ?_;refine .inl ⟨_,yN (decide_eq_true (by rw[zFU];exact hn)),?_⟩;refine WsemQ.seqS (WsemQ.region ttok 4 ?_);exact hc
def ht:Tp->Nat
 | .app a b=>max (ht a) (ht b)+1
 | .all _ a=>ht a+1
 | _=>0
theorem zaV (t:Tp):(xB t).length<=ht t:=by
 induction t with
 | app x b ihx _=>simp only[xB,List.length_cons,ht];omega
 | _=>simp[xB]
theorem zFJ {t:Tp}:∀x∈xB t,ht x<=ht t/\dp x<=dp t/\∀s∈fv x,s∈fv t:=by
 induction t with
 | app a b iha _ =>
  intro x hx;simp only[xB,List.mem_cons] at hx;rcases hx with rfl|hx
  ·exact⟨by simp only[ht];omega,by simp only[dp];omega,fun s hs=>mem_fv_app.2 (.inr hs)⟩
  ·obtain⟨h1,h2,h3⟩:=iha x hx;exact⟨by simp only[ht];omega,by simp only[dp];omega,fun s hs=>mem_fv_app.2 (.inl (h3 s hs))⟩
 | _=>intro x hx;simp[xB] at hx
theorem z1V {D:Nat} (t:Tp):∀ps:Env',(∀p∈ps,ht p.2<=D)->ht (sub t ps)<=ht t+D:=by
 induction t with
 | var s =>
  intro ps h;simp only[sub];cases hl:look s ps with
  | none=>simp[ht]
  | some u=>have:ht u<=D:=h _ (zC7 hl);simp only[ht,Option.getD_some];omega
 | app a b iha ihb =>
  intro ps h;have h1:=iha ps h;have h2:=ihb ps h;simp only[sub,ht];omega
 | all s a ih =>
  intro ps h;simp only[sub];split
  ·have h3:=ih (kept s (fv a) ps++[(s,.var (lett (ff (caught (kept s (fv a) ps)++fv a))))]) (fun p hp=>by
    rcases List.mem_append.1 hp with hp|hp
    ·exact h p (zA8 hp)
    ·simp at hp;subst hp;simp[ht])
   simp only[ht];omega
  ·have h3:=ih (kept s (fv a) ps) (fun p hp=>h p (zA8 hp));simp only[ht];omega
 | _=>intro ps h;simp[sub,ht]
structure TB (G:List ByteArray) (a b:Nat) (t:Tp):Prop where
 nm:∀s∈fv t,s∈G
 dp:dp t<=a
 ht:ht t<=b
theorem TB.mono {G:List ByteArray} {a b a' b':Nat} {t:Tp} (h:TB G a b t) (h1:a<=a') (h2:b<=b'):TB G a' b' t:=⟨h.nm,Nat.le_trans h.dp h1,Nat.le_trans h.ht h2⟩
theorem TB.app {G:List ByteArray} {a b:Nat} {x y:Tp}:TB G a (b+1) (.app x y)↔TB G a b x/\TB G a b y:=by
 constructor
 ·rintro⟨h1,h2,h3⟩;simp only[Go.Proofs.YtdmbahepaglcbaaGreatDoor.dp] at h2;simp only[Go.Proofs.YtdmbahepaglcbaaGreatDoor.ht] at h3;exact⟨⟨fun s hs=>h1 s (mem_fv_app.2 (.inl hs)),by omega,by omega⟩,⟨fun s hs=>h1 s (mem_fv_app.2 (.inr hs)),by omega,by omega⟩⟩
 ·rintro⟨⟨h1,h2,h3⟩,⟨k1,k2,k3⟩⟩;refine⟨fun s hs=>(mem_fv_app.1 hs).elim (h1 s) (k1 s),?_,?_⟩
  ·simp only[Go.Proofs.YtdmbahepaglcbaaGreatDoor.dp];omega
  ·simp only[Go.Proofs.YtdmbahepaglcbaaGreatDoor.ht];omega
theorem TB.con {G:List ByteArray} {a b:Nat} {s:ByteArray}:TB G a b (.con s):=⟨fun s hs=>by simp[fv] at hs,Nat.zero_le _,Nat.zero_le _⟩
theorem TB.fun {G:List ByteArray} {a b:Nat} {x y:Tp} (h1:TB G a b x) (h2:TB G a b y):TB G a (b+2) (.app (.app (.con arrow) x) y) :=
 TB.app.2 ⟨TB.app.2 ⟨.con,h1⟩,h2.mono (Nat.le_refl _) (by omega)⟩
theorem TB.parts {G:List ByteArray} {a b:Nat} {t:Tp} (h:TB G a b t) (hf:(partsOf t).2.2=true):TB G a b (partsOf t).1/\TB G a b (partsOf t).2.1:=by
 have hb:=zD4 t hf;rw[<-hb] at h;have h3:=h.ht;simp only[Go.Proofs.YtdmbahepaglcbaaGreatDoor.ht] at h3;obtain⟨b',rfl⟩:∃b',b=b'+1+1:=⟨b-2,by omega⟩
 obtain⟨h1,h2⟩:=TB.app.1 h;exact⟨(TB.app.1 h1).2.mono (Nat.le_refl _) (by omega),h2.mono (Nat.le_refl _) (by omega)⟩
theorem TB.sub {G:List ByteArray} {a b a' b':Nat} {t:Tp} {ps:Env'} (h1:∀s∈fv t,s∈G∨s∈ps.map (·.1)) (h2:Go.Proofs.YtdmbahepaglcbaaGreatDoor.dp t<=a) (h3:Go.Proofs.YtdmbahepaglcbaaGreatDoor.ht t<=b) (hp:∀p∈ps,TB G a' b' p.2):TB G (a+a') (b+b') (sub t ps):=by
 refine⟨fun s hs=>?_,?_,?_⟩
 ·obtain⟨y,hy,hf⟩:=(zLK t ps s).1 hs;unfold Fo at hf;split at hf
  ·rename_i hn;subst hf;rcases h1 s hy with h|h
   ·exact h
   ·exfalso;obtain⟨p,hp1,hp2⟩:=List.mem_map.1 h;rcases zKW (x:=s) (ps:=ps) with⟨_,q⟩|⟨k,hk,_,q⟩
    ·exact q h
    ·rw[hn] at q;cases q
  ·rename_i u hu;exact (hp _ (zC7 hu)).nm s hf
 ·have:=z7E (D:=a') t ps (fun p hq=>(hp p hq).dp);omega
 ·have:=z1V (D:=b') t ps (fun p hq=>(hp p hq).ht);omega
theorem z0H {F F':Nat->Option Nat} {w w':World} {b:Nat} {o:HO} (h:HoOk F w b o) (hb:w'.heap[b]? = w.heap[b]?) (kp:Keeps F w F' w') (hm:∀l s,o≠.it l s) (hr:∀p,o≠.raw p):HoOk F' w' b o:=by
 cases o with
 | cells l=>obtain⟨cs,E,h1,h2⟩:=h;exact⟨cs,E,hb.trans h1,⟨h2.1,fun j v c hv hc=>⟨(h2.2 j v c hv hc).1.mono kp,(h2.2 j v c hv hc).2⟩⟩⟩
 | mp l=>obtain⟨es,clock,h1,h2,h3⟩:=h;exact⟨es,clock,hb.trans h1,h2,h3.1,fun j e p he hp=>⟨(h3.2 j e p he hp).1.mono kp,(h3.2 j e p he hp).2.mono kp⟩⟩
 | it l s=>exact absurd rfl (hm l s)
 | raw p=>exact absurd rfl (hr p)
def CellsL (h:List (Nat×HO)):Prop := ∀x∈h,∃l,x.2 = .cells l
theorem CellsL.keep {h:List (Nat×HO)} (hc:CellsL h) {F F':Nat->Option Nat} {w w':World} (hh:HeapIn F w h) (hF:∀b∈keys h,F' b=some 0) (hb:∀b∈keys h,w'.heap[b]? = w.heap[b]?) (kp:Keeps F w F' w'):HeapIn F' w' h :=
 ⟨hh.nodup,hF,fun x hx=>by
  obtain⟨l,e⟩:=hc x hx;exact z0H (hh.ok x hx) (hb x.1 (List.mem_map.2 ⟨x,hx,rfl⟩)) kp (fun _ _ h=>by rw[e] at h;cases h) (fun _ h=>by rw[e] at h;cases h)⟩
theorem zKS {F:Nat->Option Nat} {w:World} {h:List (Nat×HO)} (hh:HeapIn F w h):∀b∈keys h,b<w.heap.size:=fun b hb=>by
 obtain⟨x,hx,rfl⟩:=List.mem_map.1 hb;exact (hh.ok x hx).lt
theorem z05 {n:Nat} (he:Fp.Enters Tryz.prog n) {cap:Array Value} {hin:List (Nat×HO)} (hcl:CellsL hin) (hone:(Value.func (.func n) #[] cap).oneCell'=true) (hc:∀F w,Fresh F w->HeapIn F w hin->Calls Tryz.prog n cap w fun e w'=>e = .panicked (zLJ wJ)/\RowKit.Below w.heap.size w w') :
  CallsG Tryz.prog (fnv 40) hin [.lit (.func (.func n) #[] cap)] [] fun r o h=>r = .lit (.int .i64 50)/\o=0/\h=hin:=by
 refine⟨40,#[],#[],rfl,⟨_,Tryz.func40,rfl,rfl⟩,fun F w vs hfr hh ha hy=>?_⟩;have hlen:=ha.len
 match vs,hlen with
 | [v],_ =>
  have hv:=(ha.rep 0 v _ rfl rfl).lit_eq.1;subst hv;rw[show ((#[]:Array Value)++[Value.func (.func n) #[] cap].toArray ++ #[]) = #[.func (.func n) #[] cap] by simp,show yJ [Value.func (.func n) #[] cap] []=[] from rfl];have hw1:(w.alloc (.cells #[.int .i64 0] 39)).heap[w.heap.size]? = some (.cells #[.int .i64 0] 39 (0,0)):=World.heap_alloc_new w _;have hsz:(w.alloc (.cells #[.int .i64 0] 39)).heap.size=w.heap.size+1:=by simp
  have hB1:RowKit.Below w.heap.size w (w.alloc (.cells #[.int .i64 0] 39)):=(RowKit.Below.refl _ w).alloc (Nat.le_refl _) _;have kp1:Keeps F w F (w.alloc (.cells #[.int .i64 0] 39)):=(Grow.alloc w _).keeps (fun b hb=>rfl);have hh1:HeapIn F (w.alloc (.cells #[.int .i64 0] 39)) hin:=hcl.keep hh hh.shut (fun b hb=>hB1.block b (zKS hh b hb)) kp1;refine (zRG he cap w (R:=fun w'=>RowKit.Below (w.heap.size+1) (w.alloc (.cells #[.int .i64 0] 39)) w') ?_).mono ?_
  ·refine (hc F _ (fun b hb=>hfr b (by rw[hsz] at hb;omega)) hh1).mono fun e w' hp=>⟨hp.1,?_,by rw[hsz] at hp;exact hp.2⟩
   rw[hp.2.block w.heap.size (by rw[hsz];omega)];exact hw1
  ·rintro e w2 ⟨rfl,w1,hR,rfl⟩;have hB:RowKit.Below w.heap.size w ((w1.alloc (.cells #[] 119)).setCell ⟨w.heap.size,0,none⟩ (.int .i64 50)) :=
    ((hB1.trans (hR.mono (by omega))).alloc (by have:=hR.size;rw[hsz] at this;omega) _).setCell (Nat.le_refl _) _
   have hk0:Kept F (keys hin) [] w w:=⟨rfl,rfl,rfl,Nat.le_refl _,fun b hb => .inr (.inr rfl)⟩
   have hx:zU1 F F w []:=fun b hb => .inl rfl;have kp:Keeps F w F ((w1.alloc (.cells #[] 119)).setCell ⟨w.heap.size,0,none⟩ (.int .i64 50)):=by
    have hk1:Kept F (keys []) [] w w:=⟨rfl,rfl,rfl,Nat.le_refl _,fun b hb => .inr (.inr rfl)⟩
    exact (hk1.below hB).keeps hx (fun b hb=>by simp[keys] at hb)
   exact⟨_,_,0,hin,F,rfl,⟨rfl,rfl,rfl⟩,.lit _ rfl,fun sz h=>by omega,hk0.below hB,hx,fun b hb=>hfr b (Nat.le_trans hB.size hb),hcl.keep hh hh.shut (fun b hb=>hB.block b (zKS hh b hb)) kp,fun b hb => .inl hb⟩
theorem zVB {n:Nat} (he:Fp.Enters Tryz.prog n) {cap:Array Value} {hin hout:List (Nat×HO)} (hcl:CellsL hin) (hcl2:CellsL hout) (hone:(Value.func (.func n) #[] cap).oneCell'=true) (hc:∀F w,Fresh F w->HeapIn F w hin->Calls Tryz.prog n cap w (qM F (keys hin) [] w fun r o h=>r = .tup []/\o=0/\h=hout)) (hkeys:∀b∈keys hout,b∈keys hin) :
  CallsG Tryz.prog (fnv 40) hin [.lit (.func (.func n) #[] cap)] [] fun r o h=>r = .lit (.int .i64 0)/\o=0/\h=hout:=by
 refine⟨40,#[],#[],rfl,⟨_,Tryz.func40,rfl,rfl⟩,fun F w vs hfr hh ha hy=>?_⟩;have hlen:=ha.len
 match vs,hlen with
 | [v],_ =>
  have hv:=(ha.rep 0 v _ rfl rfl).lit_eq.1;subst hv;rw[show ((#[]:Array Value)++[Value.func (.func n) #[] cap].toArray ++ #[]) = #[.func (.func n) #[] cap] by simp,show yJ [Value.func (.func n) #[] cap] []=[] from rfl];have hw1:(w.alloc (.cells #[.int .i64 0] 39)).heap[w.heap.size]? = some (.cells #[.int .i64 0] 39 (0,0)):=World.heap_alloc_new w _;have hsz:(w.alloc (.cells #[.int .i64 0] 39)).heap.size=w.heap.size+1:=by simp
  have hB1:RowKit.Below w.heap.size w (w.alloc (.cells #[.int .i64 0] 39)):=(RowKit.Below.refl _ w).alloc (Nat.le_refl _) _;have kp1:Keeps F w F (w.alloc (.cells #[.int .i64 0] 39)):=(Grow.alloc w _).keeps (fun b hb=>rfl);have hh1:HeapIn F (w.alloc (.cells #[.int .i64 0] 39)) hin:=hcl.keep hh hh.shut (fun b hb=>hB1.block b (zKS hh b hb)) kp1;have hlt:=zKS hh;refine (zVE he cap w (R:=fun w' => ∃F',Kept F (keys hin) [] (w.alloc (.cells #[.int .i64 0] 39)) w'/\zU1 F F' (w.alloc (.cells #[.int .i64 0] 39)) []/\Fresh F' w'/\HeapIn F' w' hout/\w'.heap[w.heap.size]? = some (.cells #[.int .i64 0] 39 (0,0))) ?_).mono ?_
  ·refine (hc F _ (fun b hb=>hfr b (by rw[hsz] at hb;omega)) hh1).mono fun e w' hp=>?_;obtain⟨v,r,o,h,F',rfl,⟨rfl,rfl,rfl⟩,p1,p2,p3,p4,p5,p6,p7⟩:=hp;obtain⟨cs,rfl,hcs,_⟩:=p1.tup_eq;have e0:cs = #[]:=Array.eq_empty_of_size_eq_zero (by simpa using hcs);have hb:w'.heap[w.heap.size]? = some (.cells #[.int .i64 0] 39 (0,0)):=by
    rcases p3.block w.heap.size (by rw[hsz];omega) with h|⟨h,_⟩|h
    ·have:=hlt _ h;omega
    ·simp at h
    ·rw[h];exact hw1
   exact⟨by rw[e0],hb,F',p3,p4,p5,p6,hb⟩
  ·rintro e w2 ⟨rfl,w1,⟨F',p3,p4,p5,p6,hb⟩,rfl⟩;have hne:∀b,b<w.heap.size->(w1.setCell ⟨w.heap.size,0,none⟩ (.int .i64 0)).heap[b]? = w1.heap[b]?:=fun b hb=>RowKit.Below.heap_setCell _ _ _ _ (by show b≠w.heap.size;omega);have hcell:∀a,(w1.setCell ⟨w.heap.size,0,none⟩ (.int .i64 0)).cell? a=w1.cell? a:=fun a=>by
    by_cases e:(⟨w.heap.size,0,none⟩:Addr)=a
    ·subst e;have h1:w1.cell? ⟨w.heap.size,0,none⟩=some (.int .i64 0):=by simp[World.cell?,hb]
     rw[World.cell?_setCell_same' _ _ _ (by rw[h1];rfl),h1]
    ·exact World.cell?_setCell_other _ _ _ _ e
   have hsame:∀b,b≠w.heap.size->(w1.setCell ⟨w.heap.size,0,none⟩ (.int .i64 0)).heap[b]? = w1.heap[b]?:=fun b hb=>RowKit.Below.heap_setCell _ _ _ _ hb;have kp:Keeps F' w1 F' (w1.setCell ⟨w.heap.size,0,none⟩ (.int .i64 0)):=⟨fun b k u h c=>⟨by rw[hcell];exact h,c⟩,fun b es c h hc=>⟨by
    rw[hsame b (fun e=>by rw[e,hb] at h;cases h)];exact h,hc⟩⟩
   have hsz2:(w1.setCell ⟨w.heap.size,0,none⟩ (.int .i64 0)).heap.size=w1.heap.size:=by simp[World.setCell]
   refine⟨_,_,0,hout,F',rfl,⟨rfl,rfl,rfl⟩,.lit _ rfl,fun sz h=>by omega,⟨?_,?_,?_,?_,fun b hlt2=>?_⟩,fun b hlt2=>p4 b (by rw[hsz];omega),fun b hb2=>p5 b (by rw[hsz2] at hb2;exact hb2),hcl2.keep p6 p6.shut (fun b hb2=>hne b (hlt b (hkeys b hb2))) kp,fun b hb2 => .inl (hkeys b hb2)⟩
   ·exact p3.os
   ·exact p3.tape
   ·exact p3.output
   ·have:=p3.size;rw[hsz] at this;rw[hsz2];omega
   ·rw[hne b hlt2];rcases p3.block b (by rw[hsz];omega) with h|⟨h,_⟩|h
    ·exact .inl h
    ·simp at h
    ·exact .inr (.inr (h.trans (hB1.block b hlt2)))
end Go.Proofs.YtdmbahepaglcbaaGreatDoor
