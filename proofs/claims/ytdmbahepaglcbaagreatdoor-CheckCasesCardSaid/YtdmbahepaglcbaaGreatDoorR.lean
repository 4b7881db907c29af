/- Primitives of no type. No condition but on what is within. -/
import Derived.Test.YtdmbahepaglcbaaGreatDoorQ
import Derived.Test.YtdmbahepaglcbaaGreatDoorD
set_option linter.unusedSimpArgs false
set_option linter.unusedVariables false
namespace Go.Proofs.YtdmbahepaglcbaaGreatDoor
open Go Fp
set_option maxRecDepth 10000
set_option maxHeartbeats 8000000
set_option linter.unusedVariables false
def z2Y (w:Wd) (u:Tp) (p:Cr):Prop:=OfN w p∨∃t,OfS w p t/\smb t u [] []=false/\dp t<1000000000
theorem zSU (to:Tp) (l:List Tp) (hl:l.length<4294967296):zC Tryz.prog zOB [eTy to,.sl (zJ l)] (eTy (zQN to l)):=by
 refine zA ttok mixed Tryz.func50 rfl (by rfl) (Nat.le_of_ble_eq_true rfl) (by kernel_rfl) ?_;refine .inl ⟨_,qR to,?_⟩;have hlen:(zJ l).length=l.length:=by simp[zJ]
 refine⟨{k:Nat // k<=l.length},fun k=>{vs:=[(1,.v (.sl (zJ l))),(4,.box 0 (eTy .no)),(5,.box 0 (eTy (zQN to (l.drop (l.length-k.1))))),(10,.v (.lit (.int .i64 ((zJ l).length:Nat)))),(11,.v (.lit (.int .i64 (k.1:Nat))))]},
  fun k=>l.length-k.1,⟨0,Nat.zero_le _⟩,⟨⟨rfl,rfl,?_,rfl,rfl,trivial⟩,trivial,rfl⟩,?_⟩
 ·show SV.box 0 (eTy to)=SV.box 0 (eTy (zQN to (l.drop (l.length-0))));rw[Nat.sub_zero,List.drop_length];rfl
 rintro⟨k,hk⟩;refine⟨fun h=>?_,fun h=>?_⟩
 ·have h:k<l.length:=by simp[hlen] at h;omega
  have e1:IntKind.i64.wrap (((zJ l).length:Nat)-1:Int)=((l.length-1:Nat):Int):=by rw[hlen,show ((l.length:Nat)-1:Int)=((l.length-1:Nat):Int) by omega];exact yN (by omega)
  have e2:IntKind.i64.wrap (((l.length-1:Nat):Int)-((k:Nat):Int))=((l.length-1-k:Nat):Int):=by rw[show (((l.length-1:Nat):Int)-((k:Nat):Int))=((l.length-1-k:Nat):Int) by omega];exact yN (by omega)
  have hlt:l.length-1-k<l.length:=by omega
  refine .inl ⟨_,zBZ _,?_⟩;refine⟨eTy l[l.length-1-k],?_,?_,rfl,?_⟩
  ·show (0:Int)<=IntKind.i64.wrap (IntKind.i64.wrap (((zJ l).length:Nat)-1:Int)-((k:Nat):Int));rw[e1,e2];omega
  ·show (zJ l)[Int.toNat (IntKind.i64.wrap (IntKind.i64.wrap (((zJ l).length:Nat)-1:Int)-((k:Nat):Int)))]? = _;rw[e1,e2];exact zOF hlt
  refine .inl ⟨_,qR _,?_⟩;refine .inl ⟨_,zER (.con arrow) _,?_⟩;refine .inl ⟨_,zER (.app (.con arrow) _) _,?_⟩;refine⟨⟨k+1,h⟩,(show l.length-(k+1)<l.length-k by omega),⟨rfl,rfl,?_,rfl,?_,trivial⟩,trivial,rfl⟩
  ·show SV.box 0 (eTy (.app (.app (.con arrow) l[l.length-1-k]) (zQN to (l.drop (l.length-k)))))=SV.box 0 (eTy (zQN to (l.drop (l.length-(k+1)))));rw[show l.length-(k+1)=l.length-1-k by omega,List.drop_eq_getElem_cons hlt,show l.length-1-k+1=l.length-k by omega];rfl
  ·exact congrArg (fun l=>SV.v (AV.lit (Value.int .i64 l))) (wrap_succ (k:=k) (by omega))
 ·have h:k=l.length:=by simp[hlen] at h;omega
  subst h;show eTy (zQN to (l.drop (l.length-l.length)))=_;rw[Nat.sub_self,List.drop_zero]
theorem zZR {w:Wd} {c p:Cr} {t:Tp} {K:Nat} (hk:c.kids=[p]) (hf:FitX K c.t w.ps) (hl:w.env.length<100000) (h1:OfS (w.more [(c.s,w.mean c.t)]) p t):zC Tryz.prog 120 [eW w,eC c] (eTy (zQN t [w.mean c.t])):=by
 refine zB ttok mixed Tryz.func120 rfl (by rfl) (Nat.le_of_ble_eq_true rfl) (by kernel_rfl) ?_;refine .inl ⟨_,zAN w c.t hf,?_⟩;refine .inl ⟨_,zHI w [(c.s,w.mean c.t)] (by simp;omega),?_⟩;refine⟨eC p,by omega,zGS hk,rfl,?_⟩;refine .inl ⟨_,h1,?_⟩;refine .inl ⟨_,zSU t [w.mean c.t] (by simp),?_⟩;refine⟨by kernel_rfl,?_⟩;exact rfl
theorem zWD {w:Wd} {c p:Cr} {s:ByteArray} {a:Tp} {K L:Nat} (hk:c.kids=[p]) (hf:FitX K c.t w.ps) (h1:OfS w p (.all s a)) (hf2:FitX L a [(s,w.mean c.t)]):zC Tryz.prog 121 [eW w,eC c] (eTy (sub a [(s,w.mean c.t)])):=by
 refine zB ttok mixed Tryz.func121 rfl (by rfl) (Nat.le_of_ble_eq_true rfl) (by kernel_rfl) ?_;refine⟨eC p,by omega,zGS hk,rfl,?_⟩;refine .inl ⟨_,h1,?_⟩;refine⟨by kernel_rfl,?_⟩;refine .inl ⟨_,yF rfl,?_⟩;refine⟨eTy a,by omega,rfl,rfl,?_⟩;refine .inl ⟨_,zAN w c.t hf,?_⟩;refine .inl ⟨_,jZ a.sz a (Nat.le_refl _) L [(s,w.mean c.t)] hf2,?_⟩;refine⟨by kernel_rfl,?_⟩;exact rfl
def zG7 (d:Nat):ByteArray:=⟨#[64]⟩++dcm d
theorem zXA {w:Wd} {c p:Cr} {t:Tp} (hk:c.kids=[p]) (hd:w.deep<100) (hl:w.ps.length<=100000) (h1:OfS (w.all c.s (zG7 w.deep)) p t):zC Tryz.prog 122 [eW w,eC c] (eTy (.all (zG7 w.deep) t)):=by
 have hs:=wO 2 w.deep (by omega) (by decide);have q:(ByteArray.mk #[64]).size=1:=rfl;refine zB ttok mixed Tryz.func122 rfl (by rfl) (Nat.le_of_ble_eq_true rfl) (by kernel_rfl) ?_;refine .inl ⟨_,zSP hd,?_⟩;refine⟨by rw[q];omega,?_⟩;refine .inl ⟨_,z1F w c.s (zG7 w.deep) hl (by omega),?_⟩;refine⟨eC p,by omega,zGS hk,rfl,?_⟩;refine .inl ⟨_,h1,?_⟩;refine .inl ⟨_,zLU (zG7 w.deep) t,?_⟩;refine⟨by kernel_rfl,?_⟩;exact rfl
theorem zUI {P:Program} {f:Nat} {args:List AV} {r:AV} (he:Fp.Enters P f) (h:∀F w (vs:List Value),Fresh F w->zAJ F w vs args []->Calls P f vs.toArray w fun e w'=>RowKit.Below w.heap.size w w'/\∃v,e = .returned v/\Rep F w v r):zC P f args r:=by
 refine⟨f,#[],#[],rfl,he,fun F w vs hfr hh ha hy=>?_⟩;have hyk:zY vs []=[]:=by cases vs<;>rfl
 rw[hyk,show (#[]:Array Value)++vs.toArray ++ #[]=vs.toArray by simp];refine (h F w vs hfr ha).mono fun e w' hp=>?_;obtain⟨hB,v,rfl,hr⟩:=hp;have hk0:Kept F (keys []) [] w w:=⟨rfl,rfl,rfl,Nat.le_refl _,fun b hb => .inr (.inr rfl)⟩
 have hk:=hk0.below hB;have hx:zQS F F w []:=fun b hb => .inl rfl;refine⟨v,r,0,[],F,rfl,⟨rfl,rfl,rfl⟩,hr.mono (hk.keeps hx (fun b hb=>by simp[keys] at hb)),fun sz h=>by omega,hk,hx,fun b hb=>hfr b (Nat.le_trans hB.size hb),⟨by simp[keys],fun b hb=>by simp[keys] at hb,fun x hx=>by simp at hx⟩,fun b hb=>by simp[keys] at hb⟩
theorem zPW {P:Program} {f:Nat} {args:List AV} {pv:Value} (he:Fp.Enters P f) (h:∀F w (vs:List Value),Fresh F w->zAJ F w vs args []->Calls P f vs.toArray w fun e w'=>RowKit.Below w.heap.size w w'/\e = .panicked (zJ5 pv)):wM P f args pv:=by
 refine⟨f,#[],#[],rfl,he,fun F w vs hfr ha=>?_⟩;rw[show (#[]:Array Value)++vs.toArray ++ #[]=vs.toArray by simp];exact (h F w vs hfr ha).mono fun e w' hp=>⟨hp.2,hp.1⟩
def zAP (l:List Nm2) (s:ByteArray):Option Tp:=(l.reverse.find? fun p=>decide (p.1=s)).map (·.2)
theorem zCM {l:List Nm2} {s:ByteArray} {k:Nat} (hk:k<l.length) (h:l[k].1=s) (hn:∀j,k<j->∀(hj:j<l.length),l[j].1≠s):zAP l s=some l[k].2:=by
 unfold zAP;have e:l.reverse=(l.drop (k+1)).reverse++l[k]::(l.take k).reverse:=by
  have h2:l=l.take k++(l[k]::l.drop (k+1)):=by rw[<-List.drop_eq_getElem_cons hk,List.take_append_drop]
  have h3:=congrArg List.reverse h2;rw[List.reverse_append,List.reverse_cons,List.append_assoc] at h3;simp
 rw[e,List.find?_append,List.find?_eq_none.2 fun x hx=>?_]
 ·simp[h]
 ·obtain⟨i,hi,rfl⟩:=List.getElem_of_mem (List.mem_reverse.1 hx);rw[List.length_drop] at hi;simp only[List.getElem_drop,decide_eq_true_eq];exact hn _ (by omega) (by omega)
theorem five {α:Type} {a:Array α} (h:a.size=5):∃x0 x1 x2 x3 x4,a = #[x0,x1,x2,x3,x4]:=by
 obtain⟨l⟩:=a
 match l,h with
 | [x0,x1,x2,x3,x4],_=>exact⟨x0,x1,x2,x3,x4,rfl⟩
theorem ten {α:Type} {a:Array α} (h:a.size=10):∃x0 x1 x2 x3 x4 x5 x6 x7 x8 x9,a = #[x0,x1,x2,x3,x4,x5,x6,x7,x8,x9]:=by
 obtain⟨l⟩:=a
 match l,h with
 | [x0,x1,x2,x3,x4,x5,x6,x7,x8,x9],_=>exact⟨x0,x1,x2,x3,x4,x5,x6,x7,x8,x9,rfl⟩
theorem zT0 {F:Nat->Option Nat} {w:World} {v:Value} {l:List Nm2} (h:Rep F w v (.sl (wQ l))):∃a cap,∃us:Nat->Value,v = .slice a l.length cap/\NmsAt w.heap.size w v l.length us /\
  ∀(k:Nat) (hk:k<l.length),us (k*5) = .string l[k].1/\us (k*5+1) = .int .i64 l[k].2.form/\us (k*5+2) = .int .i64 l[k].2.num/\us (k*5+3) = .string l[k].2.nam/\Rep F w (us (k*5+4)) (.sl l[k].2.eArgs):=by
 have hln:(wQ l).length=l.length:=by simp[wQ]
 generalize hq:wQ l=q at h;cases h with
 | slNil=>exact⟨none,0,fun _ => .bool true,by rw[<-hln,hq];rfl,.inl ⟨by rw[<-hln,hq];rfl,none,0,rfl⟩,fun k hk=>by rw[<-hln,hq] at hk;simp at hk⟩
 | slZ a=>exact⟨some a,0,fun _ => .bool true,by rw[<-hln,hq];rfl,.inl ⟨by rw[<-hln,hq];rfl,some a,0,rfl⟩,fun k hk=>by rw[<-hln,hq] at hk;simp at hk⟩
 | sl b off n cap sz _ us hn hc hsz hcl hcell hrep =>
  rw[<-hq,hln] at hn;subst hn;rcases Nat.eq_zero_or_pos l.length with h0|h0
  ·exact⟨_,cap,us,rfl,.inl ⟨h0,_,cap,by rw[h0]⟩,fun k hk=>by omega⟩
  ·have hm:eNa l[0]∈q:=by rw[<-hq];exact List.mem_map.2 ⟨_,List.getElem_mem h0,rfl⟩
   have h5:sz=5:=(hsz _ hm).symm;subst h5;have hb:b<w.heap.size:=by
    have h1:=(hcell 0 (by omega)).1;simp only[World.cell?] at h1;rcases Nat.lt_or_ge b w.heap.size with h2|h2
    ·exact h2
    ·rw[Array.getElem?_eq_none h2] at h1;simp at h1
   refine⟨_,cap,us,rfl,.inr ⟨b,off,cap,rfl,hb,fun j hj=>(hcell j hj).1⟩,fun k hk=>?_⟩;have hg:q[k]? = some (eNa l[k]):=by rw[<-hq];simp[wQ,hk]
   have r0:=hrep k _ 0 _ hg rfl;have r1:=hrep k _ 1 _ hg rfl;have r2:=hrep k _ 2 _ hg rfl;have r3:=hrep k _ 3 _ hg rfl;have r4:=hrep k _ 4 _ hg rfl;exact⟨r0.lit_eq.1,r1.lit_eq.1,r2.lit_eq.1,r3.lit_eq.1,r4⟩
theorem zFL {w:Wd} {c:Cr} (hl:w.env.length<1000000000):(∀t,zAP w.env c.s=some t->zC Tryz.prog 116 [eW w,eC c] (eTy t))/\(zAP w.env c.s=none->wM Tryz.prog 116 [eW w,eC c] jS):=by
 have key:∀F W (vs:List Value),Fresh F W->zAJ F W vs [eW w,eC c] []->Calls Tryz.prog 116 vs.toArray W fun e W'=>RowKit.Below W.heap.size W W' /\
   ((e = .panicked (zJ5 jS)/\zAP w.env c.s=none)∨∃v t,zAP w.env c.s=some t/\e = .returned v/\Rep F W v (eTy t)):=fun F W vs hfr ha=>by
  have hlen:=ha.len
  match vs,hlen with
  | [v0,v1],_ =>
   obtain⟨cs0,rfl,s0,-,q0⟩:=(ha.rep 0 v0 _ rfl rfl).agg_eq;obtain⟨cs1,rfl,s1,-,q1⟩:=(ha.rep 1 v1 _ rfl rfl).agg_eq;obtain⟨x0,x1,x2,x3,x4,rfl⟩:=five s0;obtain⟨y0,y1,y2,y3,y4,y5,y6,y7,y8,y9,rfl⟩:=ten s1;obtain⟨a,cap,us,e1,hI,hus⟩:=zT0 (q0 1 x1 _ rfl rfl);have ey:y2 = .string c.s:=(q1 2 y2 _ rfl rfl).lit_eq.1;subst e1;subst ey;have hsl:∀(k:Nat) (hk:k<w.env.length),∃A ln cp,us (k*5+4) = .slice A ln cp:=fun k hk=>by
    obtain⟨A,cp,e,_⟩:=(hus k hk).2.2.2.2.sl_shape;exact⟨A,_,cp,e⟩
   refine ((callsIn_wide (n:=6)).1 (zXZ Fence.wide 6 trivial trivial trivial rfl (Nat.le_refl _) W x0 x2 x3 x4 y0 y1 y3 y4 y5 y6 y7 y8 y9 a cap c.s w.env.length us (fun k=>if h:k<w.env.length then w.env[k].1 else .empty) (fun k=>if h:k<w.env.length then w.env[k].2.nam else .empty) (fun k=>if h:k<w.env.length then w.env[k].2.form else 0) (fun k=>if h:k<w.env.length then w.env[k].2.num else 0)
    (fun k=>match us (k*5+4) with | .slice A _ _=>A|_=>none) (fun k=>match us (k*5+4) with | .slice _ ln _=>ln|_=>0) (fun k=>match us (k*5+4) with | .slice _ _ cp=>cp|_=>0) hI hl fun k hk=>?_)).mono fun e W' hp=>⟨hp.2,?_⟩
   ·obtain⟨h0,h1,h2,h3,h4⟩:=hus k hk;obtain⟨A,ln,cp,e⟩:=hsl k hk;rw[h0,h1,h2,h3,e,dif_pos hk,dif_pos hk,dif_pos hk,dif_pos hk];exact⟨rfl,rfl,rfl,rfl,rfl⟩
   ·rcases hp.1 with⟨rfl,h⟩|⟨k,hk,h1,h2,rfl⟩
    ·refine .inl ⟨rfl,?_⟩;unfold zAP;rw[List.find?_eq_none.2 fun x hx=>?_]
     ·rfl
     ·obtain⟨k,hk,rfl⟩:=List.getElem_of_mem (List.mem_reverse.1 hx);have:=h k hk;rw[dif_pos hk] at this;simpa using this
    ·refine .inr ⟨_,w.env[k].2,?_,rfl,?_⟩
     ·rw[dif_pos hk] at h1;exact zCM hk h1 fun j hj hjl=>by have:=h2 j hj hjl;rw[dif_pos hjl] at this;exact this
     ·obtain⟨h0,h1,h2,h3,h4⟩:=hus k hk;rw[h1,h2,h3];refine .agg _ _ rfl (fun c hc=>?_) fun j u c hu hc=>?_
      ·simp only[List.mem_cons,List.not_mem_nil,or_false] at hc;rcases hc with rfl|rfl|rfl|rfl<;>rfl
      ·match j,hu,hc with
       | 0,hu,hc=>cases hu;cases hc;exact .lit _ rfl
       | 1,hu,hc=>cases hu;cases hc;exact .lit _ rfl
       | 2,hu,hc=>cases hu;cases hc;exact .lit _ rfl
       | 3,hu,hc=>cases hu;cases hc;exact h4
 refine⟨fun t ht=>zUI ⟨_,Tryz.func116,rfl,rfl⟩ fun F W vs hfr ha=>(key F W vs hfr ha).mono fun e W' hp=>⟨hp.1,?_⟩,fun hn=>zPW ⟨_,Tryz.func116,rfl,rfl⟩ fun F W vs hfr ha=>(key F W vs hfr ha).mono fun e W' hp=>⟨hp.1,?_⟩⟩
 ·rcases hp.2 with⟨_,h⟩|⟨v,t',h1,h2,h3⟩
  ·rw[ht] at h;cases h
  ·rw[ht] at h1;cases h1;exact⟨v,h2,h3⟩
 ·rcases hp.2 with⟨h,_⟩|⟨v,t',h1,_⟩
  ·exact h
  ·rw[hn] at h1;cases h1
theorem zS1 {F F':Nat->Option Nat} {w w':World} {b:Nat} {o:HO} (h:HoOk F w b o) (hb:w'.heap[b]? = w.heap[b]?) (kp:Keeps F w F' w') (hm:∀l s,o≠.it l s) (hr:∀p,o≠.raw p):HoOk F' w' b o:=by
 cases o with
 | cells l=>obtain⟨cs,E,h1,h2⟩:=h;exact⟨cs,E,hb.trans h1,⟨h2.1,fun j v c hv hc=>⟨(h2.2 j v c hv hc).1.mono kp,(h2.2 j v c hv hc).2⟩⟩⟩
 | mp l=>obtain⟨es,clock,h1,h2,h3⟩:=h;exact⟨es,clock,hb.trans h1,h2,h3.1,fun j e p he hp=>⟨(h3.2 j e p he hp).1.mono kp,(h3.2 j e p he hp).2.mono kp⟩⟩
 | it l s=>exact absurd rfl (hm l s)
 | raw p=>exact absurd rfl (hr p)
def CellsL (h:List (Nat×HO)):Prop := ∀x∈h,∃l,x.2 = .cells l
theorem CellsL.keep {h:List (Nat×HO)} (hc:CellsL h) {F F':Nat->Option Nat} {w w':World} (hh:HeapIn F w h) (hF:∀b∈keys h,F' b=some 0) (hb:∀b∈keys h,w'.heap[b]? = w.heap[b]?) (kp:Keeps F w F' w'):HeapIn F' w' h :=
 ⟨hh.nodup,hF,fun x hx=>by
  obtain⟨l,e⟩:=hc x hx;exact zS1 (hh.ok x hx) (hb x.1 (List.mem_map.2 ⟨x,hx,rfl⟩)) kp (fun _ _ h=>by rw[e] at h;cases h) (fun _ h=>by rw[e] at h;cases h)⟩
theorem zHH {F:Nat->Option Nat} {w:World} {h:List (Nat×HO)} (hh:HeapIn F w h):∀b∈keys h,b<w.heap.size:=fun b hb=>by
 obtain⟨x,hx,rfl⟩:=List.mem_map.1 hb;exact (hh.ok x hx).lt
theorem zS4 {n:Nat} (he:Fp.Enters Tryz.prog n) {cap:Array Value} {hin:List (Nat×HO)} (hcl:CellsL hin) (hone:(Value.func (.func n) #[] cap).oneCell'=true) (hc:∀F w,Fresh F w->HeapIn F w hin->Calls Tryz.prog n cap w fun e w'=>e = .panicked (zJ5 jS)/\RowKit.Below w.heap.size w w') :
  CallsG Tryz.prog (fnv 40) hin [.lit (.func (.func n) #[] cap)] [] fun r o h=>r = .lit (.int .i64 50)/\o=0/\h=hin:=by
 refine⟨40,#[],#[],rfl,⟨_,Tryz.func40,rfl,rfl⟩,fun F w vs hfr hh ha hy=>?_⟩;have hlen:=ha.len
 match vs,hlen with
 | [v],_ =>
  have hv:=(ha.rep 0 v _ rfl rfl).lit_eq.1;subst hv;rw[show ((#[]:Array Value)++[Value.func (.func n) #[] cap].toArray ++ #[]) = #[.func (.func n) #[] cap] by simp,show zY [Value.func (.func n) #[] cap] []=[] from rfl];have hw1:(w.alloc (.cells #[.int .i64 0] 39)).heap[w.heap.size]? = some (.cells #[.int .i64 0] 39 (0,0)):=World.heap_alloc_new w _;have hsz:(w.alloc (.cells #[.int .i64 0] 39)).heap.size=w.heap.size+1:=by simp
  have hB1:RowKit.Below w.heap.size w (w.alloc (.cells #[.int .i64 0] 39)):=(RowKit.Below.refl _ w).alloc (Nat.le_refl _) _;have kp1:Keeps F w F (w.alloc (.cells #[.int .i64 0] 39)):=(Grow.alloc w _).keeps (fun b hb=>rfl);have hh1:HeapIn F (w.alloc (.cells #[.int .i64 0] 39)) hin:=hcl.keep hh hh.shut (fun b hb=>hB1.block b (zHH hh b hb)) kp1;refine (zLT he cap w (R:=fun w'=>RowKit.Below (w.heap.size+1) (w.alloc (.cells #[.int .i64 0] 39)) w') ?_).mono ?_
  ·refine (hc F _ (fun b hb=>hfr b (by rw[hsz] at hb;omega)) hh1).mono fun e w' hp=>⟨hp.1,?_,by rw[hsz] at hp;exact hp.2⟩
   rw[hp.2.block w.heap.size (by rw[hsz];omega)];exact hw1
  ·rintro e w2 ⟨rfl,w1,hR,rfl⟩;have hB:RowKit.Below w.heap.size w ((w1.alloc (.cells #[] 119)).setCell ⟨w.heap.size,0,none⟩ (.int .i64 50)) :=
    ((hB1.trans (hR.mono (by omega))).alloc (by have:=hR.size;rw[hsz] at this;omega) _).setCell (Nat.le_refl _) _
   have hk0:Kept F (keys hin) [] w w:=⟨rfl,rfl,rfl,Nat.le_refl _,fun b hb => .inr (.inr rfl)⟩
   have hx:zQS F F w []:=fun b hb => .inl rfl;have kp:Keeps F w F ((w1.alloc (.cells #[] 119)).setCell ⟨w.heap.size,0,none⟩ (.int .i64 50)):=by
    have hk1:Kept F (keys []) [] w w:=⟨rfl,rfl,rfl,Nat.le_refl _,fun b hb => .inr (.inr rfl)⟩
    exact (hk1.below hB).keeps hx (fun b hb=>by simp[keys] at hb)
   exact⟨_,_,0,hin,F,rfl,⟨rfl,rfl,rfl⟩,.lit _ rfl,fun sz h=>by omega,hk0.below hB,hx,fun b hb=>hfr b (Nat.le_trans hB.size hb),hcl.keep hh hh.shut (fun b hb=>hB.block b (zHH hh b hb)) kp,fun b hb => .inl hb⟩
theorem zRU {n:Nat} (he:Fp.Enters Tryz.prog n) {cap:Array Value} {hin hout:List (Nat×HO)} (hcl:CellsL hin) (hcl2:CellsL hout) (hone:(Value.func (.func n) #[] cap).oneCell'=true) (hc:∀F w,Fresh F w->HeapIn F w hin->Calls Tryz.prog n cap w (wI F (keys hin) [] w fun r o h=>r = .tup []/\o=0/\h=hout)) (hkeys:∀b∈keys hout,b∈keys hin) :
  CallsG Tryz.prog (fnv 40) hin [.lit (.func (.func n) #[] cap)] [] fun r o h=>r = .lit (.int .i64 0)/\o=0/\h=hout:=by
 refine⟨40,#[],#[],rfl,⟨_,Tryz.func40,rfl,rfl⟩,fun F w vs hfr hh ha hy=>?_⟩;have hlen:=ha.len
 match vs,hlen with
 | [v],_ =>
  have hv:=(ha.rep 0 v _ rfl rfl).lit_eq.1;subst hv;rw[show ((#[]:Array Value)++[Value.func (.func n) #[] cap].toArray ++ #[]) = #[.func (.func n) #[] cap] by simp,show zY [Value.func (.func n) #[] cap] []=[] from rfl];have hw1:(w.alloc (.cells #[.int .i64 0] 39)).heap[w.heap.size]? = some (.cells #[.int .i64 0] 39 (0,0)):=World.heap_alloc_new w _;have hsz:(w.alloc (.cells #[.int .i64 0] 39)).heap.size=w.heap.size+1:=by simp
  have hB1:RowKit.Below w.heap.size w (w.alloc (.cells #[.int .i64 0] 39)):=(RowKit.Below.refl _ w).alloc (Nat.le_refl _) _;have kp1:Keeps F w F (w.alloc (.cells #[.int .i64 0] 39)):=(Grow.alloc w _).keeps (fun b hb=>rfl);have hh1:HeapIn F (w.alloc (.cells #[.int .i64 0] 39)) hin:=hcl.keep hh hh.shut (fun b hb=>hB1.block b (zHH hh b hb)) kp1;have hlt:=zHH hh;refine (zPQ he cap w (R:=fun w' => ∃F',Kept F (keys hin) [] (w.alloc (.cells #[.int .i64 0] 39)) w'/\zQS F F' (w.alloc (.cells #[.int .i64 0] 39)) []/\Fresh F' w'/\HeapIn F' w' hout/\w'.heap[w.heap.size]? = some (.cells #[.int .i64 0] 39 (0,0))) ?_).mono ?_
  ·refine (hc F _ (fun b hb=>hfr b (by rw[hsz] at hb;omega)) hh1).mono fun e w' hp=>?_;obtain⟨v,r,o,h,F',rfl,⟨rfl,rfl,rfl⟩,p1,p2,p3,p4,p5,p6,p7⟩:=hp;obtain⟨cs,rfl,hcs,_⟩:=p1.tup_eq;have e0:cs = #[]:=Array.eq_empty_of_size_eq_zero (by simpa using hcs);have hb:w'.heap[w.heap.size]? = some (.cells #[.int .i64 0] 39 (0,0)):=by
    rcases p3.block w.heap.size (by rw[hsz];omega) with h|⟨h,_⟩|h
    ·have:=hlt _ h;omega
    ·simp at h
    ·rw[h];exact hw1
   exact⟨by rw[e0],hb,F',p3,p4,p5,p6,hb⟩
  ·rintro e w2 ⟨rfl,w1,⟨F',p3,p4,p5,p6,hb⟩,rfl⟩;have hne:∀b,b<w.heap.size->(w1.setCell ⟨w.heap.size,0,none⟩ (.int .i64 0)).heap[b]? = w1.heap[b]?:=fun b hb=>RowKit.Below.heap_setCell _ _ _ _ (by show b≠w.heap.size;omega);have hcell:∀a,(w1.setCell ⟨w.heap.size,0,none⟩ (.int .i64 0)).cell? a=w1.cell? a:=fun a=>by
    by_cases e:(⟨w.heap.size,0,none⟩:Addr)=a
    ·subst e;have h1:w1.cell? ⟨w.heap.size,0,none⟩=some (.int .i64 0):=by simp[World.cell?,hb]
     rw[World.cell?_setCell_same' _ _ _ (by rw[h1];rfl),h1]
    ·exact World.cell?_setCell_other _ _ _ _ e
   have hsame:∀b,b≠w.heap.size->(w1.setCell ⟨w.heap.size,0,none⟩ (.int .i64 0)).heap[b]? = w1.heap[b]?:=fun b hb=>RowKit.Below.heap_setCell _ _ _ _ hb;have kp:Keeps F' w1 F' (w1.setCell ⟨w.heap.size,0,none⟩ (.int .i64 0)):=⟨fun b k u h c=>⟨by rw[hcell];exact h,c⟩,fun b es c h hc=>⟨by
    rw[hsame b (fun e=>by rw[e,hb] at h;cases h)];exact h,hc⟩⟩
   have hsz2:(w1.setCell ⟨w.heap.size,0,none⟩ (.int .i64 0)).heap.size=w1.heap.size:=by simp[World.setCell]
   refine⟨_,_,0,hout,F',rfl,⟨rfl,rfl,rfl⟩,.lit _ rfl,fun sz h=>by omega,⟨?_,?_,?_,?_,fun b hlt2=>?_⟩,fun b hlt2=>p4 b (by rw[hsz];omega),fun b hb2=>p5 b (by rw[hsz2] at hb2;exact hb2),hcl2.keep p6 p6.shut (fun b hb2=>hne b (hlt b (hkeys b hb2))) kp,fun b hb2 => .inl (hkeys b hb2)⟩
   ·exact p3.os
   ·exact p3.tape
   ·exact p3.output
   ·have:=p3.size;rw[hsz] at this;rw[hsz2];omega
   ·rw[hne b hlt2];rcases p3.block b (by rw[hsz];omega) with h|⟨h,_⟩|h
    ·exact .inl h
    ·simp at h
    ·exact .inr (.inr (h.trans (hB1.block b hlt2)))
def wX:Tp->List ByteArray->Option (List ByteArray×Tp)
 | .all s a,vs=>if s∈vs then none else wX a (vs++[s])
 | t,vs=>some (vs,t)
def yK:Nat->Tp->Option (List Tp×Tp)
 | 0,t=>some ([],t)
 | n+1,t=>if (partsOf t).2.2=true then (yK n (partsOf t).2.1).map (fun q=>((partsOf t).1::q.1,q.2)) else none
def yQ (f:Fd):Option (List Tp×ByteArray×List ByteArray):=match wX f.t [] with
 | none=>none
 | some (vs,t)=>match yK f.ar.toNat t with
  | none=>none
  | some (l,u)=>if (xW u).form=3/\(zI u).reverse=vs.map Tp.var then some (l,(xW u).nam,vs) else none
theorem zA4 {t:Tp} {vs:List ByteArray} (h:¬t.form=5):wX t vs=some (vs,t):=by cases t<;>first|rfl|exact absurd rfl h
theorem yX {s:ByteArray} {a:Tp} {vs:List ByteArray}:wX (.all s a) vs=if s∈vs then none else wX a (vs++[s]):=rfl
theorem zD1:∀(n:Nat) (t:Tp) (q:List Tp×Tp),yK n t=some q->q.1.length=n
 | 0,t,q,h=>by cases h;rfl
 | n+1,t,q,h=>by
  simp only[yK] at h;split at h
  ·cases hq:yK n (partsOf t).2.1 with
   | none=>rw[hq] at h;cases h
   | some r=>rw[hq] at h;cases h;simp[zD1 n _ r hq]
  ·cases h
theorem isVarP {x:Tp} {v:ByteArray}:(x.form=2/\x.nam=v)↔x = .var v:=by
 cases x<;>simp[Tp.form,Tp.nam]
abbrev St1 (f:Fd):={p:List ByteArray×Tp // wX p.2 p.1=wX f.t []/\p.1.length+dp p.2<=dp f.t}
abbrev St2 (f:Fd) (t:Tp):={p:List Tp×Tp // p.1.length<=f.ar.toNat/\(yK (f.ar.toNat-p.1.length) p.2).map (fun q=>(p.1++q.1,q.2))=yK f.ar.toNat t}
theorem zN3 {f:Fd} {l:List Tp} {n:ByteArray} {vs:List ByteArray} (hs:yQ f=some (l,n,vs)) (hd:dp f.t<1000000) (ha:f.ar<=1000000):zC Tryz.prog 154 [eFd f] (.tup [.sl (zJ l),.lit (.string n),.sl (eSs vs)]):=by
 obtain⟨t0,hA⟩:∃t0,wX f.t []=some (vs,t0):=by
  unfold yQ at hs;split at hs
  ·cases hs
  ·rename_i vs' t0 hA;split at hs
   ·cases hs
   ·split at hs
    ·cases hs;exact⟨t0,hA⟩
    ·cases hs
 obtain⟨u,hF⟩:∃u,yK f.ar.toNat t0=some (l,u):=by
  unfold yQ at hs;rw[hA] at hs;simp only at hs;split at hs
  ·cases hs
  ·rename_i l' u hF;split at hs
   ·cases hs;exact⟨u,hF⟩
   ·cases hs
 have hS:(xW u).form=3/\(zI u).reverse=vs.map Tp.var/\n=(xW u).nam:=by
  unfold yQ at hs;rw[hA] at hs;simp only[hF] at hs;split at hs
  ·rename_i h;cases hs;exact⟨h.1,h.2,rfl⟩
  ·cases hs
 obtain⟨hS1,hS2,rfl⟩:=hS;have hll:=zD1 _ _ _ hF;simp only at hll;refine zB ttok mixed Tryz.func154 rfl (by rfl) (Nat.le_of_ble_eq_true rfl) (by kernel_rfl) ?_;refine⟨St1 f,fun p=>{vs:=[(1,.box 0 (eFd f)),(2,.v (.sl [])),(3,.v (.lit (.string ⟨#[]⟩))),(4,.v (.sl (eSs p.1.1))),(5,.box 0 (eTy p.1.2))],ow:=[(2,0,5),(4,0,2)]},fun p=>p.1.2.sz,⟨([],f.t),rfl,by simp⟩,⟨⟨rfl,rfl,rfl,rfl,rfl,trivial⟩,⟨trivial,trivial,trivial⟩,rfl⟩,?_⟩;rintro⟨⟨ws,cur⟩,hp,hlen⟩;simp only at hp hlen;refine⟨fun h=>?_,fun h=>?_⟩
 ·obtain⟨s,a,rfl⟩:=Tp.is_all (t:=cur) (by simpa using h);have hns:s∉ws:=fun hm=>by rw[yX,if_pos hm,hA] at hp;cases hp
  rw[yX,if_neg hns] at hp;simp only[dp] at hlen;refine .inl ⟨_,yP (l:=ws) (s:=s) (by omega),?_⟩;refine .inl ⟨_,yF (by rw[xQ hns];rfl),?_⟩;refine⟨by simp[eSs];omega,xH _,xH [_],?_⟩;refine⟨eTy a,by omega,rfl,rfl,?_⟩;exact⟨⟨(ws++[s],a),hp,by simp;omega⟩,by simp only[Tp.sz];omega,⟨rfl,rfl,rfl,congrArg (fun l=>SV.v (AV.sl l)) (zB3 ws s),rfl,trivial⟩,⟨rfl,rfl,trivial⟩,rfl⟩
 have h5:¬cur.form=5:=by simpa using h
 rw[zA4 h5,hA] at hp;cases hp
 clear h h5;refine⟨St2 f t0,fun p=>{vs:=[(2,.v (.sl (zJ p.1.1))),(4,.v (.sl (eSs vs))),(5,.box 0 (eTy p.1.2)),(34,sv f.ar),(35,sv (p.1.1.length:Nat))],ow:=[(2,0,5),(4,0,2)]},fun p=>f.ar.toNat-p.1.1.length,⟨([],t0),by simp,by simp⟩,⟨⟨rfl,rfl,rfl,rfl,rfl,trivial⟩,⟨rfl,rfl,trivial⟩,rfl⟩,?_⟩;rintro⟨⟨ls,cur⟩,hp1,hp2⟩;simp only at hp1 hp2;refine⟨fun h=>?_,fun h=>?_⟩
 ·have h:ls.length<f.ar.toNat:=by have h:=of_decide_eq_true h;simp only at h;omega
  rw[show f.ar.toNat-ls.length=(f.ar.toNat-(ls.length+1))+1 by omega] at hp2;have hf:(partsOf cur).2.2=true:=Classical.byContradiction fun hn=>by
   simp only[yK,if_neg hn,Option.map_none,hF] at hp2;cases hp2
  simp only[yK,if_pos hf,Option.map_map] at hp2;refine .inl ⟨_,split_ok cur,?_⟩;refine .inl ⟨_,yF hf,?_⟩;refine⟨by simp[zJ];omega,zAW _,zAW [_],?_⟩;refine⟨by kernel_rfl,?_⟩;refine⟨⟨(ls++[(partsOf cur).1],(partsOf cur).2.1),by simp;omega,?_⟩,by simp;omega,⟨?_,rfl,rfl,rfl,?_,trivial⟩,⟨rfl,rfl,trivial⟩,rfl⟩
  ·rw[<-hp2];simp only[List.length_append,List.length_cons,List.length_nil,Nat.zero_add]
   congr 1
   funext q
   simp
  ·show _=SV.v (AV.sl (zJ (ls++[(partsOf cur).1])));rw[show zJ (ls++[(partsOf cur).1])=zJ ls++[eTy (partsOf cur).1] by simp[zJ]];exact rfl
  ·simp only[List.length_append,List.length_cons,List.length_nil,Nat.zero_add];exact svc (wrap_succ (k:=ls.length) (by omega))
 have h:ls.length=f.ar.toNat:=by have h:=of_decide_eq_false h;simp only at h;omega
 rw[h,Nat.sub_self] at hp2;simp only[yK,Option.map_some,List.append_nil,hF,Option.some.injEq] at hp2;cases hp2
 have hlv:(zI u).length=vs.length:=by have:=congrArg List.length hS2;simpa using this
 have hvl:vs.length<1000000:=by omega
 refine .inl ⟨_,zCG u (by omega),?_⟩;refine⟨fun _=>?_,fun h=>absurd hS1 (of_decide_eq_false h)⟩;refine .inl ⟨_,yF (decide_eq_true (by simp[zJ,eSs,hlv])),?_⟩;rw[hS2];have hlm:(zJ (vs.map Tp.var)).length=vs.length:=by simp[zJ]
 refine⟨{k:Nat // k<=vs.length},fun k=>{vs:=[(2,.v (.sl (zJ l))),(4,.v (.sl (eSs vs))),(9,.box 0 (eTy (xW u))),(67,.v (.sl (zJ (vs.map Tp.var)))),(68,sv (vs.length:Nat)),(69,sv (k.1:Nat))]},fun k=>vs.length-k.1,⟨0,Nat.zero_le _⟩,⟨⟨rfl,rfl,rfl,rfl,svc (by rw[hlm]),rfl,trivial⟩,trivial,rfl⟩,?_⟩;rintro⟨k,hk⟩;refine⟨fun h=>?_,fun h=>?_⟩
 ·have h:k<vs.length:=by have h:=of_decide_eq_true h;simp only at h;omega
  refine⟨eTy (.var vs[k]),by omega,by simp[zJ,h],rfl,?_⟩;refine⟨fun _=>?_,fun h=>(by cases h)⟩;refine⟨_,by omega,zBI h,rfl,?_⟩;refine .inl ⟨_,yF (decide_eq_true rfl),?_⟩;refine⟨by kernel_rfl,?_⟩;exact⟨⟨k+1,h⟩,by simp;omega,⟨rfl,rfl,rfl,rfl,rfl,svc (wrap_succ (k:=k) (by omega)),trivial⟩,trivial,rfl⟩
 refine⟨by kernel_rfl,?_⟩;exact rfl
abbrev St3 (f:Fd):={p:List ByteArray×Tp // wX p.2 p.1=none/\p.1.length+dp p.2<=dp f.t}
abbrev St4 (f:Fd) (t:Tp):={p:List Tp×Tp // p.1.length<=f.ar.toNat/\yK (f.ar.toNat-p.1.length) p.2=none}
theorem zQB {f:Fd} (hs:wX f.t []=none) (hd:dp f.t<1000000) (ha:f.ar<=1000000):wM Tryz.prog 154 [eFd f] jS:=by
 refine yM ttok mixed Tryz.func154 rfl (by rfl) (Nat.le_of_ble_eq_true rfl) (by kernel_rfl) ?_;refine WsemQ.seq ttok mixed ?_;refine WsemQ.seq ttok mixed ?_;refine WsemQ.seqS (WsemQ.block (WsemQ.loop (α:=St3 f) (fun p=>{vs:=[(1,.box 0 (eFd f)),(2,.v (.sl [])),(3,.v (.lit (.string ⟨#[]⟩))),(4,.v (.sl (eSs p.1.1))),(5,.box 0 (eTy p.1.2))],ow:=[(2,0,5),(4,0,2)]}) (fun p=>p.1.2.sz) ⟨([],f.t),hs,by simp⟩ ⟨⟨rfl,rfl,rfl,rfl,rfl,trivial⟩,⟨trivial,trivial,trivial⟩,rfl⟩ ?_));rintro⟨⟨ws,cur⟩,hp,hlen⟩;simp only at hp hlen;refine WsemQ.seq ttok mixed ?_;refine⟨fun h=>?_,fun h=>?_⟩
 ·obtain⟨s,a,rfl⟩:=Tp.is_all (t:=cur) (by simpa using h);simp only[dp] at hlen;refine WsemQ.seqS (WsemQ.block ?_);by_cases hns:s∈ws
  ·refine WsemQ.seqS (WsemQ.region ttok 5 ?_);refine .inl ⟨_,yP (l:=ws) (s:=s) (by omega),?_⟩;exact zAR (by rw[yO hns];rfl)
  ·rw[yX,if_neg hns] at hp;refine WsemQ.of ttok mixed ?_;refine .inl ⟨_,yP (l:=ws) (s:=s) (by omega),?_⟩;refine .inl ⟨_,yF (by rw[xQ hns];rfl),?_⟩;refine⟨by simp[eSs];omega,xH _,xH [_],?_⟩;refine WsemQ.of ttok mixed ?_;refine⟨eTy a,by omega,rfl,rfl,?_⟩;exact⟨⟨(ws++[s],a),hp,by simp;omega⟩,by simp only[Tp.sz];omega,⟨rfl,rfl,rfl,congrArg (fun l=>SV.v (AV.sl l)) (zB3 ws s),rfl,trivial⟩,⟨rfl,rfl,trivial⟩,rfl⟩
 ·exfalso;have h5:¬cur.form=5:=by simpa using h
  rw[zA4 h5] at hp;cases hp
theorem zRA {f:Fd} {vs:List ByteArray} {t0:Tp} (hA:wX f.t []=some (vs,t0)) (hF:yK f.ar.toNat t0=none) (hd:dp f.t<1000000) (ha:f.ar<=1000000):wM Tryz.prog 154 [eFd f] jS:=by
 refine yM ttok mixed Tryz.func154 rfl (by rfl) (Nat.le_of_ble_eq_true rfl) (by kernel_rfl) ?_;refine WsemQ.seq ttok mixed ?_;refine WsemQ.seq ttok mixed ?_;refine WsemQ.seq ttok mixed ?_;refine⟨St1 f,fun p=>{vs:=[(1,.box 0 (eFd f)),(2,.v (.sl [])),(3,.v (.lit (.string ⟨#[]⟩))),(4,.v (.sl (eSs p.1.1))),(5,.box 0 (eTy p.1.2))],ow:=[(2,0,5),(4,0,2)]},fun p=>p.1.2.sz,⟨([],f.t),rfl,by simp⟩,⟨⟨rfl,rfl,rfl,rfl,rfl,trivial⟩,⟨trivial,trivial,trivial⟩,rfl⟩,?_⟩;rintro⟨⟨ws,cur⟩,hp,hlen⟩;simp only at hp hlen;refine⟨fun h=>?_,fun h=>?_⟩
 ·obtain⟨s,a,rfl⟩:=Tp.is_all (t:=cur) (by simpa using h);have hns:s∉ws:=fun hm=>by rw[yX,if_pos hm,hA] at hp;cases hp
  rw[yX,if_neg hns] at hp;simp only[dp] at hlen;refine .inl ⟨_,yP (l:=ws) (s:=s) (by omega),?_⟩;refine .inl ⟨_,yF (by rw[xQ hns];rfl),?_⟩;refine⟨by simp[eSs];omega,xH _,xH [_],?_⟩;refine⟨eTy a,by omega,rfl,rfl,?_⟩;exact⟨⟨(ws++[s],a),hp,by simp;omega⟩,by simp only[Tp.sz];omega,⟨rfl,rfl,rfl,congrArg (fun l=>SV.v (AV.sl l)) (zB3 ws s),rfl,trivial⟩,⟨rfl,rfl,trivial⟩,rfl⟩
 have h5:¬cur.form=5:=by simpa using h
 rw[zA4 h5,hA] at hp;cases hp
 clear h h5;refine WsemQ.seqS (WsemQ.seqS (WsemQ.of ttok mixed ?_));refine WsemQ.block (WsemQ.loop (α:=St4 f t0) (fun p=>{vs:=[(2,.v (.sl (zJ p.1.1))),(4,.v (.sl (eSs vs))),(5,.box 0 (eTy p.1.2)),(34,sv f.ar),(35,sv (p.1.1.length:Nat))],ow:=[(2,0,5),(4,0,2)]}) (fun p=>f.ar.toNat-p.1.1.length) ⟨([],t0),by simp,hF⟩ ⟨⟨rfl,rfl,rfl,rfl,rfl,trivial⟩,⟨rfl,rfl,trivial⟩,rfl⟩ ?_);rintro⟨⟨ls,cur⟩,hp1,hp2⟩;simp only at hp1 hp2;refine WsemQ.seq ttok mixed ?_;refine WsemQ.seq ttok mixed ?_;refine⟨fun h=>?_,fun h=>?_⟩
 ·have h:ls.length<f.ar.toNat:=by have h:=of_decide_eq_true h;simp only at h;omega
  rw[show f.ar.toNat-ls.length=(f.ar.toNat-(ls.length+1))+1 by omega] at hp2;refine WsemQ.seqS (WsemQ.block ?_);refine WsemQ.seq ttok mixed ?_;refine .inl ⟨_,split_ok cur,?_⟩;by_cases hf:(partsOf cur).2.2=true
  ·simp only[yK,if_pos hf,Option.map_eq_none_iff] at hp2;refine WsemQ.of ttok mixed ?_;refine .inl ⟨_,yF hf,?_⟩;refine⟨by simp[zJ];omega,zAW _,zAW [_],?_⟩;refine⟨by kernel_rfl,?_⟩;refine WsemQ.of ttok mixed ?_;refine⟨⟨(ls++[(partsOf cur).1],(partsOf cur).2.1),by simp;omega,?_⟩,by simp;omega,⟨?_,rfl,rfl,rfl,?_,trivial⟩,⟨rfl,rfl,trivial⟩,rfl⟩
   ·simp only[List.length_append,List.length_cons,List.length_nil,Nat.zero_add];exact hp2
   ·show _=SV.v (AV.sl (zJ (ls++[(partsOf cur).1])));rw[show zJ (ls++[(partsOf cur).1])=zJ ls++[eTy (partsOf cur).1] by simp[zJ]];exact rfl
   ·simp only[List.length_append,List.length_cons,List.length_nil,Nat.zero_add];exact svc (wrap_succ (k:=ls.length) (by omega))
  ·refine WsemQ.seqS (WsemQ.region ttok 1 ?_);exact zAR (by simpa using hf)
 ·exfalso;have h:ls.length=f.ar.toNat:=by have h:=of_decide_eq_false h;simp only at h;omega
  rw[h,Nat.sub_self] at hp2;cases hp2
theorem zLA {α:Type}:∀{a b:List α},a.length=b.length->a≠b->∃k,∃(h1:k<a.length) (h2:k<b.length),a[k]≠b[k]/\∀(j:Nat) (h3:j<a.length) (h4:j<b.length),j<k->a[j]=b[j]
 | [],[],_,h=>absurd rfl h
 | x::a,y::b,hl,h=>by
  by_cases e:x=y
  ·obtain⟨k,h1,h2,h3,h4⟩:=zLA (a:=a) (b:=b) (by simpa using hl) (fun e2=>h (by rw[e,e2]));refine⟨k+1,by simp;omega,by simp;omega,by simpa using h3,fun j q1 q2 hj=>?_⟩
   match j with
   | 0=>simpa using e
   | j+1=>simpa using h4 j (by simpa using q1) (by simpa using q2) (by omega)
  ·exact⟨0,by simp,by simp,by simpa using e,fun j _ _ hj=>by omega⟩
theorem zPG {f:Fd} {vs:List ByteArray} {t0 u:Tp} {l:List Tp} (hA:wX f.t []=some (vs,t0)) (hF:yK f.ar.toNat t0=some (l,u)) (hb:¬((xW u).form=3/\(zI u).reverse=vs.map Tp.var)) (hu:(zI u).length<1000000) (hd:dp f.t<1000000) (ha:f.ar<=1000000):wM Tryz.prog 154 [eFd f] jS:=by
 have hll:=zD1 _ _ _ hF;simp only at hll;refine yM ttok mixed Tryz.func154 rfl (by rfl) (Nat.le_of_ble_eq_true rfl) (by kernel_rfl) ?_;refine WsemQ.seq ttok mixed ?_;refine WsemQ.seq ttok mixed ?_;refine WsemQ.seq ttok mixed ?_;refine⟨St1 f,fun p=>{vs:=[(1,.box 0 (eFd f)),(2,.v (.sl [])),(3,.v (.lit (.string ⟨#[]⟩))),(4,.v (.sl (eSs p.1.1))),(5,.box 0 (eTy p.1.2))],ow:=[(2,0,5),(4,0,2)]},fun p=>p.1.2.sz,⟨([],f.t),rfl,by simp⟩,⟨⟨rfl,rfl,rfl,rfl,rfl,trivial⟩,⟨trivial,trivial,trivial⟩,rfl⟩,?_⟩;rintro⟨⟨ws,cur⟩,hp,hlen⟩;simp only at hp hlen;refine⟨fun h=>?_,fun h=>?_⟩
 ·obtain⟨s,a,rfl⟩:=Tp.is_all (t:=cur) (by simpa using h);have hns:s∉ws:=fun hm=>by rw[yX,if_pos hm,hA] at hp;cases hp
  rw[yX,if_neg hns] at hp;simp only[dp] at hlen;refine .inl ⟨_,yP (l:=ws) (s:=s) (by omega),?_⟩;refine .inl ⟨_,yF (by rw[xQ hns];rfl),?_⟩;refine⟨by simp[eSs];omega,xH _,xH [_],?_⟩;refine⟨eTy a,by omega,rfl,rfl,?_⟩;exact⟨⟨(ws++[s],a),hp,by simp;omega⟩,by simp only[Tp.sz];omega,⟨rfl,rfl,rfl,congrArg (fun l=>SV.v (AV.sl l)) (zB3 ws s),rfl,trivial⟩,⟨rfl,rfl,trivial⟩,rfl⟩
 have h5:¬cur.form=5:=by simpa using h
 rw[zA4 h5,hA] at hp;cases hp
 clear h h5;refine WsemQ.seq ttok mixed ?_;refine⟨St2 f t0,fun p=>{vs:=[(2,.v (.sl (zJ p.1.1))),(4,.v (.sl (eSs vs))),(5,.box 0 (eTy p.1.2)),(34,sv f.ar),(35,sv (p.1.1.length:Nat))],ow:=[(2,0,5),(4,0,2)]},fun p=>f.ar.toNat-p.1.1.length,⟨([],t0),by simp,by simp⟩,⟨⟨rfl,rfl,rfl,rfl,rfl,trivial⟩,⟨rfl,rfl,trivial⟩,rfl⟩,?_⟩;rintro⟨⟨ls,cur⟩,hp1,hp2⟩;simp only at hp1 hp2;refine⟨fun h=>?_,fun h=>?_⟩
 ·have h:ls.length<f.ar.toNat:=by have h:=of_decide_eq_true h;simp only at h;omega
  rw[show f.ar.toNat-ls.length=(f.ar.toNat-(ls.length+1))+1 by omega] at hp2;have hf:(partsOf cur).2.2=true:=Classical.byContradiction fun hn=>by
   simp only[yK,if_neg hn,Option.map_none,hF] at hp2;cases hp2
  simp only[yK,if_pos hf,Option.map_map] at hp2;refine .inl ⟨_,split_ok cur,?_⟩;refine .inl ⟨_,yF hf,?_⟩;refine⟨by simp[zJ];omega,zAW _,zAW [_],?_⟩;refine⟨by kernel_rfl,?_⟩;refine⟨⟨(ls++[(partsOf cur).1],(partsOf cur).2.1),by simp;omega,?_⟩,by simp;omega,⟨?_,rfl,rfl,rfl,?_,trivial⟩,⟨rfl,rfl,trivial⟩,rfl⟩
  ·rw[<-hp2];simp only[List.length_append,List.length_cons,List.length_nil,Nat.zero_add]
   congr 1
   funext q
   simp
  ·show _=SV.v (AV.sl (zJ (ls++[(partsOf cur).1])));rw[show zJ (ls++[(partsOf cur).1])=zJ ls++[eTy (partsOf cur).1] by simp[zJ]];exact rfl
  ·simp only[List.length_append,List.length_cons,List.length_nil,Nat.zero_add];exact svc (wrap_succ (k:=ls.length) (by omega))
 have h:ls.length=f.ar.toNat:=by have h:=of_decide_eq_false h;simp only at h;omega
 rw[h,Nat.sub_self] at hp2;simp only[yK,Option.map_some,List.append_nil,hF,Option.some.injEq] at hp2;cases hp2
 have hvl:vs.length<1000000:=by omega
 refine WsemQ.seq ttok mixed ?_;refine .inl ⟨_,zCG u (by omega),?_⟩;by_cases h3:(xW u).form=3/\(zI u).length=vs.length
 ·refine WsemQ.seq ttok mixed ?_;refine⟨fun _=>?_,fun h=>absurd h3.1 (of_decide_eq_false h)⟩;refine .inl ⟨_,yF (decide_eq_true (by simp[zJ,eSs,h3.2])),?_⟩;have hne:(zI u).reverse≠vs.map Tp.var:=fun e=>hb ⟨h3.1,e⟩;obtain⟨m,h1,h2,hm,hok⟩:=zLA (a:=(zI u).reverse) (b:=vs.map Tp.var) (by simp[h3.2]) hne;have hlr:(zI u).reverse.length=vs.length:=by simp[h3.2]
  have hmv:m<vs.length:=by simpa using h2
  have hlm:(zJ (zI u).reverse).length=vs.length:=by rw[<-hlr];simp[zJ]
  refine WsemQ.seqS (WsemQ.seqS (WsemQ.of ttok mixed ?_));refine WsemQ.block (WsemQ.loop (α:={k:Nat // k<=m}) (fun k=>{vs:=[(2,.v (.sl (zJ l))),(4,.v (.sl (eSs vs))),(9,.box 0 (eTy (xW u))),(67,.v (.sl (zJ (zI u).reverse))),(68,sv (vs.length:Nat)),(69,sv (k.1:Nat))]}) (fun k=>m-k.1) ⟨0,Nat.zero_le _⟩ ⟨⟨rfl,rfl,rfl,rfl,svc (by rw[hlm]),rfl,trivial⟩,trivial,rfl⟩ ?_);rintro⟨k,hk⟩;refine WsemQ.seq ttok mixed ?_;refine WsemQ.seq ttok mixed ?_;refine⟨fun h=>?_,fun h=>absurd (of_decide_eq_false h) (by simp only;omega)⟩;have hkl:k<(zI u).reverse.length:=by omega
  refine WsemQ.seqS (WsemQ.block ?_);refine WsemQ.seq ttok mixed ?_;refine⟨eTy (zI u).reverse[k],by omega,zOF hkl,rfl,?_⟩;rcases Nat.lt_or_ge k m with hkm|hkm
  ·have hg:=hok k hkl (by simp;omega) hkm;simp only[List.getElem_map] at hg;rw[hg];refine WsemQ.of ttok mixed ?_;refine⟨fun _=>?_,fun h=>(by cases h)⟩;refine⟨_,by omega,zBI (l:=vs) (k:=k) (Nat.lt_trans hkm hmv),rfl,?_⟩;refine .inl ⟨_,yF (decide_eq_true rfl),?_⟩;refine⟨by kernel_rfl,?_⟩;refine WsemQ.of ttok mixed ?_;exact⟨⟨k+1,hkm⟩,by simp;omega,⟨rfl,rfl,rfl,rfl,rfl,svc (wrap_succ (k:=k) (by omega)),trivial⟩,trivial,rfl⟩
  ·obtain rfl:k=m:=by omega
   refine WsemQ.regionI ttok mixed 12 (by kernel_rfl) ?_;refine⟨fun hv=>?_,fun hv=>?_⟩
   ·refine⟨_,by omega,zBI hmv,rfl,?_⟩;refine⟨by kernel_rfl,zAR (decide_eq_false fun e=>hm ?_)⟩;simp only[List.getElem_map];exact isVarP.1 ⟨of_decide_eq_true hv,e⟩
   ·exact⟨by kernel_rfl,zAR rfl⟩
 ·refine WsemQ.seqS (WsemQ.region ttok 10 ?_);refine⟨fun h=>?_,fun h=>?_⟩
  ·refine zAR (decide_eq_false fun e=>h3 ⟨of_decide_eq_true h,?_⟩);have e2:((zI u).length:Int)=(vs.length:Int):=by simpa[zJ,eSs] using e
   omega
  ·exact zAR rfl
def wB (l:List Fd) (s:ByteArray):Option Fd:=l.find? fun f=>decide (f.nm=s)
theorem zCB:∀{l:List Fd} {s:ByteArray} {f:Fd},wB l s=some f->∃i,∃h:i<l.length,l[i]=f/\ixI (l.map Fd.nm) s=(i:Nat)
 | [],_,_,h=>by cases h
 | x::l,s,f,h=>by
  by_cases e:x.nm=s
  ·simp only[wB,List.find?_cons,decide_eq_true e] at h;cases h
   exact⟨0,by simp,rfl,by rw[List.map_cons,e];simp[ixI]⟩
  ·simp only[wB,List.find?_cons,decide_eq_false e] at h;obtain⟨i,h1,h2,h3⟩:=zCB h;have hm:s∈l.map Fd.nm:=by
    rw[ixI] at h3;split at h3
    ·assumption
    ·omega
   refine⟨i+1,by simp;omega,by simpa using h2,?_⟩;rw[List.map_cons,zHX e hm,h3];rfl
theorem zC5 {w:Wd} {s:ByteArray} {f:Fd} (hl:w.fs.length<10000000) (h:wB w.fs s=some f):zC Tryz.prog 141 [eW w,.lit (.string s)] (eFd f):=by
 obtain⟨i,h1,h2,h3⟩:=zCB h;rw[<-h2];exact zN8 w s hl h1 h3
abbrev Al:=(Int×Int×ByteArray)×List ByteArray×Cr
abbrev bys (vs:List ByteArray) (t:Tp):Env':=vs.zip (zI t).reverse
noncomputable def zM (xs:List ByteArray) (l:List Tp) (ps:Env'):List Nm2:=xs.zip (l.map fun t=>sub t ps)
noncomputable def zQ3 (w:Wd) (t:Tp) (a:Al):Option Wd :=
 if a.1.1=3 then some w else if a.1.1=2 then (if smb t (.con xI) [] []=true then some w else none)
 else if a.1.1=1 then (match wB w.fs a.1.2.2 with
  | none=>none
  | some f=>match yQ f with
   | none=>none
   | some (l,n,vs)=>if (xW t).form=3/\(xW t).nam=n/\(zI t).length=vs.length/\a.2.1.length=l.length/\a.2.1.Nodup then some (w.more (zM a.2.1 l (bys vs t))) else none)
 else none
theorem zRM {vs:List ByteArray} {l:List Tp} (h:vs.length=l.length):eN (vs.zip l)=eSs vs:=by
 simp only[eN,eSs];rw[show (vs.zip l).map (·.1)=vs from List.map_fst_zip (by omega)]
theorem zRH {vs:List ByteArray} {l:List Tp} (h:vs.length=l.length):eB (vs.zip l)=zJ l:=by
 simp only[eB,zJ];rw[show (vs.zip l).map (·.2)=l from List.map_snd_zip (by omega)]
theorem Wd.more_more (w:Wd) (a b:List Nm2):(w.more a).more b=w.more (a++b):=by simp[Wd.more]
theorem zJI (w:Wd):w.more []=w:=by simp[Wd.more]
theorem zEW {xs:List ByteArray} {l:List Tp} {ps:Env'} {k:Nat} (h1:k<xs.length) (h2:k<l.length):(zM xs l ps).take (k+1)=(zM xs l ps).take k++[(xs[k],sub l[k] ps)]:=by
 rw[List.take_succ_eq_append_getElem (by simp[zM];omega)];simp[zM]
theorem zNC {xs:List ByteArray} (h:xs.Nodup) {k:Nat} (hk:k<xs.length):xs[k]∉xs.take k:=fun hm=>by
 obtain⟨j,h1,h2⟩:=List.getElem_of_mem hm;rw[List.length_take] at h1;rw[List.getElem_take] at h2;exact List.pairwise_iff_getElem.1 h j k (by omega) hk (by omega) h2
theorem zXH (xs:List ByteArray) (k:Nat):List.drop (Int.toNat 0) (List.take (Int.toNat ((k:Nat):Int)) (eSs xs))=eSs (xs.take k):=by simp[eSs]
theorem zSO (w:Wd) (t:Tp) {a:Al} (h:a.1.1=3):zC Tryz.prog 144 [eW w,eTy t,eAl a] (eW w):=by
 refine zB ttok mixed Tryz.func144 rfl (by rfl) (Nat.le_of_ble_eq_true rfl) (by kernel_rfl) ?_;refine⟨fun _=>?_,fun hn=>absurd h (of_decide_eq_false hn)⟩;exact rfl
theorem z0R {w:Wd} {t:Tp} {a:Al} (h:a.1.1=2) (hd:dp t<1000000000) (hs:smb t (.con xI) [] []=true):zC Tryz.prog 144 [eW w,eTy t,eAl a] (eW w):=by
 refine zB ttok mixed Tryz.func144 rfl (by rfl) (Nat.le_of_ble_eq_true rfl) (by kernel_rfl) ?_;refine⟨fun hn=>absurd (of_decide_eq_true hn) (by rw[h];decide),fun _=>?_⟩;refine⟨fun _=>?_,fun hn=>absurd h (of_decide_eq_false hn)⟩;refine .inl ⟨_,zBZ _,?_⟩;refine .inl ⟨_,qF _ _ hd,?_⟩;refine .inl ⟨_,yF hs,?_⟩;refine⟨by kernel_rfl,?_⟩;exact rfl
theorem zXM {w:Wd} {t:Tp} {a:Al} {f:Fd} {l:List Tp} {n:ByteArray} {vs:List ByteArray} (h:a.1.1=1) (hfl:w.fs.length<10000000) (hf:wB w.fs a.1.2.2=some f) (hsh:yQ f=some (l,n,vs)) (hdf:dp f.t<1000000) (har:f.ar<=1000000)
  (hsp:(zI t).length<1000000) (hc:(xW t).form=3/\(xW t).nam=n/\(zI t).length=vs.length/\a.2.1.length=l.length/\a.2.1.Nodup) {K:Nat} (hfit:∀x∈l,FitX K x (bys vs t)) (hel:w.env.length+a.2.1.length<=100000):zC Tryz.prog 144 [eW w,eTy t,eAl a] (eW (w.more (zM a.2.1 l (bys vs t)))):=by
 obtain⟨c1,c2,c3,c4,c5⟩:=hc;have hrl:(zI t).reverse.length=vs.length:=by simp[c3]
 have eNv:eN (bys vs t)=eSs vs:=zRM hrl.symm;have eBv:eB (bys vs t)=zJ (zI t).reverse:=zRH hrl.symm;refine zB ttok mixed Tryz.func144 rfl (by rfl) (Nat.le_of_ble_eq_true rfl) (by kernel_rfl) ?_;refine⟨fun hn=>absurd (of_decide_eq_true hn) (by rw[h];decide),fun _=>?_⟩;refine⟨fun hn=>absurd (of_decide_eq_true hn) (by rw[h];decide),fun _=>?_⟩;refine⟨fun _=>?_,fun hn=>absurd h (of_decide_eq_false hn)⟩;refine .inl ⟨_,zC5 hfl hf,?_⟩;refine .inl ⟨_,zN3 hsh hdf har,?_⟩;refine .inl ⟨_,zCG t hsp,?_⟩;refine⟨fun _=>?_,fun hn=>absurd c1 (of_decide_eq_false hn)⟩;refine⟨fun _=>?_,fun hn=>absurd c2 (of_decide_eq_false hn)⟩;refine⟨fun _=>?_,fun hn=>absurd (of_decide_eq_false hn) (by simp[zJ,eSs,c3])⟩;refine .inl ⟨_,yF (decide_eq_true (by simp[zJ,eSs,c4])),?_⟩;have hll:(zJ l).length=l.length:=by simp[zJ]
 refine⟨{k:Nat // k<=l.length},fun k=>{vs:=[(3,.box 0 (eW (w.more ((zM a.2.1 l (bys vs t)).take k.1)))),(5,.box 0 (eAl a)),(6,.box 0 (.agg [.sl [],.sl [],.sl [],.sl [],.lit (.int .i64 0)])),(9,.v (.sl (eSs vs))),(11,.v (.sl (zJ (zI t).reverse))),(67,.v (.sl (zJ l))),(68,sv (l.length:Nat)),(69,sv (k.1:Nat))]},fun k=>l.length-k.1,⟨0,Nat.zero_le _⟩,⟨⟨?_,rfl,rfl,rfl,rfl,rfl,svc (by rw[hll]),rfl,trivial⟩,trivial,rfl⟩,?_⟩
 ·show SV.box 0 (eW w)=SV.box 0 (eW (w.more ((zM a.2.1 l (bys vs t)).take 0)));rw[List.take_zero,zJI]
 rintro⟨k,hk⟩;refine⟨fun h=>?_,fun h=>?_⟩
 ·have h:k<l.length:=by have h:=of_decide_eq_true h;simp only at h;omega
  have hkx:k<a.2.1.length:=by omega
  refine⟨eTy l[k],by omega,zOF h,rfl,?_⟩;have hsl:=zXH a.2.1 k;have hct:=yP (l:=a.2.1.take k) (s:=a.2.1[k]) (by rw[List.length_take];omega);rw[<-hsl] at hct;refine⟨by decide,by omega,by simp[eSs];omega,.inl rfl,?_⟩;refine⟨_,by omega,zBI hkx,rfl,?_⟩;refine .inr (.inl ⟨_,hct,?_⟩);refine .inl ⟨_,yF (by rw[xQ (zNC c5 hkx)];rfl),?_⟩;refine⟨by kernel_rfl,?_⟩;refine⟨_,by omega,zBI hkx,rfl,?_⟩;have hsb:=jZ l[k].sz l[k] (Nat.le_refl _) K (bys vs t) (hfit _ (List.getElem_mem h));unfold xM at hsb;rw[eNv,eBv] at hsb;refine .inl ⟨_,hsb,?_⟩;have htl:((zM a.2.1 l (bys vs t)).take k).length<=k:=by rw[List.length_take];omega
  refine .inl ⟨_,zHI (w.more ((zM a.2.1 l (bys vs t)).take k)) [(a.2.1[k],sub l[k] (bys vs t))] (by simp only[Wd.more,List.length_append,List.length_cons,List.length_nil];omega),?_⟩;refine⟨by kernel_rfl,?_⟩;refine⟨⟨k+1,h⟩,by simp;omega,⟨?_,rfl,rfl,rfl,rfl,rfl,rfl,svc (wrap_succ (k:=k) (by omega)),trivial⟩,trivial,rfl⟩;rw[zEW hkx h,<-Wd.more_more];exact rfl
 have h:k=l.length:=by have h:=of_decide_eq_false h;simp only at h;omega
 subst h;rw[List.take_of_length_le (by simp[zM];omega)];exact rfl
theorem zCZ:∀(t:Tp) (ws vs:List ByteArray) (u:Tp),wX t ws=some (vs,u)->u.sz<=t.sz/\vs.length<=ws.length+dp t/\dp u<=dp t:=by
 intro t;induction t with
 | all s a ih =>
  intro ws vs u h;rw[yX] at h;split at h
  ·cases h
  ·have:=ih _ _ _ h;simp only[List.length_append,List.length_cons,List.length_nil] at this;simp only[Tp.sz,dp];omega
 | _=>intro ws vs u h;cases h;exact⟨Nat.le_refl _,by omega,Nat.le_refl _⟩
theorem zRP {t:Tp} (h:(partsOf t).2.2=true):(partsOf t).2.1.sz<=t.sz/\(partsOf t).1.sz<=t.sz/\dp (partsOf t).1<=dp t/\dp (partsOf t).2.1<=dp t:=by
 have hb:=zLP t h;have h1:=congrArg Tp.sz hb;have h2:=congrArg Go.Proofs.YtdmbahepaglcbaaGreatDoor.dp hb;simp only[Tp.sz,Go.Proofs.YtdmbahepaglcbaaGreatDoor.dp] at h1 h2;omega
theorem zBH:∀(n:Nat) (t u:Tp) (l:List Tp),yK n t=some (l,u)->u.sz<=t.sz/\dp u<=dp t/\∀x∈l,x.sz<=t.sz/\dp x<=dp t
 | 0,t,u,l,h=>by cases h;exact⟨Nat.le_refl _,Nat.le_refl _,by simp⟩
 | n+1,t,u,l,h=>by
  simp only[yK] at h;split at h
  ·rename_i hf;have hp:=zRP hf;cases hq:yK n (partsOf t).2.1 with
   | none=>rw[hq] at h;cases h
   | some r =>
    rw[hq] at h;cases h
    have:=zBH n _ _ _ hq;refine⟨by omega,by omega,fun x hx=>?_⟩;rcases List.mem_cons.1 hx with rfl|hx
    ·exact⟨hp.2.1,hp.2.2.1⟩
    ·have:=this.2.2 x hx;omega
  ·cases h
structure FdOk (f:Fd):Prop where
 sz:f.t.sz<1000000
 ar:f.ar<=1000000
theorem FdOk.dp {f:Fd} (h:FdOk f):dp f.t<1000000:=Nat.lt_of_le_of_lt (jJ _) h.sz
theorem zKB {f:Fd} {l:List Tp} {n:ByteArray} {vs:List ByteArray} (h:FdOk f) (hs:yQ f=some (l,n,vs)):zC Tryz.prog 154 [eFd f] (.tup [.sl (zJ l),.lit (.string n),.sl (eSs vs)]):=zN3 hs h.dp h.ar
theorem zTK {f:Fd} (h:FdOk f) (hs:yQ f=none):wM Tryz.prog 154 [eFd f] jS:=by
 have hd:=h.dp;have ha:=h.ar;unfold yQ at hs;split at hs
 ·rename_i hA;exact zQB hA hd ha
 ·rename_i vs t0 hA;split at hs
  ·rename_i hF;exact zRA hA hF hd ha
  ·rename_i l u hF;split at hs
   ·cases hs
   ·rename_i hb;refine zPG hA hF hb ?_ hd ha;have h1:=zCZ _ _ _ _ hA;have h2:=zBH _ _ _ _ hF;have:=zBG u;have:=h.sz;omega
theorem zTS {w:Wd} {t:Tp} {a:Al} {f:Fd} (h:a.1.1=1) (hfl:w.fs.length<10000000) (hf:wB w.fs a.1.2.2=some f) (hfo:FdOk f) (hs:yQ f=none):wM Tryz.prog 144 [eW w,eTy t,eAl a] jS:=by
 refine yM ttok mixed Tryz.func144 rfl (by rfl) (Nat.le_of_ble_eq_true rfl) (by kernel_rfl) ?_;refine WsemQ.seq ttok mixed ?_;refine WsemQ.seqS (WsemQ.seq ttok mixed ?_);refine WsemQ.block ?_;refine WsemQ.seq ttok mixed ?_;refine WsemQ.cond rfl (fun hn=>absurd (of_decide_eq_true hn) (by rw[h];decide)) fun _=>?_;refine WsemQ.seq ttok mixed ?_;refine WsemQ.cond rfl (fun hn=>absurd (of_decide_eq_true hn) (by rw[h];decide)) fun _=>?_;refine WsemQ.seq ttok mixed ?_;refine WsemQ.cond rfl (fun _=>?_) fun hn=>absurd h (of_decide_eq_false hn);refine WsemQ.seqS (WsemQ.region ttok 4 ?_);refine .inl ⟨_,zC5 hfl hf,?_⟩;exact zTK hfo hs
theorem zYB {w:Wd} {t:Tp} {a:Al} {f:Fd} {l:List Tp} {n:ByteArray} {vs:List ByteArray} (h:a.1.1=1) (hfl:w.fs.length<10000000) (hf:wB w.fs a.1.2.2=some f) (hfo:FdOk f) (hsh:yQ f=some (l,n,vs))
  (hsp:(zI t).length<1000000) (hc:¬((xW t).form=3/\(xW t).nam=n/\(zI t).length=vs.length/\a.2.1.length=l.length)):wM Tryz.prog 144 [eW w,eTy t,eAl a] jS:=by
 refine yM ttok mixed Tryz.func144 rfl (by rfl) (Nat.le_of_ble_eq_true rfl) (by kernel_rfl) ?_;refine WsemQ.seq ttok mixed ?_;refine WsemQ.seqS (WsemQ.seq ttok mixed ?_);refine WsemQ.block ?_;refine WsemQ.seq ttok mixed ?_;refine WsemQ.cond rfl (fun hn=>absurd (of_decide_eq_true hn) (by rw[h];decide)) fun _=>?_;refine WsemQ.seq ttok mixed ?_;refine WsemQ.cond rfl (fun hn=>absurd (of_decide_eq_true hn) (by rw[h];decide)) fun _=>?_;refine WsemQ.seq ttok mixed ?_;refine WsemQ.cond rfl (fun _=>?_) fun hn=>absurd h (of_decide_eq_false hn);refine WsemQ.seq ttok mixed ?_;refine .inl ⟨_,zC5 hfl hf,?_⟩;refine .inl ⟨_,zKB hfo hsh,?_⟩;refine WsemQ.seq ttok mixed ?_;refine .inl ⟨_,zCG t hsp,?_⟩;refine WsemQ.seqS (WsemQ.region ttok 24 ?_);refine⟨fun h1=>?_,fun h1=>?_⟩
 ·refine⟨fun h2=>?_,fun h2=>?_⟩
  ·refine⟨fun h3=>?_,fun h3=>?_⟩
   ·refine zAR (decide_eq_false fun h4=>hc ⟨of_decide_eq_true h1,of_decide_eq_true h2,?_,?_⟩)
    ·have e2:((zI t).length:Int)=(vs.length:Int):=by simpa[zJ,eSs] using of_decide_eq_true h3
     omega
    ·have e2:(a.2.1.length:Int)=(l.length:Int):=by simpa[zJ,eSs] using h4
     omega
   ·exact zAR rfl
  ·exact zAR rfl
 ·exact zAR rfl
theorem zGY:∀(xs:List ByteArray),¬xs.Nodup->∃k,∃h:k<xs.length,xs[k]∈xs.take k/\∀(j:Nat) (hj:j<xs.length),j<k->xs[j]∉xs.take j:=by
 intro xs hn;have hex:∃k,∃h:k<xs.length,xs[k]∈xs.take k:=Classical.byContradiction fun hno=>hn (List.pairwise_iff_getElem.2 fun i j hi hj hij e=>hno ⟨j,hj,by
  rw[<-e];exact List.mem_of_getElem? (i:=i) (by rw[List.getElem?_take,if_pos hij];exact List.getElem?_eq_getElem hi)⟩)
 obtain⟨k0,h0⟩:=hex;obtain⟨k,⟨h1,h2⟩,h3,_⟩:=least (fun k => ∃h:k<xs.length,xs[k]∈xs.take k) k0 h0;exact⟨k,h1,h2,fun j hj hjk hm=>h3 j hjk ⟨hj,hm⟩⟩
theorem zT9 {w:Wd} {t:Tp} {a:Al} {f:Fd} {l:List Tp} {n:ByteArray} {vs:List ByteArray} (h:a.1.1=1) (hfl:w.fs.length<10000000) (hf:wB w.fs a.1.2.2=some f) (hfo:FdOk f) (hsh:yQ f=some (l,n,vs))
  (hsp:(zI t).length<1000000) (hc:(xW t).form=3/\(xW t).nam=n/\(zI t).length=vs.length/\a.2.1.length=l.length) (hnd:¬a.2.1.Nodup) {K:Nat} (hfit:∀x∈l,FitX K x (bys vs t)) (hel:w.env.length+a.2.1.length<=100000):wM Tryz.prog 144 [eW w,eTy t,eAl a] jS:=by
 obtain⟨c1,c2,c3,c4⟩:=hc;have hrl:(zI t).reverse.length=vs.length:=by simp[c3]
 have eNv:eN (bys vs t)=eSs vs:=zRM hrl.symm;have eBv:eB (bys vs t)=zJ (zI t).reverse:=zRH hrl.symm;obtain⟨m,hm,hm1,hm2⟩:=zGY _ hnd;refine yM ttok mixed Tryz.func144 rfl (by rfl) (Nat.le_of_ble_eq_true rfl) (by kernel_rfl) ?_;refine WsemQ.seq ttok mixed ?_;refine WsemQ.seqS (WsemQ.seq ttok mixed ?_);refine WsemQ.block ?_;refine WsemQ.seq ttok mixed ?_;refine WsemQ.cond rfl (fun hn=>absurd (of_decide_eq_true hn) (by rw[h];decide)) fun _=>?_;refine WsemQ.seq ttok mixed ?_;refine WsemQ.cond rfl (fun hn=>absurd (of_decide_eq_true hn) (by rw[h];decide)) fun _=>?_;refine WsemQ.seq ttok mixed ?_;refine WsemQ.cond rfl (fun _=>?_) fun hn=>absurd h (of_decide_eq_false hn);refine WsemQ.seq ttok mixed ?_;refine .inl ⟨_,zC5 hfl hf,?_⟩;refine .inl ⟨_,zKB hfo hsh,?_⟩;refine WsemQ.seq ttok mixed ?_;refine .inl ⟨_,zCG t hsp,?_⟩;refine WsemQ.seq ttok mixed ?_;refine⟨fun _=>?_,fun hn=>absurd c1 (of_decide_eq_false hn)⟩;refine⟨fun _=>?_,fun hn=>absurd c2 (of_decide_eq_false hn)⟩;refine⟨fun _=>?_,fun hn=>absurd (of_decide_eq_false hn) (by simp[zJ,eSs,c3])⟩;refine .inl ⟨_,yF (decide_eq_true (by simp[zJ,eSs,c4])),?_⟩;have hll:(zJ l).length=l.length:=by simp[zJ]
 refine WsemQ.seq ttok mixed ?_;refine WsemQ.block (WsemQ.loop (α:={k:Nat // k<=m}) (fun k=>{vs:=[(3,.box 0 (eW (w.more ((zM a.2.1 l (bys vs t)).take k.1)))),(5,.box 0 (eAl a)),(6,.box 0 (.agg [.sl [],.sl [],.sl [],.sl [],.lit (.int .i64 0)])),(9,.v (.sl (eSs vs))),(11,.v (.sl (zJ (zI t).reverse))),(67,.v (.sl (zJ l))),(68,sv (l.length:Nat)),(69,sv (k.1:Nat))]}) (fun k=>m-k.1) ⟨0,Nat.zero_le _⟩ ⟨⟨?_,rfl,rfl,rfl,rfl,rfl,svc (by rw[hll]),rfl,trivial⟩,trivial,rfl⟩ ?_)
 ·show SV.box 0 (eW w)=SV.box 0 (eW (w.more ((zM a.2.1 l (bys vs t)).take 0)));rw[List.take_zero,zJI]
 rintro⟨k,hk⟩;refine WsemQ.seq ttok mixed ?_;refine WsemQ.seq ttok mixed ?_;refine⟨fun h=>?_,fun h=>absurd (of_decide_eq_false h) (by simp only;omega)⟩;have hkx:k<a.2.1.length:=by omega
 have h:k<l.length:=by omega
 have hsl:=zXH a.2.1 k;have hct:=yP (l:=a.2.1.take k) (s:=a.2.1[k]) (by rw[List.length_take];omega);rw[<-hsl] at hct;refine WsemQ.seqS (WsemQ.block ?_);refine WsemQ.seq ttok mixed ?_;refine⟨eTy l[k],by omega,zOF h,rfl,?_⟩;rcases Nat.lt_or_ge k m with hkm|hkm
 ·refine WsemQ.seq ttok mixed ?_;refine⟨by decide,by omega,by simp[eSs];omega,.inl rfl,?_⟩;refine⟨_,by omega,zBI hkx,rfl,?_⟩;refine .inr (.inl ⟨_,hct,?_⟩);refine .inl ⟨_,yF (by rw[xQ (hm2 k hkx hkm)];rfl),?_⟩;refine⟨by kernel_rfl,?_⟩;refine WsemQ.of ttok mixed ?_;refine⟨_,by omega,zBI hkx,rfl,?_⟩;have hsb:=jZ l[k].sz l[k] (Nat.le_refl _) K (bys vs t) (hfit _ (List.getElem_mem h));unfold xM at hsb;rw[eNv,eBv] at hsb;refine .inl ⟨_,hsb,?_⟩;have htl:((zM a.2.1 l (bys vs t)).take k).length<=k:=by rw[List.length_take];omega
  refine .inl ⟨_,zHI (w.more ((zM a.2.1 l (bys vs t)).take k)) [(a.2.1[k],sub l[k] (bys vs t))] (by simp only[Wd.more,List.length_append,List.length_cons,List.length_nil];omega),?_⟩;refine⟨by kernel_rfl,?_⟩;refine WsemQ.of ttok mixed ?_;refine⟨⟨k+1,hkm⟩,by simp;omega,⟨?_,rfl,rfl,rfl,rfl,rfl,rfl,svc (wrap_succ (k:=k) (by omega)),trivial⟩,trivial,rfl⟩;rw[zEW hkx h,<-Wd.more_more];exact rfl
 ·obtain rfl:k=m:=by omega
  refine WsemQ.seqS (WsemQ.regionI ttok mixed 11 (by kernel_rfl) ?_);refine⟨by decide,by omega,by simp[eSs];omega,.inl rfl,?_⟩;refine⟨_,by omega,zBI hkx,rfl,?_⟩;refine .inr (.inl ⟨_,hct,?_⟩);exact⟨by kernel_rfl,zAR (by rw[yO hm1];rfl)⟩
abbrev Bd:=ByteArray×Tp×Cr
def zEO (sn:List ByteArray):List (AV×AV):=sn.map fun s=>(.lit (.string s),.agg [])
theorem zII (sn:List ByteArray):∀p∈zEO sn,qO (.lit (.string .empty)) p.1:=fun p hp=>by
 obtain⟨y,_,rfl⟩:=List.mem_map.1 hp;trivial
theorem zO5 {sn:List ByteArray} {s:ByteArray} (h:s∉sn):Fp.Found (zEO sn) (.string s) none := .no fun p hp=>by
 obtain⟨y,hy,rfl⟩:=List.mem_map.1 hp;intro e;have e:AV.lit (.string y) = .lit (.string s):=e;injection e with e;injection e with e
 exact h (e ▸ hy)
theorem zRI (sn:List ByteArray) (s:ByteArray):zEO (sn++[s])=zD7 (zEO sn) (.string s) (.agg []) none:=by simp[zEO,zD7]
noncomputable def bdL (w:Wd) (l:List Bd):List Nm2:=l.map fun b=>(b.1,w.mean b.2.1)
theorem zWS {w:Wd} {l:List Bd} {k:Nat} (h:k<l.length):(bdL w l).take (k+1)=(bdL w l).take k++[(l[k].1,w.mean l[k].2.1)]:=by
 rw[List.take_succ_eq_append_getElem (by simpa[bdL] using h)];simp[bdL]
theorem zP4 {l:List Bd} {k:Nat} (h:k<l.length):(l.map (·.1)).take (k+1)=(l.map (·.1)).take k++[l[k].1]:=by
 rw[List.take_succ_eq_append_getElem (by simpa using h)];simp
theorem z0D (l:List Bd):(yV l).length=l.length:=by simp[yV]
structure IsT (w:Wd) (u:Tp) (p:Cr):Prop where
 of:∃t,OfS w p t/\smb t u [] []=true/\dp t<1000000000
theorem zUN {w:Wd} {l:List Bd} (hl:w.env.length+l.length<=100000) (hnd:(l.map (·.1)).Nodup) {K:Nat} (hf:∀b∈l,FitX K b.2.1 w.ps) (h:∀b∈l,IsT (w.more (bdL w l)) (w.mean b.2.1) b.2.2):zC Tryz.prog 65 [eW w,.sl (yV l)] (eW (w.more (bdL w l))):=by
 refine CallsG.lessS (post:=fun r o h=>r=eW (w.more (bdL w l))) ?_ (fun r o h hp=>⟨[],List.nil_sublist _,hp,rfl,rfl⟩);refine zDO (first:=[]) (cap:=[]) ttok mixed Tryz.func65 rfl (by rfl) rfl (Nat.le_of_ble_eq_true rfl) (by kernel_rfl) ?_;intro b;refine⟨{k:Nat // k<=l.length},fun k=>{vs:=[(1,.v (.sl (yV l))),(2,.box 0 (eW w)),(4,.box 0 (.agg [.sl [],.sl [],.sl [],.sl [],.lit (.int .i64 0)])),(5,.v (.lit (.map (some b)))),(6,.box 0 (eW (w.more ((bdL w l).take k.1)))),(15,.v (.sl (yV l))),(16,sv (l.length:Nat)),(17,sv (k.1:Nat))],hp:=[(b,HO.mp (zEO ((l.map (·.1)).take k.1)))]},fun k=>l.length-k.1,⟨0,Nat.zero_le _⟩,⟨⟨rfl,rfl,rfl,rfl,?_,rfl,svc (by rw[z0D]),rfl,trivial⟩,trivial,rfl⟩,?_⟩
 ·show SV.box 0 (eW w)=SV.box 0 (eW (w.more ((bdL w l).take 0)));rw[List.take_zero,zJI]
 rintro⟨k,hk⟩;refine⟨fun h1=>?_,fun h1=>?_⟩
 ·have h1:k<l.length:=by have h:=of_decide_eq_true h1;simp only at h;omega
  refine⟨eBd l[k],by omega,zSB h1,rfl,?_⟩;have hno:l[k].1∉(l.map (·.1)).take k:=by
   have:=zNC hnd (k:=k) (by simpa using h1);simpa using this
  refine⟨0,_,none,rfl,zII _,trivial,zO5 hno,?_⟩;refine .inl ⟨_,yF rfl,?_⟩;refine⟨0,_,none,rfl,zII _,trivial,zO5 hno,?_⟩;refine .inl ⟨_,zAN w l[k].2.1 (hf _ (List.getElem_mem h1)),?_⟩;have htl:((bdL w l).take k).length<=k:=by rw[List.length_take];omega
  refine .inl ⟨_,zHI (w.more ((bdL w l).take k)) [(l[k].1,w.mean l[k].2.1)] (by simp only[Wd.more,List.length_append,List.length_cons,List.length_nil];omega),?_⟩;refine⟨by kernel_rfl,?_⟩;refine⟨⟨k+1,h1⟩,by simp;omega,⟨rfl,rfl,rfl,rfl,?_,rfl,rfl,svc (wrap_succ (k:=k) (by omega)),trivial⟩,trivial,?_⟩
  ·rw[zWS h1,<-Wd.more_more];exact rfl
  ·show [(b,HO.mp (zD7 (zEO ((l.map (·.1)).take k)) (.string l[k].1) (.agg []) none))]=[(b,HO.mp (zEO ((l.map (·.1)).take (k+1))))];rw[zP4 h1,zRI]
 have h1:k=l.length:=by have h:=of_decide_eq_false h1;simp only at h;omega
 subst h1;rw[List.take_of_length_le (by simp[bdL])];refine⟨{k:Nat // k<=l.length},fun k=>{vs:=[(2,.box 0 (eW w)),(4,.box 0 (.agg [.sl [],.sl [],.sl [],.sl [],.lit (.int .i64 0)])),(6,.box 0 (eW (w.more (bdL w l)))),(46,.v (.sl (yV l))),(47,sv (l.length:Nat)),(48,sv (k.1:Nat))],hp:=[(b,HO.mp (zEO ((l.map (·.1)).take l.length)))]},fun k=>l.length-k.1,⟨0,Nat.zero_le _⟩,⟨⟨rfl,rfl,rfl,rfl,svc (by rw[z0D]),rfl,trivial⟩,trivial,rfl⟩,?_⟩;rintro⟨k,hk⟩;refine⟨fun h1=>?_,fun h1=>?_⟩
 ·have h1:k<l.length:=by have h:=of_decide_eq_true h1;simp only at h;omega
  obtain⟨t,q1,q2,q3⟩:=(h _ (List.getElem_mem h1)).of;refine⟨eBd l[k],by omega,zSB h1,rfl,?_⟩;refine .inl ⟨_,q1,?_⟩;refine .inl ⟨_,zAN w l[k].2.1 (hf _ (List.getElem_mem h1)),?_⟩;refine .inl ⟨_,qF _ _ q3,?_⟩;refine .inl ⟨_,yF q2,?_⟩;refine⟨by kernel_rfl,?_⟩;exact⟨⟨k+1,h1⟩,by simp;omega,⟨rfl,rfl,rfl,rfl,rfl,svc (wrap_succ (k:=k) (by omega)),trivial⟩,trivial,rfl⟩
 exact rfl
end Go.Proofs.YtdmbahepaglcbaaGreatDoor
