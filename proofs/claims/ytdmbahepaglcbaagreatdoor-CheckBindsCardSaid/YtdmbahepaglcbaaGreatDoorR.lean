/- Primitives of no type. No condition but on what is within. -/
import Derived.Test.YtdmbahepaglcbaaGreatDoorQ
import Derived.Test.YtdmbahepaglcbaaGreatDoorD
set_option linter.unusedSimpArgs false
set_option linter.unusedVariables false
namespace Go.Proofs.YtdmbahepaglcbaaGreatDoor
open Go Fp
set_option maxRecDepth 10000
set_option maxHeartbeats 8000000
set_option linter.unusedVariables false
def z5P (w:Wd) (u:Tp) (p:Cr):Prop:=OfN w p∨∃t,OfS w p t/\smb t u [] []=false/\dp t<1000000000
theorem zT9 (to:Tp) (l:List Tp) (hl:l.length<4294967296):zC Tryz.prog zQI [eTy to,.sl (zO l)] (eTy (zRP to l)):=by
 refine zB ttok mixed Tryz.func50 rfl (by rfl) (Nat.le_of_ble_eq_true rfl) (by kernel_rfl) ?_;refine .inl ⟨_,zAI to,?_⟩;have hlen:(zO l).length=l.length:=by simp[zO]
 refine⟨{k:Nat // k<=l.length},fun k=>{vs:=[(1,.v (.sl (zO l))),(4,.box 0 (eTy .no)),(5,.box 0 (eTy (zRP to (l.drop (l.length-k.1))))),(10,.v (.lit (.int .i64 ((zO l).length:Nat)))),(11,.v (.lit (.int .i64 (k.1:Nat))))]},
  fun k=>l.length-k.1,⟨0,Nat.zero_le _⟩,⟨⟨rfl,rfl,?_,rfl,rfl,trivial⟩,trivial,rfl⟩,?_⟩
 ·show SV.box 0 (eTy to)=SV.box 0 (eTy (zRP to (l.drop (l.length-0))));rw[Nat.sub_zero,List.drop_length];rfl
 rintro⟨k,hk⟩;refine⟨fun h=>?_,fun h=>?_⟩
 ·have h:k<l.length:=by simp[hlen] at h;omega
  have e1:IntKind.i64.wrap (((zO l).length:Nat)-1:Int)=((l.length-1:Nat):Int):=by rw[hlen,show ((l.length:Nat)-1:Int)=((l.length-1:Nat):Int) by omega];exact yO (by omega)
  have e2:IntKind.i64.wrap (((l.length-1:Nat):Int)-((k:Nat):Int))=((l.length-1-k:Nat):Int):=by rw[show (((l.length-1:Nat):Int)-((k:Nat):Int))=((l.length-1-k:Nat):Int) by omega];exact yO (by omega)
  have hlt:l.length-1-k<l.length:=by omega
  refine .inl ⟨_,zFL _,?_⟩;refine⟨eTy l[l.length-1-k],?_,?_,rfl,?_⟩
  ·show (0:Int)<=IntKind.i64.wrap (IntKind.i64.wrap (((zO l).length:Nat)-1:Int)-((k:Nat):Int));rw[e1,e2];omega
  ·show (zO l)[Int.toNat (IntKind.i64.wrap (IntKind.i64.wrap (((zO l).length:Nat)-1:Int)-((k:Nat):Int)))]? = _;rw[e1,e2];exact zTK hlt
  refine .inl ⟨_,zAI _,?_⟩;refine .inl ⟨_,zKJ (.con arrow) _,?_⟩;refine .inl ⟨_,zKJ (.app (.con arrow) _) _,?_⟩;refine⟨⟨k+1,h⟩,(show l.length-(k+1)<l.length-k by omega),⟨rfl,rfl,?_,rfl,?_,trivial⟩,trivial,rfl⟩
  ·show SV.box 0 (eTy (.app (.app (.con arrow) l[l.length-1-k]) (zRP to (l.drop (l.length-k)))))=SV.box 0 (eTy (zRP to (l.drop (l.length-(k+1)))));rw[show l.length-(k+1)=l.length-1-k by omega,List.drop_eq_getElem_cons hlt,show l.length-1-k+1=l.length-k by omega];rfl
  ·exact congrArg (fun l=>SV.v (AV.lit (Value.int .i64 l))) (wrap_succ (k:=k) (by omega))
 ·have h:k=l.length:=by simp[hlen] at h;omega
  subst h;show eTy (zRP to (l.drop (l.length-l.length)))=_;rw[Nat.sub_self,List.drop_zero]
theorem z1H {w:Wd} {c p:Cr} {t:Tp} {K:Nat} (hk:c.kids=[p]) (hf:FitX K c.t w.ps) (hl:w.env.length<100000) (h1:OfS (w.more [(c.s,w.mean c.t)]) p t):zC Tryz.prog 120 [eW w,eC c] (eTy (zRP t [w.mean c.t])):=by
 refine zA ttok mixed Tryz.func120 rfl (by rfl) (Nat.le_of_ble_eq_true rfl) (by kernel_rfl) ?_;refine .inl ⟨_,qH w c.t hf,?_⟩;refine .inl ⟨_,zF2 w [(c.s,w.mean c.t)] (by simp;omega),?_⟩;refine⟨eC p,by omega,zKW hk,rfl,?_⟩;refine .inl ⟨_,h1,?_⟩;refine .inl ⟨_,zT9 t [w.mean c.t] (by simp),?_⟩;refine⟨by kernel_rfl,?_⟩;exact rfl
theorem zWZ {w:Wd} {c p:Cr} {s:ByteArray} {a:Tp} {K L:Nat} (hk:c.kids=[p]) (hf:FitX K c.t w.ps) (h1:OfS w p (.all s a)) (hf2:FitX L a [(s,w.mean c.t)]):zC Tryz.prog 121 [eW w,eC c] (eTy (sub a [(s,w.mean c.t)])):=by
 refine zA ttok mixed Tryz.func121 rfl (by rfl) (Nat.le_of_ble_eq_true rfl) (by kernel_rfl) ?_;refine⟨eC p,by omega,zKW hk,rfl,?_⟩;refine .inl ⟨_,h1,?_⟩;refine⟨by kernel_rfl,?_⟩;refine .inl ⟨_,xC rfl,?_⟩;refine⟨eTy a,by omega,rfl,rfl,?_⟩;refine .inl ⟨_,qH w c.t hf,?_⟩;refine .inl ⟨_,zB3 a.sz a (Nat.le_refl _) L [(s,w.mean c.t)] hf2,?_⟩;refine⟨by kernel_rfl,?_⟩;exact rfl
def zDY (d:Nat):ByteArray:=⟨#[64]⟩++dcm d
theorem zXN {w:Wd} {c p:Cr} {t:Tp} (hk:c.kids=[p]) (hd:w.deep<100) (hl:w.ps.length<=100000) (h1:OfS (w.all c.s (zDY w.deep)) p t):zC Tryz.prog 122 [eW w,eC c] (eTy (.all (zDY w.deep) t)):=by
 have hs:=wJ 2 w.deep (by omega) (by decide);have q:(ByteArray.mk #[64]).size=1:=rfl;refine zA ttok mixed Tryz.func122 rfl (by rfl) (Nat.le_of_ble_eq_true rfl) (by kernel_rfl) ?_;refine .inl ⟨_,zTQ hd,?_⟩;refine⟨by rw[q];omega,?_⟩;refine .inl ⟨_,z4M w c.s (zDY w.deep) hl (by omega),?_⟩;refine⟨eC p,by omega,zKW hk,rfl,?_⟩;refine .inl ⟨_,h1,?_⟩;refine .inl ⟨_,zNF (zDY w.deep) t,?_⟩;refine⟨by kernel_rfl,?_⟩;exact rfl
theorem zUZ {P:Program} {f:Nat} {args:List AV} {r:AV} (he:Fp.Enters P f) (h:∀F w (vs:List Value),Fresh F w->zA2 F w vs args []->Calls P f vs.toArray w fun e w'=>RowKit.Below w.heap.size w w'/\∃v,e = .returned v/\Rep F w v r):zC P f args r:=by
 refine⟨f,#[],#[],rfl,he,fun F w vs hfr hh ha hy=>?_⟩;have hyk:yB vs []=[]:=by cases vs<;>rfl
 rw[hyk,show (#[]:Array Value)++vs.toArray ++ #[]=vs.toArray by simp];refine (h F w vs hfr ha).mono fun e w' hp=>?_;obtain⟨hB,v,rfl,hr⟩:=hp;have hk0:Kept F (keys []) [] w w:=⟨rfl,rfl,rfl,Nat.le_refl _,fun b hb => .inr (.inr rfl)⟩
 have hk:=hk0.below hB;have hx:zR3 F F w []:=fun b hb => .inl rfl;refine⟨v,r,0,[],F,rfl,⟨rfl,rfl,rfl⟩,hr.mono (hk.keeps hx (fun b hb=>by simp[keys] at hb)),fun sz h=>by omega,hk,hx,fun b hb=>hfr b (Nat.le_trans hB.size hb),⟨by simp[keys],fun b hb=>by simp[keys] at hb,fun x hx=>by simp at hx⟩,fun b hb=>by simp[keys] at hb⟩
theorem zTH {P:Program} {f:Nat} {args:List AV} {pv:Value} (he:Fp.Enters P f) (h:∀F w (vs:List Value),Fresh F w->zA2 F w vs args []->Calls P f vs.toArray w fun e w'=>RowKit.Below w.heap.size w w'/\e = .panicked (zKN pv)):zAK P f args pv:=by
 refine⟨f,#[],#[],rfl,he,fun F w vs hfr ha=>?_⟩;rw[show (#[]:Array Value)++vs.toArray ++ #[]=vs.toArray by simp];exact (h F w vs hfr ha).mono fun e w' hp=>⟨hp.2,hp.1⟩
def wP (l:List Nm2) (s:ByteArray):Option Tp:=(l.reverse.find? fun p=>decide (p.1=s)).map (·.2)
theorem zGP {l:List Nm2} {s:ByteArray} {k:Nat} (hk:k<l.length) (h:l[k].1=s) (hn:∀j,k<j->∀(hj:j<l.length),l[j].1≠s):wP l s=some l[k].2:=by
 unfold wP;have e:l.reverse=(l.drop (k+1)).reverse++l[k]::(l.take k).reverse:=by
  have h2:l=l.take k++(l[k]::l.drop (k+1)):=by rw[<-List.drop_eq_getElem_cons hk,List.take_append_drop]
  have h3:=congrArg List.reverse h2;rw[List.reverse_append,List.reverse_cons,List.append_assoc] at h3;simp
 rw[e,List.find?_append,List.find?_eq_none.2 fun x hx=>?_]
 ·simp[h]
 ·obtain⟨i,hi,rfl⟩:=List.getElem_of_mem (List.mem_reverse.1 hx);rw[List.length_drop] at hi;simp only[List.getElem_drop,decide_eq_true_eq];exact hn _ (by omega) (by omega)
theorem five {α:Type} {a:Array α} (h:a.size=5):∃x0 x1 x2 x3 x4,a = #[x0,x1,x2,x3,x4]:=by
 obtain⟨l⟩:=a
 match l,h with
 | [x0,x1,x2,x3,x4],_=>exact⟨x0,x1,x2,x3,x4,rfl⟩
theorem ten {α:Type} {a:Array α} (h:a.size=10):∃x0 x1 x2 x3 x4 x5 x6 x7 x8 x9,a = #[x0,x1,x2,x3,x4,x5,x6,x7,x8,x9]:=by
 obtain⟨l⟩:=a
 match l,h with
 | [x0,x1,x2,x3,x4,x5,x6,x7,x8,x9],_=>exact⟨x0,x1,x2,x3,x4,x5,x6,x7,x8,x9,rfl⟩
theorem zVJ {F:Nat->Option Nat} {w:World} {v:Value} {l:List Nm2} (h:Rep F w v (.sl (yZ l))):∃a cap,∃us:Nat->Value,v = .slice a l.length cap/\NmsAt w.heap.size w v l.length us /\
  ∀(k:Nat) (hk:k<l.length),us (k*5) = .string l[k].1/\us (k*5+1) = .int .i64 l[k].2.form/\us (k*5+2) = .int .i64 l[k].2.num/\us (k*5+3) = .string l[k].2.nam/\Rep F w (us (k*5+4)) (.sl l[k].2.eArgs):=by
 have hln:(yZ l).length=l.length:=by simp[yZ]
 generalize hq:yZ l=q at h;cases h with
 | slNil=>exact⟨none,0,fun _ => .bool true,by rw[<-hln,hq];rfl,.inl ⟨by rw[<-hln,hq];rfl,none,0,rfl⟩,fun k hk=>by rw[<-hln,hq] at hk;simp at hk⟩
 | slZ a=>exact⟨some a,0,fun _ => .bool true,by rw[<-hln,hq];rfl,.inl ⟨by rw[<-hln,hq];rfl,some a,0,rfl⟩,fun k hk=>by rw[<-hln,hq] at hk;simp at hk⟩
 | sl b off n cap sz _ us hn hc hsz hcl hcell hrep =>
  rw[<-hq,hln] at hn;subst hn;rcases Nat.eq_zero_or_pos l.length with h0|h0
  ·exact⟨_,cap,us,rfl,.inl ⟨h0,_,cap,by rw[h0]⟩,fun k hk=>by omega⟩
  ·have hm:eNa l[0]∈q:=by rw[<-hq];exact List.mem_map.2 ⟨_,List.getElem_mem h0,rfl⟩
   have h5:sz=5:=(hsz _ hm).symm;subst h5;have hb:b<w.heap.size:=by
    have h1:=(hcell 0 (by omega)).1;simp only[World.cell?] at h1;rcases Nat.lt_or_ge b w.heap.size with h2|h2
    ·exact h2
    ·rw[Array.getElem?_eq_none h2] at h1;simp at h1
   refine⟨_,cap,us,rfl,.inr ⟨b,off,cap,rfl,hb,fun j hj=>(hcell j hj).1⟩,fun k hk=>?_⟩;have hg:q[k]? = some (eNa l[k]):=by rw[<-hq];simp[yZ,hk]
   have r0:=hrep k _ 0 _ hg rfl;have r1:=hrep k _ 1 _ hg rfl;have r2:=hrep k _ 2 _ hg rfl;have r3:=hrep k _ 3 _ hg rfl;have r4:=hrep k _ 4 _ hg rfl;exact⟨r0.lit_eq.1,r1.lit_eq.1,r2.lit_eq.1,r3.lit_eq.1,r4⟩
theorem zG5 {w:Wd} {c:Cr} (hl:w.env.length<1000000000):(∀t,wP w.env c.s=some t->zC Tryz.prog 116 [eW w,eC c] (eTy t))/\(wP w.env c.s=none->zAK Tryz.prog 116 [eW w,eC c] zCC):=by
 have key:∀F W (vs:List Value),Fresh F W->zA2 F W vs [eW w,eC c] []->Calls Tryz.prog 116 vs.toArray W fun e W'=>RowKit.Below W.heap.size W W' /\
   ((e = .panicked (zKN zCC)/\wP w.env c.s=none)∨∃v t,wP w.env c.s=some t/\e = .returned v/\Rep F W v (eTy t)):=fun F W vs hfr ha=>by
  have hlen:=ha.len
  match vs,hlen with
  | [v0,v1],_ =>
   obtain⟨cs0,rfl,s0,-,q0⟩:=(ha.rep 0 v0 _ rfl rfl).agg_eq;obtain⟨cs1,rfl,s1,-,q1⟩:=(ha.rep 1 v1 _ rfl rfl).agg_eq;obtain⟨x0,x1,x2,x3,x4,rfl⟩:=five s0;obtain⟨y0,y1,y2,y3,y4,y5,y6,y7,y8,y9,rfl⟩:=ten s1;obtain⟨a,cap,us,e1,hI,hus⟩:=zVJ (q0 1 x1 _ rfl rfl);have ey:y2 = .string c.s:=(q1 2 y2 _ rfl rfl).lit_eq.1;subst e1;subst ey;have hsl:∀(k:Nat) (hk:k<w.env.length),∃A ln cp,us (k*5+4) = .slice A ln cp:=fun k hk=>by
    obtain⟨A,cp,e,_⟩:=(hus k hk).2.2.2.2.sl_shape;exact⟨A,_,cp,e⟩
   refine ((callsIn_wide (n:=6)).1 (zYM Fence.wide 6 trivial trivial trivial rfl (Nat.le_refl _) W x0 x2 x3 x4 y0 y1 y3 y4 y5 y6 y7 y8 y9 a cap c.s w.env.length us (fun k=>if h:k<w.env.length then w.env[k].1 else .empty) (fun k=>if h:k<w.env.length then w.env[k].2.nam else .empty) (fun k=>if h:k<w.env.length then w.env[k].2.form else 0) (fun k=>if h:k<w.env.length then w.env[k].2.num else 0)
    (fun k=>match us (k*5+4) with | .slice A _ _=>A|_=>none) (fun k=>match us (k*5+4) with | .slice _ ln _=>ln|_=>0) (fun k=>match us (k*5+4) with | .slice _ _ cp=>cp|_=>0) hI hl fun k hk=>?_)).mono fun e W' hp=>⟨hp.2,?_⟩
   ·obtain⟨h0,h1,h2,h3,h4⟩:=hus k hk;obtain⟨A,ln,cp,e⟩:=hsl k hk;rw[h0,h1,h2,h3,e,dif_pos hk,dif_pos hk,dif_pos hk,dif_pos hk];exact⟨rfl,rfl,rfl,rfl,rfl⟩
   ·rcases hp.1 with⟨rfl,h⟩|⟨k,hk,h1,h2,rfl⟩
    ·refine .inl ⟨rfl,?_⟩;unfold wP;rw[List.find?_eq_none.2 fun x hx=>?_]
     ·rfl
     ·obtain⟨k,hk,rfl⟩:=List.getElem_of_mem (List.mem_reverse.1 hx);have:=h k hk;rw[dif_pos hk] at this;simpa using this
    ·refine .inr ⟨_,w.env[k].2,?_,rfl,?_⟩
     ·rw[dif_pos hk] at h1;exact zGP hk h1 fun j hj hjl=>by have:=h2 j hj hjl;rw[dif_pos hjl] at this;exact this
     ·obtain⟨h0,h1,h2,h3,h4⟩:=hus k hk;rw[h1,h2,h3];refine .agg _ _ rfl (fun c hc=>?_) fun j u c hu hc=>?_
      ·simp only[List.mem_cons,List.not_mem_nil,or_false] at hc;rcases hc with rfl|rfl|rfl|rfl<;>rfl
      ·match j,hu,hc with
       | 0,hu,hc=>cases hu;cases hc;exact .lit _ rfl
       | 1,hu,hc=>cases hu;cases hc;exact .lit _ rfl
       | 2,hu,hc=>cases hu;cases hc;exact .lit _ rfl
       | 3,hu,hc=>cases hu;cases hc;exact h4
 refine⟨fun t ht=>zUZ ⟨_,Tryz.func116,rfl,rfl⟩ fun F W vs hfr ha=>(key F W vs hfr ha).mono fun e W' hp=>⟨hp.1,?_⟩,fun hn=>zTH ⟨_,Tryz.func116,rfl,rfl⟩ fun F W vs hfr ha=>(key F W vs hfr ha).mono fun e W' hp=>⟨hp.1,?_⟩⟩
 ·rcases hp.2 with⟨_,h⟩|⟨v,t',h1,h2,h3⟩
  ·rw[ht] at h;cases h
  ·rw[ht] at h1;cases h1;exact⟨v,h2,h3⟩
 ·rcases hp.2 with⟨h,_⟩|⟨v,t',h1,_⟩
  ·exact h
  ·rw[hn] at h1;cases h1
theorem zWK {F F':Nat->Option Nat} {w w':World} {b:Nat} {o:HO} (h:HoOk F w b o) (hb:w'.heap[b]? = w.heap[b]?) (kp:Keeps F w F' w') (hm:∀l s,o≠.it l s) (hr:∀p,o≠.raw p):HoOk F' w' b o:=by
 cases o with
 | cells l=>obtain⟨cs,E,h1,h2⟩:=h;exact⟨cs,E,hb.trans h1,⟨h2.1,fun j v c hv hc=>⟨(h2.2 j v c hv hc).1.mono kp,(h2.2 j v c hv hc).2⟩⟩⟩
 | mp l=>obtain⟨es,clock,h1,h2,h3⟩:=h;exact⟨es,clock,hb.trans h1,h2,h3.1,fun j e p he hp=>⟨(h3.2 j e p he hp).1.mono kp,(h3.2 j e p he hp).2.mono kp⟩⟩
 | it l s=>exact absurd rfl (hm l s)
 | raw p=>exact absurd rfl (hr p)
def CellsL (h:List (Nat×HO)):Prop := ∀x∈h,∃l,x.2 = .cells l
theorem CellsL.keep {h:List (Nat×HO)} (hc:CellsL h) {F F':Nat->Option Nat} {w w':World} (hh:HeapIn F w h) (hF:∀b∈keys h,F' b=some 0) (hb:∀b∈keys h,w'.heap[b]? = w.heap[b]?) (kp:Keeps F w F' w'):HeapIn F' w' h :=
 ⟨hh.nodup,hF,fun x hx=>by
  obtain⟨l,e⟩:=hc x hx;exact zWK (hh.ok x hx) (hb x.1 (List.mem_map.2 ⟨x,hx,rfl⟩)) kp (fun _ _ h=>by rw[e] at h;cases h) (fun _ h=>by rw[e] at h;cases h)⟩
theorem zIL {F:Nat->Option Nat} {w:World} {h:List (Nat×HO)} (hh:HeapIn F w h):∀b∈keys h,b<w.heap.size:=fun b hb=>by
 obtain⟨x,hx,rfl⟩:=List.mem_map.1 hb;exact (hh.ok x hx).lt
theorem zML {n:Nat} (he:Fp.Enters Tryz.prog n) {cap:Array Value} {hin:List (Nat×HO)} (hcl:CellsL hin) (hone:(Value.func (.func n) #[] cap).oneCell'=true) (hc:∀F w,Fresh F w->HeapIn F w hin->Calls Tryz.prog n cap w fun e w'=>e = .panicked (zKN zCC)/\RowKit.Below w.heap.size w w') :
  CallsG Tryz.prog (fnv 40) hin [.lit (.func (.func n) #[] cap)] [] fun r o h=>r = .lit (.int .i64 50)/\o=0/\h=hin:=by
 refine⟨40,#[],#[],rfl,⟨_,Tryz.func40,rfl,rfl⟩,fun F w vs hfr hh ha hy=>?_⟩;have hlen:=ha.len
 match vs,hlen with
 | [v],_ =>
  have hv:=(ha.rep 0 v _ rfl rfl).lit_eq.1;subst hv;rw[show ((#[]:Array Value)++[Value.func (.func n) #[] cap].toArray ++ #[]) = #[.func (.func n) #[] cap] by simp,show yB [Value.func (.func n) #[] cap] []=[] from rfl];have hw1:(w.alloc (.cells #[.int .i64 0] 39)).heap[w.heap.size]? = some (.cells #[.int .i64 0] 39 (0,0)):=World.heap_alloc_new w _;have hsz:(w.alloc (.cells #[.int .i64 0] 39)).heap.size=w.heap.size+1:=by simp
  have hB1:RowKit.Below w.heap.size w (w.alloc (.cells #[.int .i64 0] 39)):=(RowKit.Below.refl _ w).alloc (Nat.le_refl _) _;have kp1:Keeps F w F (w.alloc (.cells #[.int .i64 0] 39)):=(Grow.alloc w _).keeps (fun b hb=>rfl);have hh1:HeapIn F (w.alloc (.cells #[.int .i64 0] 39)) hin:=hcl.keep hh hh.shut (fun b hb=>hB1.block b (zIL hh b hb)) kp1;refine (zNJ he cap w (R:=fun w'=>RowKit.Below (w.heap.size+1) (w.alloc (.cells #[.int .i64 0] 39)) w') ?_).mono ?_
  ·refine (hc F _ (fun b hb=>hfr b (by rw[hsz] at hb;omega)) hh1).mono fun e w' hp=>⟨hp.1,?_,by rw[hsz] at hp;exact hp.2⟩
   rw[hp.2.block w.heap.size (by rw[hsz];omega)];exact hw1
  ·rintro e w2 ⟨rfl,w1,hR,rfl⟩;have hB:RowKit.Below w.heap.size w ((w1.alloc (.cells #[] 119)).setCell ⟨w.heap.size,0,none⟩ (.int .i64 50)) :=
    ((hB1.trans (hR.mono (by omega))).alloc (by have:=hR.size;rw[hsz] at this;omega) _).setCell (Nat.le_refl _) _
   have hk0:Kept F (keys hin) [] w w:=⟨rfl,rfl,rfl,Nat.le_refl _,fun b hb => .inr (.inr rfl)⟩
   have hx:zR3 F F w []:=fun b hb => .inl rfl;have kp:Keeps F w F ((w1.alloc (.cells #[] 119)).setCell ⟨w.heap.size,0,none⟩ (.int .i64 50)):=by
    have hk1:Kept F (keys []) [] w w:=⟨rfl,rfl,rfl,Nat.le_refl _,fun b hb => .inr (.inr rfl)⟩
    exact (hk1.below hB).keeps hx (fun b hb=>by simp[keys] at hb)
   exact⟨_,_,0,hin,F,rfl,⟨rfl,rfl,rfl⟩,.lit _ rfl,fun sz h=>by omega,hk0.below hB,hx,fun b hb=>hfr b (Nat.le_trans hB.size hb),hcl.keep hh hh.shut (fun b hb=>hB.block b (zIL hh b hb)) kp,fun b hb => .inl hb⟩
theorem zKC {n:Nat} (he:Fp.Enters Tryz.prog n) {cap:Array Value} {hin hout:List (Nat×HO)} (hcl:CellsL hin) (hcl2:CellsL hout) (hone:(Value.func (.func n) #[] cap).oneCell'=true) (hc:∀F w,Fresh F w->HeapIn F w hin->Calls Tryz.prog n cap w (wU F (keys hin) [] w fun r o h=>r = .tup []/\o=0/\h=hout)) (hkeys:∀b∈keys hout,b∈keys hin) :
  CallsG Tryz.prog (fnv 40) hin [.lit (.func (.func n) #[] cap)] [] fun r o h=>r = .lit (.int .i64 0)/\o=0/\h=hout:=by
 refine⟨40,#[],#[],rfl,⟨_,Tryz.func40,rfl,rfl⟩,fun F w vs hfr hh ha hy=>?_⟩;have hlen:=ha.len
 match vs,hlen with
 | [v],_ =>
  have hv:=(ha.rep 0 v _ rfl rfl).lit_eq.1;subst hv;rw[show ((#[]:Array Value)++[Value.func (.func n) #[] cap].toArray ++ #[]) = #[.func (.func n) #[] cap] by simp,show yB [Value.func (.func n) #[] cap] []=[] from rfl];have hw1:(w.alloc (.cells #[.int .i64 0] 39)).heap[w.heap.size]? = some (.cells #[.int .i64 0] 39 (0,0)):=World.heap_alloc_new w _;have hsz:(w.alloc (.cells #[.int .i64 0] 39)).heap.size=w.heap.size+1:=by simp
  have hB1:RowKit.Below w.heap.size w (w.alloc (.cells #[.int .i64 0] 39)):=(RowKit.Below.refl _ w).alloc (Nat.le_refl _) _;have kp1:Keeps F w F (w.alloc (.cells #[.int .i64 0] 39)):=(Grow.alloc w _).keeps (fun b hb=>rfl);have hh1:HeapIn F (w.alloc (.cells #[.int .i64 0] 39)) hin:=hcl.keep hh hh.shut (fun b hb=>hB1.block b (zIL hh b hb)) kp1;have hlt:=zIL hh;refine (zRL he cap w (R:=fun w' => ∃F',Kept F (keys hin) [] (w.alloc (.cells #[.int .i64 0] 39)) w'/\zR3 F F' (w.alloc (.cells #[.int .i64 0] 39)) []/\Fresh F' w'/\HeapIn F' w' hout/\w'.heap[w.heap.size]? = some (.cells #[.int .i64 0] 39 (0,0))) ?_).mono ?_
  ·refine (hc F _ (fun b hb=>hfr b (by rw[hsz] at hb;omega)) hh1).mono fun e w' hp=>?_;obtain⟨v,r,o,h,F',rfl,⟨rfl,rfl,rfl⟩,p1,p2,p3,p4,p5,p6,p7⟩:=hp;obtain⟨cs,rfl,hcs,_⟩:=p1.tup_eq;have e0:cs = #[]:=Array.eq_empty_of_size_eq_zero (by simpa using hcs);have hb:w'.heap[w.heap.size]? = some (.cells #[.int .i64 0] 39 (0,0)):=by
    rcases p3.block w.heap.size (by rw[hsz];omega) with h|⟨h,_⟩|h
    ·have:=hlt _ h;omega
    ·simp at h
    ·rw[h];exact hw1
   exact⟨by rw[e0],hb,F',p3,p4,p5,p6,hb⟩
  ·rintro e w2 ⟨rfl,w1,⟨F',p3,p4,p5,p6,hb⟩,rfl⟩;have hne:∀b,b<w.heap.size->(w1.setCell ⟨w.heap.size,0,none⟩ (.int .i64 0)).heap[b]? = w1.heap[b]?:=fun b hb=>RowKit.Below.heap_setCell _ _ _ _ (by show b≠w.heap.size;omega);have hcell:∀a,(w1.setCell ⟨w.heap.size,0,none⟩ (.int .i64 0)).cell? a=w1.cell? a:=fun a=>by
    by_cases e:(⟨w.heap.size,0,none⟩:Addr)=a
    ·subst e;have h1:w1.cell? ⟨w.heap.size,0,none⟩=some (.int .i64 0):=by simp[World.cell?,hb]
     rw[World.cell?_setCell_same' _ _ _ (by rw[h1];rfl),h1]
    ·exact World.cell?_setCell_other _ _ _ _ e
   have hsame:∀b,b≠w.heap.size->(w1.setCell ⟨w.heap.size,0,none⟩ (.int .i64 0)).heap[b]? = w1.heap[b]?:=fun b hb=>RowKit.Below.heap_setCell _ _ _ _ hb;have kp:Keeps F' w1 F' (w1.setCell ⟨w.heap.size,0,none⟩ (.int .i64 0)):=⟨fun b k u h c=>⟨by rw[hcell];exact h,c⟩,fun b es c h hc=>⟨by
    rw[hsame b (fun e=>by rw[e,hb] at h;cases h)];exact h,hc⟩⟩
   have hsz2:(w1.setCell ⟨w.heap.size,0,none⟩ (.int .i64 0)).heap.size=w1.heap.size:=by simp[World.setCell]
   refine⟨_,_,0,hout,F',rfl,⟨rfl,rfl,rfl⟩,.lit _ rfl,fun sz h=>by omega,⟨?_,?_,?_,?_,fun b hlt2=>?_⟩,fun b hlt2=>p4 b (by rw[hsz];omega),fun b hb2=>p5 b (by rw[hsz2] at hb2;exact hb2),hcl2.keep p6 p6.shut (fun b hb2=>hne b (hlt b (hkeys b hb2))) kp,fun b hb2 => .inl (hkeys b hb2)⟩
   ·exact p3.os
   ·exact p3.tape
   ·exact p3.output
   ·have:=p3.size;rw[hsz] at this;rw[hsz2];omega
   ·rw[hne b hlt2];rcases p3.block b (by rw[hsz];omega) with h|⟨h,_⟩|h
    ·exact .inl h
    ·simp at h
    ·exact .inr (.inr (h.trans (hB1.block b hlt2)))
def zBC:Tp->List ByteArray->Option (List ByteArray×Tp)
 | .all s a,vs=>if s∈vs then none else zBC a (vs++[s])
 | t,vs=>some (vs,t)
def wC:Nat->Tp->Option (List Tp×Tp)
 | 0,t=>some ([],t)
 | n+1,t=>if (partsOf t).2.2=true then (wC n (partsOf t).2.1).map (fun q=>((partsOf t).1::q.1,q.2)) else none
def xQ (f:Fd):Option (List Tp×ByteArray×List ByteArray):=match zBC f.t [] with
 | none=>none
 | some (vs,t)=>match wC f.ar.toNat t with
  | none=>none
  | some (l,u)=>if (jC u).form=3/\(zS u).reverse=vs.map Tp.var then some (l,(jC u).nam,vs) else none
theorem zMO {t:Tp} {vs:List ByteArray} (h:¬t.form=5):zBC t vs=some (vs,t):=by cases t<;>first|rfl|exact absurd rfl h
theorem zBH {s:ByteArray} {a:Tp} {vs:List ByteArray}:zBC (.all s a) vs=if s∈vs then none else zBC a (vs++[s]):=rfl
theorem zI4:∀(n:Nat) (t:Tp) (q:List Tp×Tp),wC n t=some q->q.1.length=n
 | 0,t,q,h=>by cases h;rfl
 | n+1,t,q,h=>by
  simp only[wC] at h;split at h
  ·cases hq:wC n (partsOf t).2.1 with
   | none=>rw[hq] at h;cases h
   | some r=>rw[hq] at h;cases h;simp[zI4 n _ r hq]
  ·cases h
theorem isVarP {x:Tp} {v:ByteArray}:(x.form=2/\x.nam=v)↔x = .var v:=by
 cases x<;>simp[Tp.form,Tp.nam]
abbrev St1 (f:Fd):={p:List ByteArray×Tp // zBC p.2 p.1=zBC f.t []/\p.1.length+dp p.2<=dp f.t}
abbrev St2 (f:Fd) (t:Tp):={p:List Tp×Tp // p.1.length<=f.ar.toNat/\(wC (f.ar.toNat-p.1.length) p.2).map (fun q=>(p.1++q.1,q.2))=wC f.ar.toNat t}
theorem zZT {f:Fd} {l:List Tp} {n:ByteArray} {vs:List ByteArray} (hs:xQ f=some (l,n,vs)) (hd:dp f.t<1000000) (ha:f.ar<=1000000):zC Tryz.prog 154 [eFd f] (.tup [.sl (zO l),.lit (.string n),.sl (eSs vs)]):=by
 obtain⟨t0,hA⟩:∃t0,zBC f.t []=some (vs,t0):=by
  unfold xQ at hs;split at hs
  ·cases hs
  ·rename_i vs' t0 hA;split at hs
   ·cases hs
   ·split at hs
    ·cases hs;exact⟨t0,hA⟩
    ·cases hs
 obtain⟨u,hF⟩:∃u,wC f.ar.toNat t0=some (l,u):=by
  unfold xQ at hs;rw[hA] at hs;simp only at hs;split at hs
  ·cases hs
  ·rename_i l' u hF;split at hs
   ·cases hs;exact⟨u,hF⟩
   ·cases hs
 have hS:(jC u).form=3/\(zS u).reverse=vs.map Tp.var/\n=(jC u).nam:=by
  unfold xQ at hs;rw[hA] at hs;simp only[hF] at hs;split at hs
  ·rename_i h;cases hs;exact⟨h.1,h.2,rfl⟩
  ·cases hs
 obtain⟨hS1,hS2,rfl⟩:=hS;have hll:=zI4 _ _ _ hF;simp only at hll;refine zA ttok mixed Tryz.func154 rfl (by rfl) (Nat.le_of_ble_eq_true rfl) (by kernel_rfl) ?_;refine⟨St1 f,fun p=>{vs:=[(1,.box 0 (eFd f)),(2,.v (.sl [])),(3,.v (.lit (.string ⟨#[]⟩))),(4,.v (.sl (eSs p.1.1))),(5,.box 0 (eTy p.1.2))],ow:=[(2,0,5),(4,0,2)]},fun p=>p.1.2.sz,⟨([],f.t),rfl,by simp⟩,⟨⟨rfl,rfl,rfl,rfl,rfl,trivial⟩,⟨trivial,trivial,trivial⟩,rfl⟩,?_⟩;rintro⟨⟨ws,cur⟩,hp,hlen⟩;simp only at hp hlen;refine⟨fun h=>?_,fun h=>?_⟩
 ·obtain⟨s,a,rfl⟩:=Tp.is_all (t:=cur) (by simpa using h);have hns:s∉ws:=fun hm=>by rw[zBH,if_pos hm,hA] at hp;cases hp
  rw[zBH,if_neg hns] at hp;simp only[dp] at hlen;refine .inl ⟨_,qP (l:=ws) (s:=s) (by omega),?_⟩;refine .inl ⟨_,xC (by rw[qA hns];rfl),?_⟩;refine⟨by simp[eSs];omega,wG _,wG [_],?_⟩;refine⟨eTy a,by omega,rfl,rfl,?_⟩;exact⟨⟨(ws++[s],a),hp,by simp;omega⟩,by simp only[Tp.sz];omega,⟨rfl,rfl,rfl,congrArg (fun l=>SV.v (AV.sl l)) (zFX ws s),rfl,trivial⟩,⟨rfl,rfl,trivial⟩,rfl⟩
 have h5:¬cur.form=5:=by simpa using h
 rw[zMO h5,hA] at hp;cases hp
 clear h h5;refine⟨St2 f t0,fun p=>{vs:=[(2,.v (.sl (zO p.1.1))),(4,.v (.sl (eSs vs))),(5,.box 0 (eTy p.1.2)),(34,sv f.ar),(35,sv (p.1.1.length:Nat))],ow:=[(2,0,5),(4,0,2)]},fun p=>f.ar.toNat-p.1.1.length,⟨([],t0),by simp,by simp⟩,⟨⟨rfl,rfl,rfl,rfl,rfl,trivial⟩,⟨rfl,rfl,trivial⟩,rfl⟩,?_⟩;rintro⟨⟨ls,cur⟩,hp1,hp2⟩;simp only at hp1 hp2;refine⟨fun h=>?_,fun h=>?_⟩
 ·have h:ls.length<f.ar.toNat:=by have h:=of_decide_eq_true h;simp only at h;omega
  rw[show f.ar.toNat-ls.length=(f.ar.toNat-(ls.length+1))+1 by omega] at hp2;have hf:(partsOf cur).2.2=true:=Classical.byContradiction fun hn=>by
   simp only[wC,if_neg hn,Option.map_none,hF] at hp2;cases hp2
  simp only[wC,if_pos hf,Option.map_map] at hp2;refine .inl ⟨_,split_ok cur,?_⟩;refine .inl ⟨_,xC hf,?_⟩;refine⟨by simp[zO];omega,zDE _,zDE [_],?_⟩;refine⟨by kernel_rfl,?_⟩;refine⟨⟨(ls++[(partsOf cur).1],(partsOf cur).2.1),by simp;omega,?_⟩,by simp;omega,⟨?_,rfl,rfl,rfl,?_,trivial⟩,⟨rfl,rfl,trivial⟩,rfl⟩
  ·rw[<-hp2];simp only[List.length_append,List.length_cons,List.length_nil,Nat.zero_add]
   congr 1
   funext q
   simp
  ·show _=SV.v (AV.sl (zO (ls++[(partsOf cur).1])));rw[show zO (ls++[(partsOf cur).1])=zO ls++[eTy (partsOf cur).1] by simp[zO]];exact rfl
  ·simp only[List.length_append,List.length_cons,List.length_nil,Nat.zero_add];exact svc (wrap_succ (k:=ls.length) (by omega))
 have h:ls.length=f.ar.toNat:=by have h:=of_decide_eq_false h;simp only at h;omega
 rw[h,Nat.sub_self] at hp2;simp only[wC,Option.map_some,List.append_nil,hF,Option.some.injEq] at hp2;cases hp2
 have hlv:(zS u).length=vs.length:=by have:=congrArg List.length hS2;simpa using this
 have hvl:vs.length<1000000:=by omega
 refine .inl ⟨_,zO7 u (by omega),?_⟩;refine⟨fun _=>?_,fun h=>absurd hS1 (of_decide_eq_false h)⟩;refine .inl ⟨_,xC (decide_eq_true (by simp[zO,eSs,hlv])),?_⟩;rw[hS2];have hlm:(zO (vs.map Tp.var)).length=vs.length:=by simp[zO]
 refine⟨{k:Nat // k<=vs.length},fun k=>{vs:=[(2,.v (.sl (zO l))),(4,.v (.sl (eSs vs))),(9,.box 0 (eTy (jC u))),(67,.v (.sl (zO (vs.map Tp.var)))),(68,sv (vs.length:Nat)),(69,sv (k.1:Nat))]},fun k=>vs.length-k.1,⟨0,Nat.zero_le _⟩,⟨⟨rfl,rfl,rfl,rfl,svc (by rw[hlm]),rfl,trivial⟩,trivial,rfl⟩,?_⟩;rintro⟨k,hk⟩;refine⟨fun h=>?_,fun h=>?_⟩
 ·have h:k<vs.length:=by have h:=of_decide_eq_true h;simp only at h;omega
  refine⟨eTy (.var vs[k]),by omega,by simp[zO,h],rfl,?_⟩;refine⟨fun _=>?_,fun h=>(by cases h)⟩;refine⟨_,by omega,zIG h,rfl,?_⟩;refine .inl ⟨_,xC (decide_eq_true rfl),?_⟩;refine⟨by kernel_rfl,?_⟩;exact⟨⟨k+1,h⟩,by simp;omega,⟨rfl,rfl,rfl,rfl,rfl,svc (wrap_succ (k:=k) (by omega)),trivial⟩,trivial,rfl⟩
 refine⟨by kernel_rfl,?_⟩;exact rfl
def wO (l:List Fd) (s:ByteArray):Option Fd:=l.find? fun f=>decide (f.nm=s)
theorem zDO:∀{l:List Fd} {s:ByteArray} {f:Fd},wO l s=some f->∃i,∃h:i<l.length,l[i]=f/\ixI (l.map Fd.nm) s=(i:Nat)
 | [],_,_,h=>by cases h
 | x::l,s,f,h=>by
  by_cases e:x.nm=s
  ·simp only[wO,List.find?_cons,decide_eq_true e] at h;cases h
   exact⟨0,by simp,rfl,by rw[List.map_cons,e];simp[ixI]⟩
  ·simp only[wO,List.find?_cons,decide_eq_false e] at h;obtain⟨i,h1,h2,h3⟩:=zDO h;have hm:s∈l.map Fd.nm:=by
    rw[ixI] at h3;split at h3
    ·assumption
    ·omega
   refine⟨i+1,by simp;omega,by simpa using h2,?_⟩;rw[List.map_cons,zK7 e hm,h3];rfl
theorem zUW {w:Wd} {s:ByteArray} {f:Fd} (hl:w.fs.length<10000000) (h:wO w.fs s=some f):zC Tryz.prog 141 [eW w,.lit (.string s)] (eFd f):=by
 obtain⟨i,h1,h2,h3⟩:=zDO h;rw[<-h2];exact zP8 w s hl h1 h3
abbrev Al:=(Int×Int×ByteArray)×List ByteArray×Cr
abbrev bys (vs:List ByteArray) (t:Tp):Env':=vs.zip (zS t).reverse
noncomputable def yM (xs:List ByteArray) (l:List Tp) (ps:Env'):List Nm2:=xs.zip (l.map fun t=>sub t ps)
noncomputable def zAL (w:Wd) (t:Tp) (a:Al):Option Wd :=
 if a.1.1=3 then some w else if a.1.1=2 then (if smb t (.con yE) [] []=true then some w else none)
 else if a.1.1=1 then (match wO w.fs a.1.2.2 with
  | none=>none
  | some f=>match xQ f with
   | none=>none
   | some (l,n,vs)=>if (jC t).form=3/\(jC t).nam=n/\(zS t).length=vs.length/\a.2.1.length=l.length/\a.2.1.Nodup then some (w.more (yM a.2.1 l (bys vs t))) else none)
 else none
theorem zY1 {vs:List ByteArray} {l:List Tp} (h:vs.length=l.length):eN (vs.zip l)=eSs vs:=by
 simp only[eN,eSs];rw[show (vs.zip l).map (·.1)=vs from List.map_fst_zip (by omega)]
theorem zW8 {vs:List ByteArray} {l:List Tp} (h:vs.length=l.length):eB (vs.zip l)=zO l:=by
 simp only[eB,zO];rw[show (vs.zip l).map (·.2)=l from List.map_snd_zip (by omega)]
theorem Wd.more_more (w:Wd) (a b:List Nm2):(w.more a).more b=w.more (a++b):=by simp[Wd.more]
theorem zF6 (w:Wd):w.more []=w:=by simp[Wd.more]
theorem zN6 {xs:List ByteArray} {l:List Tp} {ps:Env'} {k:Nat} (h1:k<xs.length) (h2:k<l.length):(yM xs l ps).take (k+1)=(yM xs l ps).take k++[(xs[k],sub l[k] ps)]:=by
 rw[List.take_succ_eq_append_getElem (by simp[yM];omega)];simp[yM]
theorem zLC {xs:List ByteArray} (h:xs.Nodup) {k:Nat} (hk:k<xs.length):xs[k]∉xs.take k:=fun hm=>by
 obtain⟨j,h1,h2⟩:=List.getElem_of_mem hm;rw[List.length_take] at h1;rw[List.getElem_take] at h2;exact List.pairwise_iff_getElem.1 h j k (by omega) hk (by omega) h2
theorem z4H (xs:List ByteArray) (k:Nat):List.drop (Int.toNat 0) (List.take (Int.toNat ((k:Nat):Int)) (eSs xs))=eSs (xs.take k):=by simp[eSs]
theorem z2L (w:Wd) (t:Tp) {a:Al} (h:a.1.1=3):zC Tryz.prog 144 [eW w,eTy t,eAl a] (eW w):=by
 refine zA ttok mixed Tryz.func144 rfl (by rfl) (Nat.le_of_ble_eq_true rfl) (by kernel_rfl) ?_;refine⟨fun _=>?_,fun hn=>absurd h (of_decide_eq_false hn)⟩;exact rfl
theorem z4U {w:Wd} {t:Tp} {a:Al} (h:a.1.1=2) (hd:dp t<1000000000) (hs:smb t (.con yE) [] []=true):zC Tryz.prog 144 [eW w,eTy t,eAl a] (eW w):=by
 refine zA ttok mixed Tryz.func144 rfl (by rfl) (Nat.le_of_ble_eq_true rfl) (by kernel_rfl) ?_;refine⟨fun hn=>absurd (of_decide_eq_true hn) (by rw[h];decide),fun _=>?_⟩;refine⟨fun _=>?_,fun hn=>absurd h (of_decide_eq_false hn)⟩;refine .inl ⟨_,zFL _,?_⟩;refine .inl ⟨_,qX _ _ hd,?_⟩;refine .inl ⟨_,xC hs,?_⟩;refine⟨by kernel_rfl,?_⟩;exact rfl
theorem z4R {w:Wd} {t:Tp} {a:Al} {f:Fd} {l:List Tp} {n:ByteArray} {vs:List ByteArray} (h:a.1.1=1) (hfl:w.fs.length<10000000) (hf:wO w.fs a.1.2.2=some f) (hsh:xQ f=some (l,n,vs)) (hdf:dp f.t<1000000) (har:f.ar<=1000000)
  (hsp:(zS t).length<1000000) (hc:(jC t).form=3/\(jC t).nam=n/\(zS t).length=vs.length/\a.2.1.length=l.length/\a.2.1.Nodup) {K:Nat} (hfit:∀x∈l,FitX K x (bys vs t)) (hel:w.env.length+a.2.1.length<=100000):zC Tryz.prog 144 [eW w,eTy t,eAl a] (eW (w.more (yM a.2.1 l (bys vs t)))):=by
 obtain⟨c1,c2,c3,c4,c5⟩:=hc;have hrl:(zS t).reverse.length=vs.length:=by simp[c3]
 have eNv:eN (bys vs t)=eSs vs:=zY1 hrl.symm;have eBv:eB (bys vs t)=zO (zS t).reverse:=zW8 hrl.symm;refine zA ttok mixed Tryz.func144 rfl (by rfl) (Nat.le_of_ble_eq_true rfl) (by kernel_rfl) ?_;refine⟨fun hn=>absurd (of_decide_eq_true hn) (by rw[h];decide),fun _=>?_⟩;refine⟨fun hn=>absurd (of_decide_eq_true hn) (by rw[h];decide),fun _=>?_⟩;refine⟨fun _=>?_,fun hn=>absurd h (of_decide_eq_false hn)⟩;refine .inl ⟨_,zUW hfl hf,?_⟩;refine .inl ⟨_,zZT hsh hdf har,?_⟩;refine .inl ⟨_,zO7 t hsp,?_⟩;refine⟨fun _=>?_,fun hn=>absurd c1 (of_decide_eq_false hn)⟩;refine⟨fun _=>?_,fun hn=>absurd c2 (of_decide_eq_false hn)⟩;refine⟨fun _=>?_,fun hn=>absurd (of_decide_eq_false hn) (by simp[zO,eSs,c3])⟩;refine .inl ⟨_,xC (decide_eq_true (by simp[zO,eSs,c4])),?_⟩;have hll:(zO l).length=l.length:=by simp[zO]
 refine⟨{k:Nat // k<=l.length},fun k=>{vs:=[(3,.box 0 (eW (w.more ((yM a.2.1 l (bys vs t)).take k.1)))),(5,.box 0 (eAl a)),(6,.box 0 (.agg [.sl [],.sl [],.sl [],.sl [],.lit (.int .i64 0)])),(9,.v (.sl (eSs vs))),(11,.v (.sl (zO (zS t).reverse))),(67,.v (.sl (zO l))),(68,sv (l.length:Nat)),(69,sv (k.1:Nat))]},fun k=>l.length-k.1,⟨0,Nat.zero_le _⟩,⟨⟨?_,rfl,rfl,rfl,rfl,rfl,svc (by rw[hll]),rfl,trivial⟩,trivial,rfl⟩,?_⟩
 ·show SV.box 0 (eW w)=SV.box 0 (eW (w.more ((yM a.2.1 l (bys vs t)).take 0)));rw[List.take_zero,zF6]
 rintro⟨k,hk⟩;refine⟨fun h=>?_,fun h=>?_⟩
 ·have h:k<l.length:=by have h:=of_decide_eq_true h;simp only at h;omega
  have hkx:k<a.2.1.length:=by omega
  refine⟨eTy l[k],by omega,zTK h,rfl,?_⟩;have hsl:=z4H a.2.1 k;have hct:=qP (l:=a.2.1.take k) (s:=a.2.1[k]) (by rw[List.length_take];omega);rw[<-hsl] at hct;refine⟨by decide,by omega,by simp[eSs];omega,.inl rfl,?_⟩;refine⟨_,by omega,zIG hkx,rfl,?_⟩;refine .inr (.inl ⟨_,hct,?_⟩);refine .inl ⟨_,xC (by rw[qA (zLC c5 hkx)];rfl),?_⟩;refine⟨by kernel_rfl,?_⟩;refine⟨_,by omega,zIG hkx,rfl,?_⟩;have hsb:=zB3 l[k].sz l[k] (Nat.le_refl _) K (bys vs t) (hfit _ (List.getElem_mem h));unfold wM at hsb;rw[eNv,eBv] at hsb;refine .inl ⟨_,hsb,?_⟩;have htl:((yM a.2.1 l (bys vs t)).take k).length<=k:=by rw[List.length_take];omega
  refine .inl ⟨_,zF2 (w.more ((yM a.2.1 l (bys vs t)).take k)) [(a.2.1[k],sub l[k] (bys vs t))] (by simp only[Wd.more,List.length_append,List.length_cons,List.length_nil];omega),?_⟩;refine⟨by kernel_rfl,?_⟩;refine⟨⟨k+1,h⟩,by simp;omega,⟨?_,rfl,rfl,rfl,rfl,rfl,rfl,svc (wrap_succ (k:=k) (by omega)),trivial⟩,trivial,rfl⟩;rw[zN6 hkx h,<-Wd.more_more];exact rfl
 have h:k=l.length:=by have h:=of_decide_eq_false h;simp only at h;omega
 subst h;rw[List.take_of_length_le (by simp[yM];omega)];exact rfl
theorem zHW:∀(t:Tp) (ws vs:List ByteArray) (u:Tp),zBC t ws=some (vs,u)->u.sz<=t.sz/\vs.length<=ws.length+dp t/\dp u<=dp t:=by
 intro t;induction t with
 | all s a ih =>
  intro ws vs u h;rw[zBH] at h;split at h
  ·cases h
  ·have:=ih _ _ _ h;simp only[List.length_append,List.length_cons,List.length_nil] at this;simp only[Tp.sz,dp];omega
 | _=>intro ws vs u h;cases h;exact⟨Nat.le_refl _,by omega,Nat.le_refl _⟩
theorem zS1 {t:Tp} (h:(partsOf t).2.2=true):(partsOf t).2.1.sz<=t.sz/\(partsOf t).1.sz<=t.sz/\dp (partsOf t).1<=dp t/\dp (partsOf t).2.1<=dp t:=by
 have hb:=zNH t h;have h1:=congrArg Tp.sz hb;have h2:=congrArg Go.Proofs.YtdmbahepaglcbaaGreatDoor.dp hb;simp only[Tp.sz,Go.Proofs.YtdmbahepaglcbaaGreatDoor.dp] at h1 h2;omega
theorem zEE:∀(n:Nat) (t u:Tp) (l:List Tp),wC n t=some (l,u)->u.sz<=t.sz/\dp u<=dp t/\∀x∈l,x.sz<=t.sz/\dp x<=dp t
 | 0,t,u,l,h=>by cases h;exact⟨Nat.le_refl _,Nat.le_refl _,by simp⟩
 | n+1,t,u,l,h=>by
  simp only[wC] at h;split at h
  ·rename_i hf;have hp:=zS1 hf;cases hq:wC n (partsOf t).2.1 with
   | none=>rw[hq] at h;cases h
   | some r =>
    rw[hq] at h;cases h
    have:=zEE n _ _ _ hq;refine⟨by omega,by omega,fun x hx=>?_⟩;rcases List.mem_cons.1 hx with rfl|hx
    ·exact⟨hp.2.1,hp.2.2.1⟩
    ·have:=this.2.2 x hx;omega
  ·cases h
structure FdOk (f:Fd):Prop where
 sz:f.t.sz<1000000
 ar:f.ar<=1000000
theorem FdOk.dp {f:Fd} (h:FdOk f):dp f.t<1000000:=Nat.lt_of_le_of_lt (zAM _) h.sz
theorem zPQ:∀(xs:List ByteArray),¬xs.Nodup->∃k,∃h:k<xs.length,xs[k]∈xs.take k/\∀(j:Nat) (hj:j<xs.length),j<k->xs[j]∉xs.take j:=by
 intro xs hn;have hex:∃k,∃h:k<xs.length,xs[k]∈xs.take k:=Classical.byContradiction fun hno=>hn (List.pairwise_iff_getElem.2 fun i j hi hj hij e=>hno ⟨j,hj,by
  rw[<-e];exact List.mem_of_getElem? (i:=i) (by rw[List.getElem?_take,if_pos hij];exact List.getElem?_eq_getElem hi)⟩)
 obtain⟨k0,h0⟩:=hex;obtain⟨k,⟨h1,h2⟩,h3,_⟩:=least (fun k => ∃h:k<xs.length,xs[k]∈xs.take k) k0 h0;exact⟨k,h1,h2,fun j hj hjk hm=>h3 j hjk ⟨hj,hm⟩⟩
abbrev Bd:=ByteArray×Tp×Cr
def qI (sn:List ByteArray):List (AV×AV):=sn.map fun s=>(.lit (.string s),.agg [])
theorem qK (sn:List ByteArray):∀p∈qI sn,jJ (.lit (.string .empty)) p.1:=fun p hp=>by
 obtain⟨y,_,rfl⟩:=List.mem_map.1 hp;trivial
theorem zB9 {sn:List ByteArray} {s:ByteArray} (h:s∉sn):Fp.Found (qI sn) (.string s) none := .no fun p hp=>by
 obtain⟨y,hy,rfl⟩:=List.mem_map.1 hp;intro e;have e:AV.lit (.string y) = .lit (.string s):=e;injection e with e;injection e with e
 exact h (e ▸ hy)
theorem zM6:∀{sn:List ByteArray} {s:ByteArray},s∈sn->∃j,Fp.Found (qI sn) (.string s) (some (j,.agg []))
 | x::r,s,h=>by
  by_cases hx:x=s
  ·exact⟨0,.yes 0 _ (by simp[qI,hx]) (fun i hi=>by omega)⟩
  ·obtain⟨j,hj⟩:=zM6 (sn:=r) ((List.mem_cons.1 h).resolve_left (fun e=>hx e.symm));cases hj with
   | yes j a h hf =>
    refine⟨j+1,.yes (j+1) _ (by simpa[qI] using h) (fun i hi p hp=>?_)⟩
    match i with
    | 0 =>
     simp[qI] at hp;subst hp;intro e;have e:AV.lit (.string x) = .lit (.string s):=e;injection e with e;injection e with e
     exact hx e
    | i+1=>exact hf i (by omega) p (by simpa[qI] using hp)
theorem zE6 (sn:List ByteArray) (s:ByteArray):qI (sn++[s])=zCJ (qI sn) (.string s) (.agg []) none:=by simp[qI,zCJ]
noncomputable def bdL (w:Wd) (l:List Bd):List Nm2:=l.map fun b=>(b.1,w.mean b.2.1)
theorem zJA {w:Wd} {l:List Bd} {k:Nat} (h:k<l.length):(bdL w l).take (k+1)=(bdL w l).take k++[(l[k].1,w.mean l[k].2.1)]:=by
 rw[List.take_succ_eq_append_getElem (by simpa[bdL] using h)];simp[bdL]
theorem zFD {l:List Bd} {k:Nat} (h:k<l.length):(l.map (·.1)).take (k+1)=(l.map (·.1)).take k++[l[k].1]:=by
 rw[List.take_succ_eq_append_getElem (by simpa using h)];simp
theorem zPM (l:List Bd):(zN l).length=l.length:=by simp[zN]
structure IsT (w:Wd) (u:Tp) (p:Cr):Prop where
 of:∃t,OfS w p t/\smb t u [] []=true/\dp t<1000000000
theorem zLU {w:Wd} {l:List Bd} (hl:w.env.length+l.length<=100000) (hnd:(l.map (·.1)).Nodup) {K:Nat} (hf:∀b∈l,FitX K b.2.1 w.ps) (h:∀b∈l,IsT (w.more (bdL w l)) (w.mean b.2.1) b.2.2):zC Tryz.prog 65 [eW w,.sl (zN l)] (eW (w.more (bdL w l))):=by
 refine CallsG.lessS (post:=fun r o h=>r=eW (w.more (bdL w l))) ?_ (fun r o h hp=>⟨[],List.nil_sublist _,hp,rfl,rfl⟩);refine qG (first:=[]) (cap:=[]) ttok mixed Tryz.func65 rfl (by rfl) rfl (Nat.le_of_ble_eq_true rfl) (by kernel_rfl) ?_;intro b;refine⟨{k:Nat // k<=l.length},fun k=>{vs:=[(1,.v (.sl (zN l))),(2,.box 0 (eW w)),(4,.box 0 (.agg [.sl [],.sl [],.sl [],.sl [],.lit (.int .i64 0)])),(5,.v (.lit (.map (some b)))),(6,.box 0 (eW (w.more ((bdL w l).take k.1)))),(15,.v (.sl (zN l))),(16,sv (l.length:Nat)),(17,sv (k.1:Nat))],hp:=[(b,HO.mp (qI ((l.map (·.1)).take k.1)))]},fun k=>l.length-k.1,⟨0,Nat.zero_le _⟩,⟨⟨rfl,rfl,rfl,rfl,?_,rfl,svc (by rw[zPM]),rfl,trivial⟩,trivial,rfl⟩,?_⟩
 ·show SV.box 0 (eW w)=SV.box 0 (eW (w.more ((bdL w l).take 0)));rw[List.take_zero,zF6]
 rintro⟨k,hk⟩;refine⟨fun h1=>?_,fun h1=>?_⟩
 ·have h1:k<l.length:=by have h:=of_decide_eq_true h1;simp only at h;omega
  refine⟨eBd l[k],by omega,zCE h1,rfl,?_⟩;have hno:l[k].1∉(l.map (·.1)).take k:=by
   have:=zLC hnd (k:=k) (by simpa using h1);simpa using this
  refine⟨0,_,none,rfl,qK _,trivial,zB9 hno,?_⟩;refine .inl ⟨_,xC rfl,?_⟩;refine⟨0,_,none,rfl,qK _,trivial,zB9 hno,?_⟩;refine .inl ⟨_,qH w l[k].2.1 (hf _ (List.getElem_mem h1)),?_⟩;have htl:((bdL w l).take k).length<=k:=by rw[List.length_take];omega
  refine .inl ⟨_,zF2 (w.more ((bdL w l).take k)) [(l[k].1,w.mean l[k].2.1)] (by simp only[Wd.more,List.length_append,List.length_cons,List.length_nil];omega),?_⟩;refine⟨by kernel_rfl,?_⟩;refine⟨⟨k+1,h1⟩,by simp;omega,⟨rfl,rfl,rfl,rfl,?_,rfl,rfl,svc (wrap_succ (k:=k) (by omega)),trivial⟩,trivial,?_⟩
  ·rw[zJA h1,<-Wd.more_more];exact rfl
  ·show [(b,HO.mp (zCJ (qI ((l.map (·.1)).take k)) (.string l[k].1) (.agg []) none))]=[(b,HO.mp (qI ((l.map (·.1)).take (k+1))))];rw[zFD h1,zE6]
 have h1:k=l.length:=by have h:=of_decide_eq_false h1;simp only at h;omega
 subst h1;rw[List.take_of_length_le (by simp[bdL])];refine⟨{k:Nat // k<=l.length},fun k=>{vs:=[(2,.box 0 (eW w)),(4,.box 0 (.agg [.sl [],.sl [],.sl [],.sl [],.lit (.int .i64 0)])),(6,.box 0 (eW (w.more (bdL w l)))),(46,.v (.sl (zN l))),(47,sv (l.length:Nat)),(48,sv (k.1:Nat))],hp:=[(b,HO.mp (qI ((l.map (·.1)).take l.length)))]},fun k=>l.length-k.1,⟨0,Nat.zero_le _⟩,⟨⟨rfl,rfl,rfl,rfl,svc (by rw[zPM]),rfl,trivial⟩,trivial,rfl⟩,?_⟩;rintro⟨k,hk⟩;refine⟨fun h1=>?_,fun h1=>?_⟩
 ·have h1:k<l.length:=by have h:=of_decide_eq_true h1;simp only at h;omega
  obtain⟨t,q1,q2,q3⟩:=(h _ (List.getElem_mem h1)).of;refine⟨eBd l[k],by omega,zCE h1,rfl,?_⟩;refine .inl ⟨_,q1,?_⟩;refine .inl ⟨_,qH w l[k].2.1 (hf _ (List.getElem_mem h1)),?_⟩;refine .inl ⟨_,qX _ _ q3,?_⟩;refine .inl ⟨_,xC q2,?_⟩;refine⟨by kernel_rfl,?_⟩;exact⟨⟨k+1,h1⟩,by simp;omega,⟨rfl,rfl,rfl,rfl,rfl,svc (wrap_succ (k:=k) (by omega)),trivial⟩,trivial,rfl⟩
 exact rfl
end Go.Proofs.YtdmbahepaglcbaaGreatDoor
