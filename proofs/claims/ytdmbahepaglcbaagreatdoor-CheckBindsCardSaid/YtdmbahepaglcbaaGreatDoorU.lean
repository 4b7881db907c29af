/- Binds: whether binds are of their types. No condition but on what is within. -/
import Derived.Test.YtdmbahepaglcbaaGreatDoorT
import Derived.Test.YtdmbahepaglcbaaGreatDoorG
import Derived.Test.YtdmbahepaglcbaaGreatDoorL
import Derived.Test.YtdmbahepaglcbaaGreatDoorP
import Derived.Test.YtdmbahepaglcbaaGreatDoorS
set_option linter.unusedSimpArgs false
set_option linter.unusedVariables false
namespace Go.Proofs.YtdmbahepaglcbaaGreatDoor
open Go Fp
set_option maxRecDepth 10000
set_option maxHeartbeats 8000000
set_option linter.unusedVariables false
abbrev hBi (fs:List Fd) (env:List Nm2) (l:List Bd) (b3 b4 b5:Nat):List (Nat×HO):=[(b3,HO.cells [.sl (qL fs)]),(b4,HO.cells [.sl (yZ env)]),(b5,HO.cells [.sl (zN l)])]
theorem zO0 {fs:List Fd} {env:List Nm2} {l:List Bd} {w':Wd} (h:zC Tryz.prog 65 [eW (.of fs env),.sl (zN l)] (eW w')) (b3 b4 b5:Nat):CallsG Tryz.prog (.func (.func 64) #[] #[pB b3,pB b4,pB b5]) (hBi fs env l b3 b4 b5) [] [] fun r o h=>r = .tup []/\o=0/\h=hBi fs env l b3 b4 b5:=by
 refine qG (first:=[]) (cap:=[pB b3,pB b4,pB b5]) ttok mixed Tryz.func64 rfl (by rfl) rfl (Nat.le_of_ble_eq_true rfl) (by kernel_rfl) ?_;refine⟨0,_,_,rfl,rfl,?_⟩;refine⟨1,_,_,rfl,rfl,?_⟩;refine⟨2,_,_,rfl,rfl,?_⟩;refine .inl ⟨_,h,?_⟩;exact⟨rfl,rfl,rfl⟩
theorem zS6 {fs:List Fd} {env:List Nm2} {l:List Bd} (h:zAK Tryz.prog 65 [eW (.of fs env),.sl (zN l)] zCC) (b3 b4 b5:Nat) (F:Nat->Option Nat) (w:World) (hf:Fresh F w) (hh:HeapIn F w (hBi fs env l b3 b4 b5)):Calls Tryz.prog 64 #[pB b3,pB b4,pB b5] w fun e w'=>e = .panicked (zKN zCC)/\RowKit.Below w.heap.size w w':=by
 obtain⟨f,first,cap,he,hen,hcalls⟩:=h;obtain⟨cs3,E3,h3,r3⟩:=hh.ok (b3,HO.cells [.sl (qL fs)]) (by simp);obtain⟨cs4,E4,h4,r4⟩:=hh.ok (b4,HO.cells [.sl (yZ env)]) (by simp);obtain⟨cs5,E5,h5,r5⟩:=hh.ok (b5,HO.cells [.sl (zN l)]) (by simp);injection he with e1 e2 e3
 injection e1 with e1
 subst e1;subst e2;subst e3;simp only at h3 h4 h5;have l3:=r3.1;have l4:=r4.1;have l5:=r5.1;obtain⟨x3,rfl⟩:∃x,cs3 = #[x]:=by
  obtain⟨cl⟩:=cs3
  match cl,l3 with
  | [x],_=>exact⟨x,rfl⟩
 obtain⟨x4,rfl⟩:∃x,cs4 = #[x]:=by
  obtain⟨cl⟩:=cs4
  match cl,l4 with
  | [x],_=>exact⟨x,rfl⟩
 obtain⟨x5,rfl⟩:∃x,cs5 = #[x]:=by
  obtain⟨cl⟩:=cs5
  match cl,l5 with
  | [x],_=>exact⟨x,rfl⟩
 have q3:=(r3.2 0 x3 _ rfl rfl).1;have q4:=(r4.2 0 x4 _ rfl rfl).1;have q5:=(r5.2 0 x5 _ rfl rfl).1;obtain⟨A3,cp3,rfl,_⟩:=q3.sl_shape;obtain⟨A4,cp4,rfl,_⟩:=q4.sl_shape;obtain⟨A5,cp5,rfl,_⟩:=q5.sl_shape;have hargs:=hcalls F w [.agg #[.slice A3 (qL fs).length cp3,.slice A4 (yZ env).length cp4,.slice none 0 0,.slice none 0 0,.int .i64 0],.slice A5 (zN l).length cp5] hf ⟨rfl,fun i v a hv ha=>?_,fun i v sz _ h=>by simp at h,by simp[yB]⟩
 ·have c3:=(cellAt h3 0 (by simp)).1;have c4:=(cellAt h4 0 (by simp)).1;have c5:=(cellAt h5 0 (by simp)).1;simp only[List.getElem_toArray,List.getElem_cons_zero,List.getElem_cons_succ] at c3 c4 c5;simp only[List.nil_append,Array.append_empty,Array.empty_append] at hargs;have mixed:=mixed
  go_enter Tryz.func64,Tryz.ntmps64
  go_wp2_with (go_at_call 65;refine hargs.mono ?_;rintro e w' ⟨rfl,hB⟩)
  exact⟨rfl,rfl,hB⟩
 ·match i,hv,ha with
  | 0,hv,ha =>
   cases hv;cases ha
   refine .agg _ _ rfl (fun c hc=>?_) fun j u c hu hc=>?_
   ·simp only[List.mem_cons,List.not_mem_nil,or_false] at hc;rcases hc with rfl|rfl|rfl|rfl|rfl<;>rfl
   ·match j,hu,hc with
    | 0,hu,hc=>cases hu;cases hc;exact q3
    | 1,hu,hc=>cases hu;cases hc;exact q4
    | 2,hu,hc=>cases hu;cases hc;exact .slNil
    | 3,hu,hc=>cases hu;cases hc;exact .slNil
    | 4,hu,hc=>cases hu;cases hc;exact .lit _ rfl
  | 1,hv,ha=>cases hv;cases ha;exact q5
theorem zS7 {fs:List Fd} {env:List Nm2} {l:List Bd} {w':Wd} (h:zC Tryz.prog 65 [eW (.of fs env),.sl (zN l)] (eW w')):zC Tryz.prog 30 [.sl (qL fs),.sl (yZ env),.sl (zN l)] (.lit (.int .i64 0)):=by
 refine CallsG.lessS (post:=fun r o h=>r = .lit (.int .i64 0)) ?_ (fun r o h hp=>⟨[],List.nil_sublist _,hp,rfl,rfl⟩);refine qG (first:=[]) (cap:=[]) ttok mixed Tryz.func30 rfl (by rfl) rfl (Nat.le_of_ble_eq_true rfl) (by kernel_rfl) ?_;refine .inr ⟨rfl,fun b3=>⟨rfl,fun b4=>⟨rfl,fun b5=>?_⟩⟩⟩;have hd:=zKC (n:=64) ⟨_,Tryz.func64,rfl,rfl⟩ (cap := #[pB b3,pB b4,pB b5]) (hin:=hBi fs env l b3 b4 b5) (hout:=hBi fs env l b3 b4 b5) (by simp[CellsL]) (by simp[CellsL]) rfl (zKT (zO0 h b3 b4 b5)) (fun b hb=>hb);refine .inr (.inr (.inr (.inl ⟨[0,1,2],hBi fs env l b3 b4 b5,hBi fs env l b3 b4 b5,_,rfl,by decide,rfl,hd,?_⟩)));exact rfl
theorem zLB {fs:List Fd} {env:List Nm2} {l:List Bd} (h:zAK Tryz.prog 65 [eW (.of fs env),.sl (zN l)] zCC):zC Tryz.prog 30 [.sl (qL fs),.sl (yZ env),.sl (zN l)] (.lit (.int .i64 50)):=by
 refine CallsG.lessS (post:=fun r o h=>r = .lit (.int .i64 50)) ?_ (fun r o h hp=>⟨[],List.nil_sublist _,hp,rfl,rfl⟩);refine qG (first:=[]) (cap:=[]) ttok mixed Tryz.func30 rfl (by rfl) rfl (Nat.le_of_ble_eq_true rfl) (by kernel_rfl) ?_;refine .inr ⟨rfl,fun b3=>⟨rfl,fun b4=>⟨rfl,fun b5=>?_⟩⟩⟩;have hd:=zML (n:=64) ⟨_,Tryz.func64,rfl,rfl⟩ (cap := #[pB b3,pB b4,pB b5]) (hin:=hBi fs env l b3 b4 b5) (by simp[CellsL]) rfl (zS6 h b3 b4 b5);refine .inr (.inr (.inr (.inl ⟨[0,1,2],hBi fs env l b3 b4 b5,hBi fs env l b3 b4 b5,_,rfl,by decide,rfl,hd,?_⟩)));exact rfl
set_option maxRecDepth 100000
def NmX:Tp->Prop
 | .app a b=>NmX a/\NmX b
 | .all _ a=>NmX a
 | .mt n => ∃k:Nat,n=(k:Int)/\k<10
 | .no=>False
 | _=>True
theorem zFW (t:Tp):∀x:List ByteArray,NmX t->x.length+dp t<=900000->(nl t x).size<=1000000000000000000->zC Tryz.prog zDA [eTy t,.sl (eSs x)] (.lit (.string (nl t x))):=by
 induction t with
 | no=>intro x h;exact h.elim
 | mt n =>
  intro x h _ hz;obtain⟨k,rfl,hk⟩:=h;have:=wJ 1 k (by omega) (by decide);refine zB ttok mixed Tryz.func47 rfl (by rfl) (Nat.le_of_ble_eq_true rfl) (by kernel_rfl) ?_;refine⟨fun _=>?_,fun h=>(by cases h)⟩;refine .inl ⟨_,zCM k k (Nat.le_refl _) (by omega),?_⟩;refine⟨by rw[sz1];omega,?_⟩;exact rfl
 | con s =>
  intro x h _ hz;refine zB ttok mixed Tryz.func47 rfl (by rfl) (Nat.le_of_ble_eq_true rfl) (by kernel_rfl) ?_;refine⟨fun h=>(by cases h),fun _=>?_⟩;refine⟨fun h=>(by cases h),fun _=>?_⟩;refine⟨fun _=>?_,fun h=>(by cases h)⟩;exact rfl
 | var s =>
  intro x _ hl hz;simp only[dp] at hl;have hxl:(eSs x).length=x.length:=by simp[eSs]
  have hrl:x.reverse.length=x.length:=by simp
  have e0:IntKind.i64.wrap (((eSs x).length:Nat)-1)=(x.length:Int)-1:=by rw[hxl];exact zGG (by omega) (by omega)
  refine zB ttok mixed Tryz.func47 rfl (by rfl) (Nat.le_of_ble_eq_true rfl) (by kernel_rfl) ?_;refine⟨fun h=>(by cases h),fun _=>?_⟩;refine⟨fun _=>?_,fun h=>(by cases h)⟩;refine⟨{k:Nat // k<=x.length/\∀j,j<k->x.reverse[j]?≠some s},fun k=>{vs:=[(1,.v (.sl (eSs x))),(2,.box 0 (eTy (.var s))),(5,.v (.lit (.int .i64 ((x.length:Int)-1-(k.1:Nat)))))],ow:=[]},
   fun k=>x.length-k.1,⟨0,Nat.zero_le _,fun j hj=>absurd hj (by omega)⟩,⟨⟨rfl,rfl,?_,trivial⟩,trivial,rfl⟩,?_⟩
  ·exact congrArg (fun n=>SV.v (AV.lit (Value.int .i64 n))) (e0.trans (by simp))
  rintro⟨k,hk,hn⟩;refine⟨fun h=>?_,fun h=>?_⟩
  ·have h:k<x.length:=by
    have:=of_decide_eq_true h;simp only at this;omega
   have ei:((x.length:Int)-1-(k:Nat)).toNat=x.length-1-k:=by omega
   have hi:x.length-1-k<x.length:=by omega
   have hrev:x.reverse[k]'(by omega)=x[x.length-1-k]:=by simp[List.getElem_reverse]
   refine⟨.lit (.string x[x.length-1-k]),by show (0:Int)<=(x.length:Int)-1-(k:Nat);omega,by show (eSs x)[((x.length:Int)-1-(k:Nat)).toNat]? = _;rw[ei];exact zIG hi,rfl,?_⟩;refine⟨fun h2=>?_,fun h2=>?_⟩
   ·have h2:x[x.length-1-k]=s:=of_decide_eq_true h2;have hm:s∈x:=h2 ▸ List.getElem_mem hi;have hix:ixN x.reverse s=k:=by
     have h1:=zK2 (l:=x.reverse) (k:=k) (by omega) (by rw[hrev,h2]) hn;rw[zZS (List.mem_reverse.2 hm)] at h1;omega
    have en:nl (.var s) x=⟨#[35]⟩++dcm k:=by rw[nl,yV hm,if_pos rfl,hix]
    rw[en];have ek:IntKind.i64.wrap (IntKind.i64.wrap (((eSs x).length:Nat)-1)-((x.length:Int)-1-(k:Nat)))=((k:Nat):Int):=by
     rw[e0,show (x.length:Int)-1-((x.length:Int)-1-(k:Nat))=((k:Nat):Int) by omega];exact yO (by omega)
    have hd:=zCM k k (Nat.le_refl _) (by omega);rw[<-ek] at hd;refine .inl ⟨_,hd,?_⟩;have:=wJ 7 k (by omega) (by decide);refine⟨by rw[sz1];omega,?_⟩;exact rfl
   ·have h2:x[x.length-1-k]≠s:=of_decide_eq_false h2;refine⟨⟨k+1,h,zF3 (l:=x.reverse) (by omega) (by rw[hrev];exact h2) hn⟩,(show x.length-(k+1)<x.length-k by omega),⟨rfl,rfl,?_,trivial⟩,trivial,rfl⟩;refine congrArg (fun n=>SV.v (AV.lit (Value.int .i64 n))) ?_;show IntKind.i64.wrap ((x.length:Int)-1-(k:Nat)-1)=(x.length:Int)-1-((k+1:Nat):Int);rw[zGG (by omega) (by omega)];omega
  ·have h:k=x.length:=by
    have:=of_decide_eq_false h;simp only at this;omega
   subst h;have hno:s∉x:=fun hm=>jT (l:=x.reverse) (by rw[hrl];exact hn) (List.mem_reverse.2 hm);have en:nl (.var s) x=⟨#[39]⟩++s:=by rw[nl,qA hno];rfl
   rw[en,ByteArray.size_append,sz1] at hz;rw[en];refine⟨by rw[sz1];show 1+s.size<=_;omega,?_⟩;exact rfl
 | app a b iha ihb =>
  intro x h2 hl hz;simp only[dp] at hl;simp only[nl,ByteArray.size_append,sz1] at hz;refine zB ttok mixed Tryz.func47 rfl (by rfl) (Nat.le_of_ble_eq_true rfl) (by kernel_rfl) ?_;refine⟨fun h=>(by cases h),fun _=>?_⟩;refine⟨fun h=>(by cases h),fun _=>?_⟩;refine⟨fun h=>(by cases h),fun _=>?_⟩;refine⟨fun h=>(by cases h),fun _=>?_⟩;refine⟨fun _=>?_,fun h=>(by cases h)⟩;refine⟨fun h=>(by cases h),fun _=>?_⟩;refine⟨_,by decide,rfl,rfl,?_⟩;refine .inl ⟨_,iha x h2.1 (by omega) (by omega),?_⟩;refine⟨by simp only[ByteArray.size_append,sz1];omega,?_⟩;refine⟨by simp only[ByteArray.size_append,sz1];omega,?_⟩;refine⟨_,by decide,rfl,rfl,?_⟩;refine .inl ⟨_,ihb x h2.2 (by omega) (by omega),?_⟩;refine⟨by simp only[ByteArray.size_append,sz1];omega,?_⟩;refine⟨by simp only[ByteArray.size_append,sz1];omega,?_⟩;exact rfl
 | all s a ih =>
  intro x h2 hl hz;simp only[dp] at hl;simp only[nl,ByteArray.size_append,sz1] at hz;have hxl:(eSs x).length=x.length:=by simp[eSs]
  have hi:=ih (x++[s]) h2 (by simp;omega) (by omega);rw[<-zFX,<-List.nil_append (eSs x)] at hi;refine zB ttok mixed Tryz.func47 rfl (by rfl) (Nat.le_of_ble_eq_true rfl) (by kernel_rfl) ?_;refine⟨fun h=>(by cases h),fun _=>?_⟩;refine⟨fun h=>(by cases h),fun _=>?_⟩;refine⟨fun h=>(by cases h),fun _=>?_⟩;refine⟨fun _=>?_,fun h=>(by cases h)⟩;refine⟨fun h=>(by cases h),fun _=>?_⟩;refine⟨by simp[hxl];omega,zRB _,wG _,?_⟩;refine⟨_,by decide,rfl,rfl,?_⟩;refine⟨by simp[hxl];omega,by simpa using wG x,wG [_],?_⟩;refine .inl ⟨_,hi,?_⟩;refine⟨by simp only[ByteArray.size_append,sz1];omega,?_⟩;refine⟨by simp only[ByteArray.size_append,sz1];omega,?_⟩;exact rfl
theorem zMD {a b:Tp} (ha:NmX a) (hb:NmX b) (hda:dp a<=900000) (hdb:dp b<=900000) (hza:(nl a []).size<=1000000000000000000) (hzb:(nl b []).size<=1000000000000000000):zC Tryz.prog zL [eTy a,eTy b] (.sb (decide (nl a []=nl b []))):=by
 have h1:=zFW a [] ha (by simpa using hda) hza;have h2:=zFW b [] hb (by simpa using hdb) hzb;refine zB ttok mixed Tryz.func17 rfl (by rfl) (Nat.le_of_ble_eq_true rfl) (by kernel_rfl) ?_;refine .inl ⟨_,h1,?_⟩;refine .inl ⟨_,h2,?_⟩;exact rfl
theorem zKB (l:List Int) (hl:Nums l) (m:Nat) (hm:0<m/\m<1000):∃r:Nat,r<m/\∀(n:Int) b,CallsG Tryz.prog (fnv 53) (mkH b l n) [pt b 0,.lit (.int .i64 (m:Nat))] [] fun r' o h=>r' = .lit (.int .i64 (r:Nat))/\o=0/\h=mkH b (l.drop 1) n:=by
 have hlen:=hl.len;cases l with
 | nil =>
  refine⟨0,hm.1,fun n b=>?_⟩;refine zI (first:=[]) (cap:=[]) ttok mixed Tryz.func53 rfl (by rfl) rfl (Nat.le_of_ble_eq_true rfl) (by kernel_rfl) ?_;refine Wsem.of ttok mixed ?_;refine⟨0,_,_,rfl,rfl,?_⟩;exact⟨fun _=>⟨rfl,rfl,rfl⟩,fun h=>absurd rfl (of_decide_eq_false h)⟩
 | cons i l =>
  obtain⟨r,h1,h2⟩:=zAB (n:=i) (m:=(m:Nat)) (hl.inR i List.mem_cons_self) (by omega) (by omega);refine⟨r,by omega,fun n b=>?_⟩;refine zI (first:=[]) (cap:=[]) ttok mixed Tryz.func53 rfl (by rfl) rfl (Nat.le_of_ble_eq_true rfl) (by kernel_rfl) ?_;refine Wsem.of ttok mixed ?_;refine⟨0,_,_,rfl,rfl,?_⟩;refine⟨fun h=>?_,fun h=>?_⟩
  ·have h:=of_decide_eq_true h;simp[eIs] at h;omega
  ·refine⟨0,_,_,rfl,rfl,?_⟩;refine⟨_,Int.le_refl _,rfl,rfl,?_⟩;refine .inl ⟨_,h2,?_⟩;refine⟨0,_,_,rfl,rfl,?_⟩;refine⟨by decide,by simp[eIs];omega,Int.le_refl _,.inr (z4K _),?_⟩;refine⟨rfl,0,_,rfl,Nat.le_of_ble_eq_true rfl,?_⟩;refine⟨rfl,rfl,?_⟩;show [(b,HO.cells (setAt [AV.sl (eIs (i::l)),.lit (.int .i64 n)] (0+0) [AV.sl (((eIs (i::l)).take (eIs (i::l)).length).drop 1)]))]=_;rw[List.take_length];rfl
theorem zGF (l:List Int) (n:Int) (hl:Nums l) (m:Nat) (hm:0<m/\m<1000):∃r:Nat,r<m/\∀b,CallsG Tryz.prog (fnv 53) (mkH b l n) [pt b 0,.lit (.int .i64 (m:Nat))] [] fun r' o h=>r' = .lit (.int .i64 (r:Nat))/\o=0/\h=mkH b (l.drop 1) n :=
 let ⟨r,h1,h2⟩:=zKB l hl m hm
 ⟨r,h1,h2 n⟩
theorem yG (s:ByteArray):zC Tryz.prog 38 [.lit (.string s)] (eTy (.con s)):=by
 refine zA ttok mixed Tryz.func38 rfl (by rfl) (Nat.le_of_ble_eq_true rfl) (by kernel_rfl) ?_;exact rfl
theorem zBY (s:ByteArray) (t:Tp):zC Tryz.prog 39 [.lit (.string s),eTy t] (eTy (.all s t)):=by
 refine zA ttok mixed Tryz.func39 rfl (by rfl) (Nat.le_of_ble_eq_true rfl) (by kernel_rfl) ?_;exact rfl
theorem wE (f a:Cr):zC Tryz.prog 91 [eC f,eC a] (eC (zBJ f a)):=by
 refine zA ttok mixed Tryz.func91 rfl (by rfl) (Nat.le_of_ble_eq_true rfl) (by kernel_rfl) ?_;exact rfl
theorem zCV (s:ByteArray) (l:List Tp) (hl:l.length<=1000):zC Tryz.prog 94 [.lit (.string s),.sl (zO l)] (eC (l.foldl (fun a t=>xR t a) (zEN s))):=by
 have hlen:(zO l).length=l.length:=by simp[zO]
 refine zA ttok mixed Tryz.func94 rfl (by rfl) (Nat.le_of_ble_eq_true rfl) (by kernel_rfl) ?_;refine⟨{k:Nat // k<=l.length},fun k=>{vs:=[(1,.v (.sl (zO l))),(4,.box 0 eZ),(5,.box 0 (eC ((l.take k.1).foldl (fun a t=>xR t a) (zEN s)))),(6,sv (k.1:Nat))]},fun k=>l.length-k.1,⟨0,Nat.zero_le _⟩,⟨⟨rfl,rfl,rfl,rfl,trivial⟩,trivial,rfl⟩,?_⟩;rintro⟨k,hk⟩;refine⟨fun h=>?_,fun h=>?_⟩
 ·have h:k<l.length:=by have h:=of_decide_eq_true h;rw[hlen] at h;simp only at h;omega
  refine⟨_,by omega,zTK h,rfl,?_⟩;refine⟨by kernel_rfl,?_⟩;refine⟨⟨k+1,h⟩,by simp;omega,⟨rfl,rfl,?_,svc (wrap_succ (k:=k) (by omega)),trivial⟩,trivial,rfl⟩;rw[List.take_succ_eq_append_getElem h,List.foldl_append];exact rfl
 ·have h:k=l.length:=by have h:=of_decide_eq_false h;rw[hlen] at h;simp only at h;omega
  subst h;rw[List.take_length];exact rfl
structure V9 where
 L:List Nm2
 vars:List ByteArray
 deep:Nat
def eV (v:V9):AV := .agg [.sl (yZ v.L),.sl (eSs v.vars),.lit (.int .i64 (v.deep:Nat))]
def V9.more (v:V9) (s:ByteArray) (t:Tp):V9:={L:=v.L++[(s,t)],vars:=v.vars,deep:=v.deep+1}
theorem zPL (a b:List Nm2):yZ (a++b)=yZ a++yZ b:=by simp[yZ]
theorem zQ (v:V9) (s:ByteArray) (t:Tp) (hl:v.L.length<=100000) (hd:v.deep<=100000):zC Tryz.prog 90 [eV v,.lit (.string s),eTy t] (eV (v.more s t)):=by
 have hln:(yZ v.L).length=v.L.length:=by simp[yZ]
 refine zA ttok mixed Tryz.func90 rfl (by rfl) (Nat.le_of_ble_eq_true rfl) (by kernel_rfl) ?_;refine⟨by simp[hln];omega,zRB _,zMF _,?_⟩;refine⟨by simp[hln];omega,by simpa using zMF v.L,zEQ rfl,?_⟩;show AV.agg [_,_,.lit (.int .i64 (IntKind.i64.wrap ((v.deep:Nat)+1)))]=_;rw[wrap_succ (k:=v.deep) (by omega)];unfold V9.more eV;rw[zPL];exact rfl
def nm19:List ByteArray:=[⟨#[120]⟩,⟨#[121]⟩,⟨#[122,64,49]⟩,⟨#[97]⟩,⟨#[98]⟩]
theorem zGJ (l:List Int) (hl:Nums l) (v:V9):∃s∈nm19,∀(n:Int) b,CallsG Tryz.prog (fnv 89) (mkH b l n) [pt b 0,eV v] [] fun r' o h=>r' = .lit (.string s)/\o=0/\h=mkH b (l.drop 1) n:=by
 obtain⟨r,hr,hn⟩:=zKB l hl 5 (by decide);refine⟨nm19[r]'(by simpa[nm19] using hr),List.getElem_mem _,fun n b=>?_⟩;refine zI (first:=[]) (cap:=[]) ttok mixed Tryz.func89 rfl (by rfl) rfl (Nat.le_of_ble_eq_true rfl) (by kernel_rfl) ?_;refine Wsem.of ttok mixed ?_;refine .inr (.inr (.inr (.inr (.inr (.inl ⟨[0],_,[],_,rfl,List.nodup_cons.2 ⟨by simp,List.nodup_nil⟩,rfl,hn n b,?_⟩)))));rintro _ _ _ ⟨rfl,rfl,rfl⟩;refine⟨.lit (.string (nm19[r]'(by simpa[nm19] using hr))),by omega,?_,rfl,?_⟩
 ·match r,hr with
  | 0,_=>rfl
  | 1,_=>rfl
  | 2,_=>rfl
  | 3,_=>rfl
  | 4,_=>rfl
 ·exact⟨rfl,rfl,rfl⟩
def hid (l:List Nm2) (i:Nat) (s:ByteArray):Bool:=decide (s∉(l.drop (i+1)).map (·.1))
theorem zUM {l:List Nm2} {k:Nat} (h:k<l.length):(yZ l)[k]? = some (eNa l[k]):=by simp[yZ,h]
theorem zUB (l:List Nm2):(yZ l).length=l.length:=by simp[yZ]
theorem zZI {l:List Nm2} {i:Nat} (hi:i<l.length) (hl:l.length<=100000):zC Tryz.prog 136 [.sl (yZ l),.lit (.int .i64 (i:Nat))] (.sb (hid l i l[i].1)):=by
 have hln:=zUB l;refine zA ttok mixed Tryz.func136 rfl (by rfl) (Nat.le_of_ble_eq_true rfl) (by kernel_rfl) ?_;refine⟨{k:Nat // i+1<=k/\k<=l.length/\∀j,i+1<=j->(hj:j<l.length)->j<k->l[j].1≠l[i].1},fun k=>{vs:=[(0,.v (.sl (yZ l))),(1,sv (i:Nat)),(5,sv (k.1:Nat))]},fun k=>l.length-k.1,⟨i+1,Nat.le_refl _,by omega,fun j h1 _ h2=>by omega⟩,⟨⟨rfl,rfl,svc (wrap_succ (k:=i) (by omega)),trivial⟩,trivial,rfl⟩,?_⟩;rintro⟨k,hk1,hk2,hinv⟩;refine⟨fun h=>?_,fun h=>?_⟩
 ·have h:k<l.length:=by have h:=of_decide_eq_true h;rw[hln] at h;simp only at h;omega
  refine⟨_,by omega,zUM h,rfl,?_⟩;refine⟨_,by omega,zUM hi,rfl,?_⟩;refine⟨by kernel_rfl,?_⟩;refine⟨fun h2=>?_,fun h2=>?_⟩
  ·have h2:l[k].1=l[i].1:=of_decide_eq_true h2;have e:hid l i l[i].1=false:=by
    unfold hid;refine decide_eq_false fun hn=>hn ?_;rw[<-h2];exact List.mem_map.2 ⟨l[k],List.mem_of_getElem? (i:=k-(i+1)) (by rw[List.getElem?_drop,show i+1+(k-(i+1))=k by omega];exact List.getElem?_eq_getElem h),rfl⟩
   rw[e];exact rfl
  ·have h2:¬l[k].1=l[i].1:=of_decide_eq_false h2;refine⟨⟨k+1,by omega,h,fun j h3 hj h4=>?_⟩,by simp;omega,⟨rfl,rfl,svc (wrap_succ (k:=k) (by omega)),trivial⟩,trivial,rfl⟩;by_cases e:j=k
   ·subst e;exact h2
   ·exact hinv j h3 hj (by omega)
 ·have h:k=l.length:=by have h:=of_decide_eq_false h;rw[hln] at h;simp only at h;omega
  have e:hid l i l[i].1=true:=by
   unfold hid;refine decide_eq_true fun hm=>?_;obtain⟨p,hp,e⟩:=List.mem_map.1 hm;obtain⟨j,hj,rfl⟩:=List.getElem_of_mem hp;rw[List.length_drop] at hj;rw[List.getElem_drop] at e;exact hinv (i+1+j) (by omega) (by omega) (by omega) e
  rw[e];exact rfl
def jX:List ByteArray:=[yE,yC,⟨#[76]⟩,⟨#[80]⟩,arrow]
def SimT (vars:List ByteArray):Tp->Prop
 | .con s=>s∈jX
 | .var x=>x∈vars
 | .app a b=>SimT vars a/\SimT vars b
 | _=>False
inductive Frm:Tp->Prop
 | int:Frm (.con yE)
 | bool:Frm (.con yC)
 | var (x:ByteArray):Frm (.var x)
 | ls {a:Tp} (h:Frm a):Frm (.app (.con ⟨#[76]⟩) a)
 | fn {a b:Tp} (h:Frm a) (h2:Frm b):Frm (.app (.app (.con arrow) a) b)
 | pr {a b:Tp} (h:Frm a) (h2:Frm b):Frm (.app (.app (.con ⟨#[80]⟩) a) b)
theorem zTM (r:Nat):Frm (.con (if r % 2=0 then yE else yC)):=by split;exact .int;exact .bool
abbrev zDB (b:Nat) (l:List Int) (n:Int) (vars:List ByteArray) (d:Nat) (t:Tp) (l':List Int):Prop:=CallsG Tryz.prog (fnv 52) (mkH b l n) [pt b 0,.sl (eSs vars),.lit (.int .i64 (d:Nat))] [] fun r o h=>r=eTy t/\o=0/\h=mkH b l' n
def tz:Nat->Nat
 | 0=>1
 | k+1=>2*tz k+5
theorem zD {b:Nat}:[b].Nodup:=List.nodup_cons.2 ⟨by simp,List.nodup_nil⟩
abbrev yX (b:Nat) (l:List Int) (n:Int) (m r:Nat) (l':List Int):Prop:=CallsG Tryz.prog (fnv 53) (mkH b l n) [pt b 0,.lit (.int .i64 (m:Nat))] [] fun r' o h=>r' = .lit (.int .i64 (r:Nat))/\o=0/\h=mkH b l' n
theorem zCY (l:List ByteArray):(eSs l).length=l.length:=by simp[eSs]
theorem zOZ {b:Nat} {l l1 l2:List Int} {n:Int} {vars:List ByteArray} {d r q:Nat} (h1:yX b l n 8 r l1) (h5:5<r) (hq:q<vars.length) (h2:yX b l1 n vars.length q l2):zDB b l n vars d (.var vars[q]) l2:=by
 refine zI (first:=[]) (cap:=[]) ttok mixed Tryz.func52 rfl (by rfl) rfl (Nat.le_of_ble_eq_true rfl) (by kernel_rfl) ?_;refine Wsem.of ttok mixed ?_;refine .inr (.inr (.inr (.inr (.inr (.inl ⟨[0],_,[],_,rfl,zD,rfl,h1,?_⟩)))));rintro _ _ _ ⟨rfl,rfl,rfl⟩;refine⟨fun _=>?_,fun h=>absurd (of_decide_eq_false h) (by omega)⟩;refine⟨fun _=>?_,fun h=>absurd (of_decide_eq_false h) (by rw[zCY];omega)⟩;rw[<-zCY vars] at h2;refine .inr (.inr (.inr (.inl ⟨[0],mkH b l1 n,mkH b l2 n,_,rfl,zD,rfl,h2,?_⟩)));refine⟨_,by omega,zIG hq,rfl,?_⟩;exact⟨rfl,rfl,rfl⟩
theorem zWR (r:Nat):[eTy (.con yE),eTy (.con yC)][((r % 2:Nat):Int).toNat]? = some (eTy (.con (if r % 2=0 then yE else yC))):=by
 rcases Nat.mod_two_eq_zero_or_one r with h|h
 ·rw[h];rfl
 ·rw[h];rfl
theorem zQC {b:Nat} {l l1:List Int} {n:Int} {vars:List ByteArray} {d r:Nat} (h1:yX b l n 8 r l1) (h5:¬(5<r/\0<vars.length)) (h3:r<3∨2<d) (hr:r<8):zDB b l n vars d (.con (if r % 2=0 then yE else yC)) l1:=by
 have em:(((r:Nat):Int).tmod 2)=((r % 2:Nat):Int):=by rw[Int.tmod_eq_emod_of_nonneg (by omega)];omega
 refine zI (first:=[]) (cap:=[]) ttok mixed Tryz.func52 rfl (by rfl) rfl (Nat.le_of_ble_eq_true rfl) (by kernel_rfl) ?_;refine Wsem.of ttok mixed ?_;refine .inr (.inr (.inr (.inr (.inr (.inl ⟨[0],_,[],_,rfl,zD,rfl,h1,?_⟩)))));rintro _ _ _ ⟨rfl,rfl,rfl⟩;refine⟨fun h=>?_,fun h=>?_⟩
 ·have h:5<r:=by have h:=of_decide_eq_true h;omega
  refine⟨fun h2=>absurd (of_decide_eq_true h2) (by rw[zCY];omega),fun _=>?_⟩;refine⟨fun _=>?_,fun h=>absurd (of_decide_eq_true h) (by omega)⟩;refine⟨fun _=>?_,fun h=>absurd (of_decide_eq_false h) (by omega)⟩;refine .inl ⟨_,yG yE,?_⟩;refine .inl ⟨_,yG yC,?_⟩;refine⟨by decide,?_⟩;refine⟨eTy (.con (if r % 2=0 then yE else yC)),by rw[em];omega,by rw[em];exact zWR r,rfl,?_⟩;exact⟨rfl,rfl,rfl⟩
 ·refine⟨fun h=>?_,fun h=>?_⟩
  ·have h:¬r<3:=by have h:=of_decide_eq_false h;omega
   refine⟨fun _=>?_,fun h=>absurd (of_decide_eq_false h) (by omega)⟩;refine .inl ⟨_,yG yE,?_⟩;refine .inl ⟨_,yG yC,?_⟩;refine⟨by decide,?_⟩;refine⟨eTy (.con (if r % 2=0 then yE else yC)),by rw[em];omega,by rw[em];exact zWR r,rfl,?_⟩;exact⟨rfl,rfl,rfl⟩
  ·refine .inl ⟨_,yG yE,?_⟩;refine .inl ⟨_,yG yC,?_⟩;refine⟨by decide,?_⟩;refine⟨eTy (.con (if r % 2=0 then yE else yC)),by rw[em];omega,by rw[em];exact zWR r,rfl,?_⟩;exact⟨rfl,rfl,rfl⟩
theorem zQF {d:Nat} (h:d<1000):IntKind.i64.wrap ((d:Int)+1)=((d+1:Nat):Int):=wrap_succ (by omega)
theorem z4T {b:Nat} {l l1 l2:List Int} {n:Int} {vars:List ByteArray} {d:Nat} {t:Tp} (h1:yX b l n 8 3 l1) (hd:d<=2) (h2:zDB b l1 n vars (d+1) t l2):zDB b l n vars d (.app (.con ⟨#[76]⟩) t) l2:=by
 have h2:CallsG Tryz.prog (fnv 52) (mkH b l1 n) [pt b 0,.sl (eSs vars),.lit (.int .i64 (IntKind.i64.wrap ((d:Int)+1)))] [] fun r o h=>r=eTy t/\o=0/\h=mkH b l2 n:=by rw[zQF (by omega)];exact h2
 refine zI (first:=[]) (cap:=[]) ttok mixed Tryz.func52 rfl (by rfl) rfl (Nat.le_of_ble_eq_true rfl) (by kernel_rfl) ?_;refine Wsem.of ttok mixed ?_;refine .inr (.inr (.inr (.inr (.inr (.inl ⟨[0],_,[],_,rfl,zD,rfl,h1,?_⟩)))));rintro _ _ _ ⟨rfl,rfl,rfl⟩;refine⟨fun h=>absurd h (by decide),fun _=>?_⟩;refine⟨fun _=>?_,fun h=>absurd h (by decide)⟩;refine⟨fun h=>absurd (of_decide_eq_true h) (by omega),fun _=>?_⟩;refine .inr (.inr (.inr (.inl ⟨[0],mkH b l1 n,mkH b l2 n,_,rfl,zD,rfl,h2,?_⟩)));refine⟨fun _=>?_,fun h=>absurd h (by decide)⟩;refine .inl ⟨_,yG ⟨#[76]⟩,?_⟩;refine⟨by kernel_rfl,?_⟩;exact⟨rfl,rfl,rfl⟩
theorem zYL {b:Nat} {l l1 l2 l3:List Int} {n:Int} {vars:List ByteArray} {d r:Nat} {t u:Tp} (h1:yX b l n 8 r l1) (hr:r=4) (hd:d<=2) (h2:zDB b l1 n vars (d+1) t l2) (h3:zDB b l2 n vars (d+1) u l3):zDB b l n vars d (.app (.app (.con arrow) t) u) l3:=by
 have h2:CallsG Tryz.prog (fnv 52) (mkH b l1 n) [pt b 0,.sl (eSs vars),.lit (.int .i64 (IntKind.i64.wrap ((d:Int)+1)))] [] fun r o h=>r=eTy t/\o=0/\h=mkH b l2 n:=by rw[zQF (by omega)];exact h2
 have h3:CallsG Tryz.prog (fnv 52) (mkH b l2 n) [pt b 0,.sl (eSs vars),.lit (.int .i64 (IntKind.i64.wrap ((d:Int)+1)))] [] fun r o h=>r=eTy u/\o=0/\h=mkH b l3 n:=by rw[zQF (by omega)];exact h3
 refine zI (first:=[]) (cap:=[]) ttok mixed Tryz.func52 rfl (by rfl) rfl (Nat.le_of_ble_eq_true rfl) (by kernel_rfl) ?_;refine Wsem.of ttok mixed ?_;refine .inr (.inr (.inr (.inr (.inr (.inl ⟨[0],_,[],_,rfl,zD,rfl,h1,?_⟩)))));rintro _ _ _ ⟨rfl,rfl,rfl⟩;refine⟨fun h=>absurd (of_decide_eq_true h) (by omega),fun _=>?_⟩;refine⟨fun _=>?_,fun h=>absurd (of_decide_eq_true h) (by omega)⟩;refine⟨fun h=>absurd (of_decide_eq_true h) (by omega),fun _=>?_⟩;refine .inr (.inr (.inr (.inl ⟨[0],mkH b l1 n,mkH b l2 n,_,rfl,zD,rfl,h2,?_⟩)));refine⟨fun h=>absurd (of_decide_eq_true h) (by omega),fun _=>?_⟩;refine .inr (.inr (.inr (.inl ⟨[0],mkH b l2 n,mkH b l3 n,_,rfl,zD,rfl,h3,?_⟩)));refine⟨fun _=>?_,fun h=>absurd (of_decide_eq_false h) (by omega)⟩;refine .inl ⟨_,xI t u,?_⟩;exact⟨rfl,rfl,rfl⟩
theorem z3W {b:Nat} {l l1 l2 l3:List Int} {n:Int} {vars:List ByteArray} {d r:Nat} {t u:Tp} (h1:yX b l n 8 r l1) (hr:4<r) (h5:¬(5<r/\0<vars.length)) (hd:d<=2) (h2:zDB b l1 n vars (d+1) t l2) (h3:zDB b l2 n vars (d+1) u l3):zDB b l n vars d (.app (.app (.con ⟨#[80]⟩) t) u) l3:=by
 have h2:CallsG Tryz.prog (fnv 52) (mkH b l1 n) [pt b 0,.sl (eSs vars),.lit (.int .i64 (IntKind.i64.wrap ((d:Int)+1)))] [] fun r o h=>r=eTy t/\o=0/\h=mkH b l2 n:=by rw[zQF (by omega)];exact h2
 have h3:CallsG Tryz.prog (fnv 52) (mkH b l2 n) [pt b 0,.sl (eSs vars),.lit (.int .i64 (IntKind.i64.wrap ((d:Int)+1)))] [] fun r o h=>r=eTy u/\o=0/\h=mkH b l3 n:=by rw[zQF (by omega)];exact h3
 refine zI (first:=[]) (cap:=[]) ttok mixed Tryz.func52 rfl (by rfl) rfl (Nat.le_of_ble_eq_true rfl) (by kernel_rfl) ?_;refine Wsem.of ttok mixed ?_;refine .inr (.inr (.inr (.inr (.inr (.inl ⟨[0],_,[],_,rfl,zD,rfl,h1,?_⟩)))));rintro _ _ _ ⟨rfl,rfl,rfl⟩;refine⟨fun h=>?_,fun h=>?_⟩
 ·have h:5<r:=by have h:=of_decide_eq_true h;omega
  refine⟨fun h2=>absurd (of_decide_eq_true h2) (by rw[zCY];omega),fun _=>?_⟩;refine⟨fun _=>?_,fun h=>absurd (of_decide_eq_true h) (by omega)⟩;refine⟨fun h=>absurd (of_decide_eq_true h) (by omega),fun _=>?_⟩;refine .inr (.inr (.inr (.inl ⟨[0],mkH b l1 n,mkH b l2 n,_,rfl,zD,rfl,h2,?_⟩)));refine⟨fun h=>absurd (of_decide_eq_true h) (by omega),fun _=>?_⟩;refine .inr (.inr (.inr (.inl ⟨[0],mkH b l2 n,mkH b l3 n,_,rfl,zD,rfl,h3,?_⟩)));refine⟨fun h=>absurd (of_decide_eq_true h) (by omega),fun _=>?_⟩;refine .inl ⟨_,yG ⟨#[80]⟩,?_⟩;refine⟨by kernel_rfl,?_⟩;exact⟨rfl,rfl,rfl⟩
 ·skip
  refine⟨fun _=>?_,fun h=>absurd (of_decide_eq_true h) (by omega)⟩;refine⟨fun h=>absurd (of_decide_eq_true h) (by omega),fun _=>?_⟩;refine .inr (.inr (.inr (.inl ⟨[0],mkH b l1 n,mkH b l2 n,_,rfl,zD,rfl,h2,?_⟩)));refine⟨fun h=>absurd (of_decide_eq_true h) (by omega),fun _=>?_⟩;refine .inr (.inr (.inr (.inl ⟨[0],mkH b l2 n,mkH b l3 n,_,rfl,zD,rfl,h3,?_⟩)));refine⟨fun h=>absurd (of_decide_eq_true h) (by omega),fun _=>?_⟩;refine .inl ⟨_,yG ⟨#[80]⟩,?_⟩;refine⟨by kernel_rfl,?_⟩;exact⟨rfl,rfl,rfl⟩
theorem zBN (vars:List ByteArray) (hv:vars.length<1000) (k:Nat):∀(d:Nat) (l:List Int) (n:Int),d+k=3->Nums l->∃t l',(SimT vars t/\Frm t)/\t.sz<=tz k/\Nums l'/\∀b,zDB b l n vars d t l':=by
 have hcon:∀r,SimT vars (.con (if r % 2=0 then yE else yC)):=fun r=>by
  show _∈jX;split<;>simp[jX]
 have tz1:∀k,1<=tz k:=fun k=>by cases k<;>simp[tz]<;>omega
 induction k with
 | zero =>
  intro d l n hd hl;have hd3:d=3:=by omega
  subst hd3;obtain⟨r,hr,hn⟩:=zGF l n hl 8 (by decide);by_cases h5:5<r/\0<vars.length
  ·obtain⟨q,hq,hn2⟩:=zGF (l.drop 1) n hl.drop vars.length ⟨h5.2,hv⟩;exact⟨.var vars[q],(l.drop 1).drop 1,⟨List.getElem_mem hq,.var _⟩,by simp[Tp.sz,tz],hl.drop.drop,fun b=>zOZ (hn b) h5.1 hq (hn2 b)⟩
  ·exact⟨_,l.drop 1,⟨hcon r,zTM r⟩,by simp[Tp.sz,tz],hl.drop,fun b=>zQC (hn b) h5 (.inr (by omega)) hr⟩
 | succ k ih =>
  intro d l n hd hl;have h1:=tz1 (k+1);obtain⟨r,hr,hn⟩:=zGF l n hl 8 (by decide);by_cases h5:5<r/\0<vars.length
  ·obtain⟨q,hq,hn2⟩:=zGF (l.drop 1) n hl.drop vars.length ⟨h5.2,hv⟩;exact⟨.var vars[q],(l.drop 1).drop 1,⟨List.getElem_mem hq,.var _⟩,by simp only[Tp.sz];omega,hl.drop.drop,fun b=>zOZ (hn b) h5.1 hq (hn2 b)⟩
  ·obtain⟨t,l2,s1,s2,s3,s4⟩:=ih (d+1) (l.drop 1) n (by omega) hl.drop;obtain⟨u,l3,u1,u2,u3,u4⟩:=ih (d+1) l2 n (by omega) s3;by_cases r3:r<3
   ·exact⟨_,l.drop 1,⟨hcon r,zTM r⟩,by simp only[Tp.sz];omega,hl.drop,fun b=>zQC (hn b) h5 (.inl r3) hr⟩
   ·by_cases r4:r=3
    ·subst r4;exact⟨.app (.con ⟨#[76]⟩) t,l2,⟨⟨by simp[SimT,jX],s1.1⟩,.ls s1.2⟩,by simp only[Tp.sz,tz];omega,s3,fun b=>z4T (hn b) (by omega) (s4 b)⟩
    ·by_cases r5:r=4
     ·exact⟨.app (.app (.con arrow) t) u,l3,⟨⟨⟨by simp[SimT,jX],s1.1⟩,u1.1⟩,.fn s1.2 u1.2⟩,by simp only[Tp.sz,tz];omega,u3,fun b=>zYL (hn b) r5 (by omega) (s4 b) (u4 b)⟩
     ·exact⟨.app (.app (.con ⟨#[80]⟩) t) u,l3,⟨⟨⟨by simp[SimT,jX],s1.1⟩,u1.1⟩,.pr s1.2 u1.2⟩,by simp only[Tp.sz,tz];omega,u3,fun b=>z3W (hn b) (by omega) h5 (by omega) (s4 b) (u4 b)⟩
abbrev zSB (t:Tp) (r:AV) (o:Nat) (h:List (Nat×HO)):Prop:=o=0/\((zS t=[]/\r = .tup [eTy (jC t),.lit (.slice none 0 0)]/\h=[]) ∨
 ∃b cap rest,(zS t).length<=cap/\rest.length=(cap-(zS t).length)*4/\zS t≠[]/\r = .tup [eTy (jC t),.lit (.slice (some ⟨b,0,none⟩) (zS t).length cap)]/\h=[(b,HO.cells (fl (zS t).reverse rest))])
theorem z6Q (l:List Tp) (y:Tp) (rest:List AV):setAt (fl l rest) (l.length*4) ([eTy y].flatMap AV.cells)=fl (l++[y]) (rest.drop 4):=by
 have h:((zO l).flatMap AV.cells).length=l.length*4:=by
  have:=zH0 l [];simpa[fl] using this
 unfold fl setAt;rw[List.take_append_of_le_length (by rw[h];omega),<-h,List.take_length];have h4:([eTy y].flatMap AV.cells).length=4:=rfl;rw[h4,List.drop_length_add_append];simp[zO]
def z7Z (t:Tp) (c:CE):Prop := ∃k l,yF c.vs 2 = .box k (.agg l)/\l.map wk=(eTy t).cells/\yF c.vs 3 = .v .nil
theorem zTC {args:List AV} {t:Tp} (hlen:args.length<=Tryz.f93.ntmps) {c:Code} (hb:Tryz.f93.body=some c) (hk:zZ Tryz.f93.ntmps c=true) (hw:Wsem Tryz.prog c (qO args [] []) (fun _=>False) (fun _ _=>False) (z7Z t)):zC Tryz.prog 93 args (.tup [eTy t,.lit (.slice none 0 0)]):=by
 refine⟨93,#[],#[],rfl,⟨_,Tryz.func93,by rw[hb];rfl,rfl⟩,fun F w vs hfr hh ha hy=>?_⟩;have hyk:yB vs []=[]:=by cases vs<;>rfl
 rw[show (#[]:Array Value)++vs.toArray ++ #[]=vs.toArray by simp];obtain⟨g,hR⟩:=zAX hfr hh ha hy (n:=Tryz.f93.ntmps) (by rw[ha.len];exact hlen);refine calls_of_wp Tryz.func93 hb (Go.wp_mono (hw _ trivial hk g _ _ (hR.weaken (qV args [] []) (jR args [] []) (fun _=>rfl) rfl)) fun ex a w' hp=>?_);cases ex with
 | normal=>obtain⟨e,g',h1,h2⟩:=hp;exact h1.elim
 | exit i=>obtain⟨e,g',h1,h2⟩:=hp;exact h1.elim
 | goto l=>exact hp.elim
 | panic ch=>exact hp.elim
 | outgrown=>exact hp.elim
 | ret =>
  obtain⟨c',g',⟨k,l,q1,q4,q3⟩,hR'⟩:=hp;have s2:=hR'.slots 2;have s3:=hR'.slots 3;rw[show (den c').vals 2=_ from q1] at s2;rw[show (den c').vals 3=_ from q3] at s3;obtain⟨b,cs,E,e2,_,_,_,h1,h2⟩:=s2;have e3:=s3.nil_eq;rw[Array.getD_eq_getD_getElem?] at e2 e3;have h2:RepCells g'.F w' cs.toList l:=h2;have h2:=h2.wkM;rw[q4] at h2;have l4:cs.size=4:=by simpa[eTy,AV.cells] using h2.1
  obtain⟨x0,x1,x2,x3,rfl⟩:=z3D l4;have d0:=(cellAt h1 0 (by simp)).1;have d1:=(cellAt h1 1 (by simp)).1;have d2:=(cellAt h1 2 (by simp)).1;have d3:=(cellAt h1 3 (by simp)).1;simp only[List.getElem_toArray,List.getElem_cons_zero,List.getElem_cons_succ] at d0 d1 d2 d3;refine⟨hR'.defers,.tuple #[.agg #[x0,x1,x2,x3],.slice none 0 0],?_,_,_,0,[],g'.F,rfl,⟨rfl,rfl,rfl⟩,?_,fun sz h=>by omega,hR'.kept,hR'.fext,hR'.fresh,⟨by simp[keys],fun b hb=>by simp[keys] at hb,fun x hx=>by simp at hx⟩,fun b hb=>by simp[keys] at hb⟩
  ·simp[results,Tryz.f93,go_sem,e2,e3,d0,d1,d2,d3]
  ·refine .tup _ _ rfl fun j u c hu hc=>?_
   match j,hu,hc with
   | 0,hu,hc =>
    cases hu;cases hc
    refine .agg _ _ rfl (fun c hc=>?_) fun j u c hu hc=>(h2.2 j u c (by simpa using hu) hc).1;simp only[List.mem_cons,List.not_mem_nil,or_false] at hc;rcases hc with rfl|rfl|rfl|rfl<;>rfl
   | 1,hu,hc=>cases hu;cases hc;exact .lit _ rfl
theorem zP4 {t:Tp} (h4:¬t.form=4):zC Tryz.prog 93 [eTy t] (.tup [eTy t,.lit (.slice none 0 0)]):=by
 refine zTC (Nat.le_of_ble_eq_true rfl) rfl (by kernel_rfl) ?_;refine Wsem.of ttok mixed ?_;refine⟨fun _=>?_,fun h=>absurd (by simpa using h) h4⟩;exact⟨0,_,rfl,rfl,rfl⟩
theorem zS8 (t:Tp):(zS t).length<1000000->CallsG Tryz.prog (fnv 93) [] [eTy t] [] (zSB t):=by
 have leaf:∀t:Tp,¬t.form=4->zS t=[]->jC t=t->CallsG Tryz.prog (fnv 93) [] [eTy t] [] (zSB t):=fun t h4 h1 h2 =>
  CallsG.post (zP4 h4) fun r o h hp=>⟨hp.2.1,.inl ⟨h1,by rw[h2];exact hp.1,hp.2.2⟩⟩
 induction t with
 | app x y ihx ihy =>
  intro hl;simp only[zS,List.length_cons] at hl;have ihx:=ihx (by omega);refine CallsG.lessS (post:=fun r o h => ∃h1,h1.Sublist h/\zSB (.app x y) r 0 h1) ?_ (fun r o h hp=>hp);refine zI (first:=[]) (cap:=[]) ttok mixed Tryz.func93 rfl (by rfl) rfl (Nat.le_of_ble_eq_true rfl) (by kernel_rfl) ?_;refine Wsem.seq ttok mixed ?_;refine Wsem.seq ttok mixed ?_;refine⟨fun h=>(by cases h),fun _=>?_⟩;refine Wsem.seq ttok mixed ?_;refine⟨eTy x,by omega,rfl,rfl,?_⟩;refine .inr (.inr (.inr (.inr (.inr (.inl ⟨[],[],[],_,rfl,List.nodup_nil,rfl,ihx,?_⟩)))));rintro r w h ⟨rfl,⟨e1,rfl,rfl⟩|⟨b,cap,rest,q1,q2,q3,rfl,rfl⟩⟩
  ·refine Wsem.seqS (Wsem.regionTA (xN ttok).two ttok mixed [0,1,2,3,4,5,6,7,8,9] [false,false,false,false,false,false,false,true] (by kernel_rfl) ?_);refine⟨eTy y,by omega,rfl,rfl,?_⟩;refine⟨by simp,by simp,zHY [y],rfl,rfl,fun b' cap' zs g1 g2=>?_⟩;refine⟨by kernel_rfl,?_⟩;refine Wsem.of ttok mixed ?_;have e:fl (zS (.app x y)).reverse zs=[]++([eTy y].flatMap AV.cells++zs):=by simp[zS,e1,fl,zO]
   refine⟨[(b',HO.cells (fl (zS (.app x y)).reverse zs))],by rw[e];exact List.Sublist.refl _,rfl,.inr ⟨b',cap',zs,?_,?_,by simp[zS],?_,rfl⟩⟩
   ·simpa[zS,e1] using g1
   ·simpa[zS,e1] using g2
   ·simp only[zS,e1];exact rfl
  ·refine Wsem.seqS (Wsem.regionTA (xN ttok).two ttok mixed [0,1,2,3,4,5,6,7,8,9] [false,false,false,false,false,false,false,true] (by kernel_rfl) ?_);refine⟨eTy y,by omega,rfl,rfl,?_⟩;refine⟨by simp,by simp;omega,zHY [y],0,_,rfl,q1,?_,fun _ b' cap' zs g1 g2=>?_,fun hin=>?_⟩
   ·show 0+cap*4<=(fl (zS x).reverse rest).length;rw[zH0,q2,List.length_reverse,<-Nat.add_mul];have:(zS x).length+(cap-(zS x).length)=cap:=by omega
    rw[this];omega
   ·refine⟨by kernel_rfl,?_⟩;refine Wsem.of ttok mixed ?_;have e:fl (zS (.app x y)).reverse zs=((fl (zS x).reverse rest).drop 0).take ((zS x).length*4)++([eTy y].flatMap AV.cells++zs):=by
     rw[List.drop_zero,show (zS x).length=(zS x).reverse.length by simp,zZY];simp[zS]
    refine⟨[(b',HO.cells (fl (zS (.app x y)).reverse zs))],by rw[e];exact List.Sublist.refl _,rfl,.inr ⟨b',cap',zs,by simpa[zS] using g1,by simpa[zS] using g2,by simp[zS],?_,rfl⟩⟩;simp only[zS];exact rfl
   ·refine⟨by kernel_rfl,?_⟩;refine Wsem.of ttok mixed ?_;have hin:(zS x).length+1<=cap:=hin;have e:fl (zS (.app x y)).reverse (rest.drop 4)=setAt (fl (zS x).reverse rest) (0+(zS x).length*4) ([eTy y].flatMap AV.cells):=by
     rw[Nat.zero_add,show (zS x).length=(zS x).reverse.length by simp];rw[z6Q];simp[zS]
    refine⟨[(b,HO.cells (fl (zS (.app x y)).reverse (rest.drop 4)))],by rw[e];exact List.Sublist.refl _,rfl,.inr ⟨b,cap,rest.drop 4,by simpa[zS] using hin,?_,by simp[zS],?_,rfl⟩⟩
    ·rw[List.length_drop,q2];simp only[zS,List.length_cons];omega
    ·simp only[zS];exact rfl
 | _=>exact fun _=>leaf _ (by simp[Tp.form]) rfl rfl
theorem yY (t:Tp) (hs:(zS t).length<1000000):zC Tryz.prog 93 [eTy t] (.tup [eTy (jC t),.sl (zO (zS t).reverse)]):=by
 have hl:(zO (zS t).reverse).length=(zS t).length:=by simp[zO]
 refine zTW (esz:=4) (zHY _) (fun x hx c hc=>?_) ?_
 ·obtain⟨y,_,rfl⟩:=List.mem_map.1 hx;simp[eTy,AV.cells] at hc;rcases hc with rfl|rfl|rfl|rfl<;>rfl
 refine CallsG.post (zS8 t hs) fun r o h hp=>⟨hp.1,?_⟩
 rcases hp.2 with⟨e,h1,h2⟩|⟨b,cap,rest,q1,q2,q3,rfl,rfl⟩
 ·exact .inl ⟨by rw[e];rfl,h1,h2⟩
 ·exact .inr ⟨b,cap,rest,by rw[hl];exact q1,by rw[hl],rfl⟩
def ht:Tp->Nat
 | .app a b=>max (ht a) (ht b)+1
 | .all _ a=>ht a+1
 | _=>0
theorem zWB {t:Tp}:∀x∈zS t,ht x<=ht t/\dp x<=dp t/\∀s∈fv x,s∈fv t:=by
 induction t with
 | app a b iha _ =>
  intro x hx;simp only[zS,List.mem_cons] at hx;rcases hx with rfl|hx
  ·exact⟨by simp only[ht];omega,by simp only[dp];omega,fun s hs=>mem_fv_app.2 (.inr hs)⟩
  ·obtain⟨h1,h2,h3⟩:=iha x hx;exact⟨by simp only[ht];omega,by simp only[dp];omega,fun s hs=>mem_fv_app.2 (.inl (h3 s hs))⟩
 | _=>intro x hx;simp[zS] at hx
def wd (c:UInt8):Bool:=c != 32 && c != 41 && c != 93
abbrev Wrd (s:ByteArray):Prop := ∀c∈by' s,wd c=true
def CoW (s:ByteArray):Prop:=Wrd s/\∃c l,by' s=c::l/\c≠63/\c≠35/\c≠39/\c≠91/\c≠40
theorem z7Q {c:UInt8} (h:tk c=true):wd c=true:=by
 unfold tk at h;unfold wd;simp only[Bool.or_eq_true,Bool.and_eq_true,decide_eq_true_eq,bne_iff_ne,ne_eq] at h⊢;refine⟨⟨?_,?_⟩,?_⟩<;>rintro rfl<;>revert h<;>decide
theorem zDM (n:Nat):Wrd (dcm n):=fun c hc=>z7Q (z5J n c hc)
theorem zGL {a b:ByteArray} (ha:Wrd a) (hb:Wrd b):Wrd (a++b):=fun c hc=>by
 rw[jW] at hc;rcases List.mem_append.1 hc with h|h
 ·exact ha c h
 ·exact hb c h
def zL0 (r:List UInt8):Prop := ∀c,r[0]? = some c->wd c=false
theorem zMV:zL0 []:=fun c h=>by simp at h
theorem jZ {c:UInt8} {r:List UInt8} (h:wd c=false):zL0 (c::r):=fun d hd=>by simp at hd;subst hd;exact h
theorem zQ1:∀{l m r q:List UInt8},(∀c∈l,wd c=true)->(∀c∈m,wd c=true)->zL0 r->zL0 q->l++r=m++q->l=m/\r=q
 | [],[],r,q,_,_,_,_,h=>⟨rfl,h⟩
 | [],c::m,r,q,_,hm,hr,_,h=>by
  have h:r=c::(m++q):=h;subst h;have:=hr c (by simp);rw[hm c (by simp)] at this;cases this
 | c::l,[],r,q,hl,_,_,hq,h=>by
  have h:c::(l++r)=q:=h;subst h;have:=hq c (by simp);rw[hl c (by simp)] at this;cases this
 | c::l,d::m,r,q,hl,hm,hr,hq,h=>by
  simp only[List.cons_append,List.cons.injEq] at h;obtain⟨rfl,h⟩:=h;obtain⟨rfl,h2⟩:=zQ1 (fun x hx=>hl x (by simp[hx])) (fun x hx=>hm x (by simp[hx])) hr hq h;exact⟨rfl,h2⟩
def VdX:Db->Prop
 | .mt n => ∃k:Nat,n=(k:Int)/\k<10
 | .bv _=>True
 | .fr s=>Wrd s
 | .con s=>CoW s
 | .all a=>VdX a
 | .app a b=>VdX a/\VdX b
 | .no=>False
theorem zYJ (d:Db):∀(e:Db) (r q:List UInt8),VdX d->VdX e->zL0 r->zL0 q->ser d++r=ser e++q->d=e/\r=q:=by
 induction d with
 | no=>intro e r q h;exact h.elim
 | mt n =>
  intro e r q hd he hr hq h;obtain⟨k,rfl,_⟩:=hd;cases e with
  | mt m =>
   obtain⟨j,rfl,_⟩:=he;simp only[ser,List.cons_append,List.cons.injEq,true_and,Int.toNat_natCast] at h;obtain⟨h1,h2⟩:=zQ1 (zDM _) (zDM _) hr hq h;exact⟨by rw[zIV h1],h2⟩
  | con s=>obtain⟨_,c,l,e,h1,h2,h3,h4,h5⟩:=he;simp only[ser,e,List.cons_append,List.cons.injEq] at h;exact absurd h.1.symm h1
  | no=>exact he.elim
  | _=>simp[ser] at h
 | bv n =>
  intro e r q hd he hr hq h;cases e with
  | bv m =>
   simp only[ser,List.cons_append,List.cons.injEq,true_and] at h;obtain⟨h1,h2⟩:=zQ1 (zDM _) (zDM _) hr hq h;exact⟨by rw[zIV h1],h2⟩
  | con s=>obtain⟨_,c,l,e,h1,h2,h3,h4,h5⟩:=he;simp only[ser,e,List.cons_append,List.cons.injEq] at h;exact absurd h.1.symm h2
  | no=>exact he.elim
  | _=>simp[ser] at h
 | fr s =>
  intro e r q hd he hr hq h;cases e with
  | fr u =>
   simp only[ser,List.cons_append,List.cons.injEq,true_and] at h;obtain⟨h1,h2⟩:=zQ1 hd he hr hq h;exact⟨by rw[zJZ h1],h2⟩
  | con s=>obtain⟨_,c,l,e,h1,h2,h3,h4,h5⟩:=he;simp only[ser,e,List.cons_append,List.cons.injEq] at h;exact absurd h.1.symm h3
  | no=>exact he.elim
  | _=>simp[ser] at h
 | con s =>
  intro e r q hd he hr hq h;cases e with
  | con u =>
   obtain⟨h1,h2⟩:=zQ1 hd.1 he.1 hr hq h;exact⟨by rw[zJZ h1],h2⟩
  | no=>exact he.elim
  | _ =>
   obtain⟨_,c,l,e,h1,h2,h3,h4,h5⟩:=hd;simp only[ser,e,List.cons_append,List.cons.injEq] at h
   first
   | exact absurd h.1 h1
   | exact absurd h.1 h2
   | exact absurd h.1 h3
   | exact absurd h.1 h4
   | exact absurd h.1 h5
 | all a ih =>
  intro e r q hd he hr hq h;cases e with
  | all b =>
   simp only[ser,List.cons_append,List.cons.injEq,true_and,List.append_assoc] at h;obtain⟨rfl,h2⟩:=ih b _ _ hd he (jZ (by decide)) (jZ (by decide)) h;exact⟨rfl,by simpa using h2⟩
  | con s=>obtain⟨_,c,l,e,h1,h2,h3,h4,h5⟩:=he;simp only[ser,e,List.cons_append,List.cons.injEq] at h;exact absurd h.1.symm h4
  | no=>exact he.elim
  | _=>simp[ser] at h
 | app a b iha ihb =>
  intro e r q hd he hr hq h;cases e with
  | app c d =>
   simp only[ser,List.cons_append,List.cons.injEq,true_and,List.append_assoc] at h;obtain⟨rfl,h2⟩:=iha c _ _ hd.1 he.1 (jZ (by decide)) (jZ (by decide)) h;simp only[List.cons.injEq,true_and] at h2;obtain⟨rfl,h3⟩:=ihb d _ _ hd.2 he.2 (jZ (by decide)) (jZ (by decide)) h2;exact⟨rfl,by simpa using h3⟩
  | con s=>obtain⟨_,c,l,e,h1,h2,h3,h4,h5⟩:=he;simp only[ser,e,List.cons_append,List.cons.injEq] at h;exact absurd h.1.symm h5
  | no=>exact he.elim
  | _=>simp[ser] at h
def TkX:Tp->Prop
 | .app a b=>TkX a/\TkX b
 | .all s a=>Wrd s/\TkX a
 | .mt n => ∃k:Nat,n=(k:Int)/\k<10
 | .con s=>CoW s
 | .var s=>Wrd s
 | .no=>False
theorem zWT (t:Tp):∀e,TkX t->VdX (db t e):=by
 induction t with
 | no=>exact fun _ h=>h
 | mt n=>exact fun _ h=>h
 | con s=>exact fun _ h=>h
 | var s =>
  intro e h;simp only[db];split
  ·trivial
  ·exact h
 | app a b iha ihb=>exact fun e h=>⟨iha e h.1,ihb e h.2⟩
 | all s a ih=>exact fun e h=>ih _ h.2
theorem z1I {a b:Tp} (ha:TkX a) (hb:TkX b):nl a []=nl b []↔smb a b [] []=true:=by
 rw[zNK a b [] [] rfl];constructor
 ·intro h;have h1:=zD4 a [];have h2:=zD4 b [];rw[h] at h1;rw[h1] at h2;exact (zYJ _ _ [] [] (zWT a _ ha) (zWT b _ hb) zMV zMV (by rw[h2])).1
 ·intro h;refine zJZ ?_;rw[zD4,zD4,h]
theorem TkX.nm:∀{t:Tp},TkX t->NmX t
 | .app _ _,h=>⟨TkX.nm h.1,TkX.nm h.2⟩
 | .all _ a,h=>TkX.nm (t:=a) h.2
 | .mt _,h=>h
 | .con _,_=>trivial
 | .var _,_=>trivial
 | .no,h=>h
def Shn (K:Nat):Tp->Prop
 | .app a b=>Shn K a/\Shn K b
 | .all s a=>Shn K a
 | .con s=>s.size<=K
 | .var s=>s.size<=K
 | _=>True
theorem zR8 {K:Nat} (t:Tp):∀x:List ByteArray,TkX t->Shn K t->x.length+t.sz<=1000000->(nl t x).size+3<=(K+20)*t.sz:=by
 induction t with
 | no=>intro x h;exact h.elim
 | mt n =>
  intro x ⟨k,h1,h2⟩ _ _;subst h1;have:=wJ 1 k (by omega) (by decide);simp only[nl,ByteArray.size_append,Tp.sz,Int.toNat_natCast];show 1+_+3<=_;omega
 | con s=>intro x _ h _;simp only[nl,Tp.sz];have h:s.size<=K:=h;omega
 | var s =>
  intro x _ h hl;have h:s.size<=K:=h;simp only[nl,Tp.sz] at hl⊢;split
  ·rename_i hm;have:=zSM (List.mem_reverse.2 (memb_iff.1 hm));rw[List.length_reverse] at this;have:=wJ 7 (ixN x.reverse s) (by omega) (by decide);rw[ByteArray.size_append];show 1+_+3<=_;omega
  ·rw[ByteArray.size_append];show 1+_+3<=_;omega
 | app a b iha ihb =>
  intro x h hs hl;simp only[Tp.sz] at hl;have h1:=iha x h.1 hs.1 (by omega);have h2:=ihb x h.2 hs.2 (by omega);simp only[nl,ByteArray.size_append,Tp.sz,Nat.mul_add];show 1+_+1+_+1+3<=_;omega
 | all s a ih =>
  intro x h hs hl;simp only[Tp.sz] at hl;have h1:=ih (x++[s]) h.2 hs (by simp;omega);simp only[nl,ByteArray.size_append,Tp.sz,Nat.mul_add];show 1+_+1+3<=_;omega
theorem zG2 {a b:Tp} {K:Nat} (ha:TkX a) (hb:TkX b) (sa:Shn K a) (sb:Shn K b) (ka:a.sz<=800000) (kb:b.sz<=800000) (hK:K<=1000000000000):zC Tryz.prog zL [eTy a,eTy b] (.sb (smb a b [] [])):=by
 have h1:=zR8 a [] ha sa (by simp;omega);have h2:=zR8 b [] hb sb (by simp;omega);have d1:=zAM a;have d2:=zAM b;have m1:(K+20)*a.sz<=1000000000020*800000:=Nat.mul_le_mul (by omega) ka;have m2:(K+20)*b.sz<=1000000000020*800000:=Nat.mul_le_mul (by omega) kb;have h:=zMD ha.nm hb.nm (by omega) (by omega) (by omega) (by omega);have e:decide (nl a []=nl b [])=smb a b [] []:=by
  have:=z1I ha hb;by_cases q:nl a []=nl b []
  ·rw[decide_eq_true q,this.1 q]
  ·rw[decide_eq_false q];cases hs:smb a b [] [] with
   | true=>exact absurd (this.2 hs) q
   | false=>rfl
 rw[e] at h;exact h
def Gs (t:Tp):Prop:=t.sz<=700/\TkX t/\Shn 1000 t
structure WOk (B:Nat) (w:Wd):Prop where
 fl:w.fs.length<=1000
 fo:∀f∈w.fs,FdOk f/\f.t.sz<=500/\f.ar<=100/\Gs f.t
 el:w.env.length<=B
 pl:w.ps.length<=200
 pv:∀p∈w.ps,∃x,p.2 = .var x
 dl:w.deep<100
theorem zZO (t:Tp):(fv t).length<=t.sz:=zWN t
theorem jQ {t:Tp} {ps:Env'} (h:t.sz+(caught ps).length<=1000) (hp:ps.length<=1000) (hd:∀p∈ps,dp p.2<1000000) (hs:t.sz<=700):FitX 1000 t ps:=by
 have h1:=zZO t;have h2:=zAM t;refine⟨⟨fv t++caught ps,by rw[List.length_append];omega,fun s hs=>List.mem_append_left _ hs,fun p hp s hs=>List.mem_append_right _ (List.mem_flatMap.2 ⟨p,hp,hs⟩)⟩,by omega,by omega,hd⟩
theorem zGB:∀{ps:Env'},(∀p∈ps,∃x,p.2 = .var x)->(caught ps).length<=ps.length
 | [],_=>Nat.le_refl _
 | p::r,h=>by
  obtain⟨x,e⟩:=h p (by simp);have:=zGB (ps:=r) fun q hq=>h q (by simp[hq]);show (fv p.2++caught r).length<=_;rw[e,List.length_append];simp[fv];omega
theorem WOk.fit {B:Nat} {w:Wd} (h:WOk B w) {t:Tp} (ht:t.sz<=500):FitX 1000 t w.ps:=by
 have h1:=zGB h.pv;have h2:=h.pl;exact jQ (by omega) (by omega) (fun p hp=>by obtain⟨x,e⟩:=h.pv p hp;rw[e];simp[dp]) (by omega)
theorem zUK {a u:Tp} {s:ByteArray} (ha:a.sz<=500) (hu:u.sz<=500):FitX 1000 a [(s,u)]:=by
 have h1:=zZO u;have h2:=zAM u;refine jQ ?_ (by simp) (fun p hp=>?_) (by omega)
 ·show a.sz+(fv u++[]).length<=_;rw[List.append_nil];omega
 ·rw[List.mem_singleton.1 hp];show dp u<_;omega
theorem zZF:∀t:Tp,((zS t).map Tp.sz).sum<=t.sz:=by
 intro t;induction t with
 | app x b ih _=>simp only[zS,List.map_cons,List.sum_cons,Tp.sz];omega
 | _=>simp[zS]
theorem zJ4:∀(vs:List ByteArray) (l:List Tp),(caught (vs.zip l)).length<=(l.map Tp.sz).sum
 | [],l=>by simp[caught]
 | v::vs,[]=>by simp[caught]
 | v::vs,t::l=>by
  have h1:=zJ4 vs l;have h2:=zZO t;show (fv t++caught (vs.zip l)).length<=_;rw[List.length_append,List.map_cons,List.sum_cons];omega
theorem zTN {x t:Tp} {vs:List ByteArray} (hx:x.sz<=500) (ht:t.sz<=500):FitX 1000 x (bys vs t):=by
 have h1:=zJ4 vs (zS t).reverse;have h2:=zZF t;have h3:=zF5 t;have h4:((zS t).reverse.map Tp.sz).sum=((zS t).map Tp.sz).sum:=by rw[List.map_reverse,List.sum_reverse]
 refine jQ (by show x.sz+(caught (vs.zip (zS t).reverse)).length<=_;omega) ?_ (fun p hp=>?_) (by omega)
 ·show (vs.zip (zS t).reverse).length<=_;rw[List.length_zip,List.length_reverse];omega
 ·have hm:p.2∈(zS t).reverse:=(List.of_mem_zip hp).2;have:=(zWB p.2 (List.mem_reverse.1 hm)).2.1;have:=zAM t;omega
abbrev fnT (a b:Tp):Tp := .app (.app (.con arrow) a) b
inductive TyW (own:Nat->ByteArray) (B:Nat):Wd->Cr->Tp->Prop
 | var {w:Wd} {n:Int} {s:ByteArray} {t0 t:Tp} (hw:WOk B w) (h:wP w.env s=some t) (hs:Gs t):TyW own B w (.node 1 n s t0 .nil) t
 | con {w:Wd} {n:Int} {s:ByteArray} {t0:Tp} {f:Fd} (hw:WOk B w) (h:wO w.fs s=some f):TyW own B w (.node 2 n s t0 .nil) f.t
 | int {w:Wd} {n:Int} {s:ByteArray} {t0:Tp} (hw:WOk B w):TyW own B w (.node 3 n s t0 .nil) (.con yE)
 | app {w:Wd} {n:Int} {s:ByteArray} {t0 u u' t:Tp} {p q:Cr} (hw:WOk B w) (h1:TyW own B w p (.app (.app (.con arrow) u) t)) (h2:TyW own B w q u') (h:smb u u' [] []=true) (hs:u.sz<=1000):TyW own B w (.node 4 n s t0 (.kid p (.kid q .nil))) t
 | lam {w:Wd} {n:Int} {s:ByteArray} {t u:Tp} {p:Cr} (hw:WOk B w) (ht:t.sz<=500) (h:TyW own B (w.more [(s,w.mean t)]) p u) (hr:Gs (fnT (w.mean t) u)):TyW own B w (.node 5 n s t (.kid p .nil)) (.app (.app (.con arrow) (w.mean t)) u)
 | tapp {w:Wd} {n:Int} {s x:ByteArray} {t a:Tp} {p:Cr} (hw:WOk B w) (ht:t.sz<=500) (hm:(w.mean t).sz<=500) (ha:a.sz<=500) (h:TyW own B w p (.all x a)) (hr:Gs (sub a [(x,w.mean t)])):TyW own B w (.node 6 n s t (.kid p .nil)) (sub a [(x,w.mean t)])
 | tlam {w:Wd} {n:Int} {s:ByteArray} {t u:Tp} {p:Cr} (hw:WOk B w) (h:TyW own B (w.all s (own w.deep)) p u) (hr:Gs (.all (own w.deep) u)):TyW own B w (.node 7 n s t (.kid p .nil)) (.all (own w.deep) u)
 | bind {w:Wd} {n:Int} {s x:ByteArray} {t0 t u v:Tp} {p q:Cr} (hw:WOk B w) (ht:t.sz<=500) (h1:TyW own B (w.more [(x,w.mean t)]) q u) (h:smb u (w.mean t) [] []=true) (hs:u.sz<=1000) (h2:TyW own B (w.more [(x,w.mean t)]) p v):TyW own B w (.node 8 n s t0 (.kid p (.bind x t q .nil))) v
 | case {w:Wd} {n:Int} {s:ByteArray} {t u:Tp} {p g:Cr} (fW:Al->Wd) (fu:Al->Tp) (hw:WOk B w) (ht:t.sz<=500) (hu:u.sz<=500) (hk:g.kids=[]) (hl:g.alts.length<=1000) (h1:TyW own B w p u) (h2:∀a∈g.alts,zAL w u a=some (fW a)/\a.2.1.length<=100) (h3:∀a∈g.alts,TyW own B (fW a) a.2.2 (fu a)) (h4:∀a∈g.alts,smb (fu a) (w.mean t) [] []=true/\(fu a).sz<=1000) (hr:Gs (w.mean t)):TyW own B w (.node 9 n s t (.kid p g)) (w.mean t)
 | prim {w:Wd} {n:Int} {s:ByteArray} {t0 u v r:Tp} {p q:Cr} (hw:WOk B w) (h1:TyW own B w p u) (h2:TyW own B w q v) (hu:smb u (.con yE) [] []=true/\u.sz<=1000) (hv:smb v (.con yE) [] []=true/\v.sz<=1000) (hr:zC8 s=some r):TyW own B w (.node 10 n s t0 (.kid p (.kid q .nil))) r
 | fail {w:Wd} {n:Int} {s:ByteArray} {t:Tp} (hw:WOk B w) (ht:t.sz<=500) (hr:Gs (w.mean t)):TyW own B w (.node 11 n s t .nil) (w.mean t)
theorem zJ3:Gs (.con yE):=⟨by decide,⟨by decide,_,_,rfl,by decide⟩,Nat.le_of_ble_eq_true rfl⟩
theorem z2A:Gs (.con yC):=⟨by decide,⟨by decide,_,_,rfl,by decide⟩,Nat.le_of_ble_eq_true rfl⟩
theorem Gs.fn {u t:Tp} (h:Gs (fnT u t)):Gs u/\Gs t:=by
 obtain⟨h1,h2,h3⟩:=h;simp only[Tp.sz] at h1;exact⟨⟨by omega,h2.1.2,h3.1.2⟩,⟨by omega,h2.2,h3.2⟩⟩
theorem TyW.gs {own:Nat->ByteArray} {B:Nat} {w:Wd} {c:Cr} {t:Tp} (h:TyW own B w c t):Gs t:=by
 induction h with
 | var hw h hs=>exact hs
 | con hw h=>exact (hw.fo _ (List.mem_of_find?_eq_some h)).2.2.2
 | int hw=>exact zJ3
 | app hw h1 h2 h hs i1 i2=>exact i1.fn.2
 | lam hw ht h hr ih=>exact hr
 | tapp hw ht hm ha h hr ih=>exact hr
 | tlam hw h hr ih=>exact hr
 | bind hw ht h1 h hs h2 i1 i2=>exact i2
 | case fW fu hw ht hu hk hl h1 h2 h3 h4 hr i1 i3=>exact hr
 | @prim w n s t0 u v r p q hw h1 h2 hu hv hr i1 i2 =>
  unfold zC8 at hr;split at hr
  ·cases hr;exact zJ3
  ·split at hr
   ·cases hr;exact z2A
   ·cases hr
 | fail hw ht hr=>exact hr
theorem TyW.sz {own:Nat->ByteArray} {B:Nat} {w:Wd} {c:Cr} {t:Tp} (h:TyW own B w c t):t.sz<=700:=h.gs.1
theorem zNW {w:Wd} {u t:Tp} {p:Cr} (h1:OfS w p t) (h2:smb t u [] []=true) (h3:t.sz<=1000):IsT w u p:=⟨t,h1,h2,by have:=zAM t;omega⟩
theorem z4A {B:Nat} (hB:B<=60000) {w w':Wd} {t:Tp} {a:Al} (hw:WOk B w) (ht:t.sz<=500) (ha:a.2.1.length<=100) (h:zAL w t a=some w'):TkS w t a w':=by
 have hd:dp t<1000000000:=by have:=zAM t;omega
 have hsp:=zF5 t;unfold zAL at h;split at h
 ·rename_i h3;cases h;exact z2L w t h3
 ·split at h
  ·rename_i h2;split at h
   ·rename_i hs;cases h;exact z4U h2 hd hs
   ·cases h
  ·split at h
   ·rename_i h1;split at h
    ·cases h
    ·rename_i f hf;have hfm:f∈w.fs:=List.mem_of_find?_eq_some hf;split at h
     ·cases h
     ·rename_i l n vs hsh;split at h
      ·rename_i hc;cases h
       have hfo:=hw.fo f hfm;refine z4R (K:=1000) h1 (by have:=hw.fl;omega) hf hsh hfo.1.dp hfo.1.ar (by omega) hc (fun x hx=>?_) (by have:=hw.el;omega);refine zTN ?_ ht;unfold xQ at hsh;split at hsh
       ·cases hsh
       ·rename_i vs' t0 hA;split at hsh
        ·cases hsh
        ·rename_i l' u hF;split at hsh
         ·cases hsh
          have h1:=zHW _ _ _ _ hA;have h2:=(zEE _ _ _ _ hF).2.2 x hx;omega
         ·cases hsh
      ·cases h
   ·cases h
theorem zHH {B:Nat} (hB:B<=60000) {w:Wd} {c:Cr} {t:Tp} (h:TyW zDY B w c t):OfS w c t:=by
 induction h with
 | var hw h hs=>exact zC6 (j:=0) (f:=116) rfl rfl rfl ((zG5 (by have:=hw.el;omega)).1 _ h)
 | con hw h =>
  obtain⟨i,h1,h2,h3⟩:=zDO h;rw[<-h2];exact zC6 (j:=1) (f:=117) rfl rfl rfl (z1A _ _ (by have:=hw.fl;omega) h1 h3)
 | int hw=>exact zC6 (j:=2) (f:=118) rfl rfl rfl (zWO _ _)
 | @app w n s t0 u u' t p q hw h1 h2 h hs i1 i2 =>
  exact zC6 (j:=3) (f:=119) rfl rfl rfl (z0H (tp := .app (.app (.con arrow) u) t) rfl i1 i2 rfl h (by show dp u<_;have:=zAM u;omega))
 | lam hw ht h hr ih=>exact zC6 (j:=4) (f:=120) rfl rfl rfl (z1H rfl (hw.fit ht) (by have:=hw.el;omega) ih)
 | tapp hw ht hm ha h hr ih=>exact zC6 (j:=5) (f:=121) rfl rfl rfl (zWZ rfl (hw.fit ht) ih (zUK ha hm))
 | tlam hw h hr ih=>exact zC6 (j:=6) (f:=122) rfl rfl rfl (zXN rfl hw.dl (by have:=hw.pl;omega) ih)
 | @bind w n s x t0 t u v p q hw ht h1 h hs h2 i1 i2 =>
  refine zC6 (j:=7) (f:=123) rfl rfl rfl (z18 (w':=w.more [(x,w.mean t)]) rfl ?_ i2);exact zLU (w:=w) (l:=[(x,t,q)]) (by have:=hw.el;simp;omega) (by simp) (K:=1000) (fun b hb=>by rw[List.mem_singleton.1 hb];exact hw.fit ht) (fun b hb=>by rw[List.mem_singleton.1 hb];exact zNW i1 h hs)
 | @case w n s t u p g fW fu hw ht hu hk hl h1 h2 h3 h4 hr i1 i3 =>
  refine zC6 (j:=8) (f:=124) rfl rfl (by simp[Cr.kids,hk]) (zZP (c := .node 9 n s t (.kid p g)) (K:=1000) (by simp[Cr.kids,hk]) i1 (hw.fit ht) (by show g.alts.length<=_;omega) fun a ha=>?_);exact⟨fW a,z4A hB hw hu (h2 a ha).2 (h2 a ha).1,zNW (i3 a ha) (h4 a ha).1 (h4 a ha).2⟩
 | @prim w n s t0 u v r p q hw h1 h2 hu hv hr i1 i2 =>
  refine zC6 (j:=9) (f:=125) rfl rfl rfl (zX1 (c := .node 10 n s t0 (.kid p (.kid q .nil))) (by simp[Cr.kids]) (fun x hx=>?_) hr);simp only[Cr.kids,List.mem_cons,List.not_mem_nil,or_false] at hx;rcases hx with rfl|rfl
  ·exact⟨u,i1,hu.1,by have:=zAM u;omega⟩
  ·exact⟨v,i2,hv.1,by have:=zAM v;omega⟩
 | fail hw ht hr=>exact zC6 (j:=10) (f:=126) rfl rfl rfl (z04 _ _ (hw.fit ht))
abbrev sL:ByteArray:=⟨#[76]⟩
abbrev sP:ByteArray:=⟨#[80]⟩
abbrev sN:ByteArray:=⟨#[78]⟩
abbrev sC:ByteArray:=⟨#[67]⟩
abbrev sa:ByteArray:=⟨#[97]⟩
abbrev sb9:ByteArray:=⟨#[98]⟩
abbrev sK:ByteArray:=⟨#[75,64]⟩
abbrev zBR:ByteArray:=⟨#[70,97,108,115,101]⟩
abbrev zEV:ByteArray:=⟨#[84,114,117,101]⟩
abbrev lsT (a:Tp):Tp := .app (.con sL) a
abbrev prT (a b:Tp):Tp := .app (.app (.con sP) a) b
def yS:List Fd:=[
 ⟨sN,0,2,0,.all sa (lsT (.var sa))⟩,
 ⟨sC,1,2,2,.all sa (fnT (.var sa) (fnT (lsT (.var sa)) (lsT (.var sa))))⟩,
 ⟨sP,0,1,2,.all sa (.all sb9 (fnT (.var sa) (fnT (.var sb9) (prT (.var sa) (.var sb9)))))⟩,
 ⟨zBR,0,2,0,.con yC⟩,
 ⟨zEV,1,2,0,.con yC⟩,
 ⟨sK,0,1,2,.all sa (fnT (.var sa) (fnT (.all sb9 (fnT (.var sb9) (.var sb9))) (.app (.con sK) (.var sa))))⟩]
theorem z4P:CoW arrow/\CoW sL/\CoW sP/\CoW sK/\CoW yC:=⟨⟨by decide,_,_,rfl,by decide⟩,⟨by decide,_,_,rfl,by decide⟩,⟨by decide,_,_,rfl,by decide⟩,⟨by decide,_,_,rfl,by decide⟩,⟨by decide,_,_,rfl,by decide⟩⟩
theorem wrd_ab:Wrd sa/\Wrd sb9:=⟨by decide,by decide⟩
theorem zH9:∀f∈yS,FdOk f/\f.t.sz<=500/\f.ar<=100/\Gs f.t:=by
 intro f hf;simp only[yS,List.mem_cons,List.not_mem_nil,or_false] at hf;rcases hf with rfl|rfl|rfl|rfl|rfl|rfl<;>refine⟨⟨by decide,by decide⟩,by decide,by decide,by decide,?_,?_⟩<;>simp[TkX,Shn,z4P,wrd_ab]<;>decide
theorem zT5:wO yS sN=some ⟨sN,0,2,0,.all sa (lsT (.var sa))⟩:=by rfl
theorem zUJ:wO yS sC=some ⟨sC,1,2,2,.all sa (fnT (.var sa) (fnT (lsT (.var sa)) (lsT (.var sa))))⟩:=by rfl
theorem zUO:wO yS sP=some ⟨sP,0,1,2,.all sa (.all sb9 (fnT (.var sa) (fnT (.var sb9) (prT (.var sa) (.var sb9)))))⟩:=by rfl
theorem zTY:wO yS zBR=some ⟨zBR,0,2,0,.con yC⟩:=by rfl
theorem zT7:wO yS zEV=some ⟨zEV,1,2,0,.con yC⟩:=by rfl
theorem z1V:xQ ⟨sC,1,2,2,.all sa (fnT (.var sa) (fnT (lsT (.var sa)) (lsT (.var sa))))⟩=some ([.var sa,lsT (.var sa)],sL,[sa]):=by rfl
theorem z1E:xQ ⟨sN,0,2,0,.all sa (lsT (.var sa))⟩=some ([],sL,[sa]):=by rfl
theorem z1Y:xQ ⟨sP,0,1,2,.all sa (.all sb9 (fnT (.var sa) (fnT (.var sb9) (prT (.var sa) (.var sb9)))))⟩=some ([.var sa,.var sb9],sP,[sa,sb9]):=by rfl
theorem z1O:xQ ⟨zBR,0,2,0,.con yC⟩=some ([],yC,[]):=by rfl
theorem z1Q:xQ ⟨zEV,1,2,0,.con yC⟩=some ([],yC,[]):=by rfl
def qU:Tp->Prop
 | .all _ _=>False
 | .app a b=>qU a/\qU b
 | _=>True
theorem SimT.no {vars:List ByteArray}:∀{t:Tp},SimT vars t->qU t
 | .app _ _,h=>⟨SimT.no h.1,SimT.no h.2⟩
 | .con _,_=>trivial
 | .var _,_=>trivial
theorem SimT.mono {vars vars':List ByteArray} (hs:∀x∈vars,x∈vars'):∀{t:Tp},SimT vars t->SimT vars' t
 | .app _ _,h=>⟨SimT.mono hs h.1,SimT.mono hs h.2⟩
 | .con _,h=>h
 | .var _,h=>hs _ h
theorem SimT.fv {vars:List ByteArray}:∀{t:Tp},SimT vars t->∀x∈Go.Proofs.YtdmbahepaglcbaaGreatDoor.fv t,x∈vars
 | .app _ _,h,x,hx=>by
  rcases mem_fv_app.1 hx with hx|hx
  ·exact SimT.fv h.1 x hx
  ·exact SimT.fv h.2 x hx
 | .con _,_,x,hx=>by simp[Go.Proofs.YtdmbahepaglcbaaGreatDoor.fv] at hx
 | .var s,h,x,hx=>by simp[Go.Proofs.YtdmbahepaglcbaaGreatDoor.fv] at hx;subst hx;exact h
theorem zDF:∀{t:Tp} {ps:Env'},qU t->(∀x∈fv t,look x ps=none)->sub t ps=t
 | .app a b,ps,h,hx=>by
  simp only[sub];rw[zDF h.1 fun x q=>hx x (mem_fv_app.2 (.inl q)),zDF h.2 fun x q=>hx x (mem_fv_app.2 (.inr q))]
 | .var s,ps,_,hx=>by
  simp only[sub];rw[hx s (by simp[fv])];rfl
 | .con _,_,_,_=>rfl
 | .mt _,_,_,_=>rfl
 | .no,_,_,_=>rfl
theorem zKS:∀{t:Tp} {ps qs:Env'},qU t->(∀x∈fv t,look x ps=look x qs)->sub t ps=sub t qs
 | .app a b,ps,qs,h,hx=>by
  simp only[sub];rw[zKS h.1 fun x q=>hx x (mem_fv_app.2 (.inl q)),zKS h.2 fun x q=>hx x (mem_fv_app.2 (.inr q))]
 | .var s,ps,qs,_,hx=>by
  simp only[sub];rw[hx s (by simp[fv])]
 | .con _,_,_,_,_=>rfl
 | .mt _,_,_,_,_=>rfl
 | .no,_,_,_,_=>rfl
theorem zJM {x s:ByteArray} (h:x≠s):∀(ps:Env') (o:Tp),look x (wZ s ps++[(s,o)])=look x ps
 | [],o=>by simp[wZ,look,Ne.symm h]
 | (y,t)::r,o=>by
  have ih:=zJM h r o;unfold wZ at ih⊢;by_cases e:y=s
  ·subst e;simp only[List.filter_cons,ne_eq,not_true_eq_false,decide_false,Bool.false_eq_true,if_false,look,if_neg (Ne.symm h)];exact ih
  ·simp only[List.filter_cons,ne_eq,e,not_false_eq_true,decide_true,if_true,List.cons_append,look];split
   ·rfl
   ·exact ih
theorem zFO {s:ByteArray}:∀(ps:Env') (o:Tp),look s (wZ s ps++[(s,o)])=some o
 | [],o=>by simp[wZ,look]
 | (y,t)::r,o=>by
  have ih:=zFO (s:=s) r o;unfold wZ at ih⊢;by_cases e:y=s
  ·subst e;simp only[List.filter_cons,ne_eq,not_true_eq_false,decide_false,Bool.false_eq_true,if_false];exact ih
  ·simp only[List.filter_cons,ne_eq,e,not_false_eq_true,decide_true,if_true,List.cons_append,look,if_neg e];exact ih
theorem zNX:∀{t:Tp} {ps:Env'},qU t->(∀p∈ps,∃x,p.2 = .var x)->(sub t ps).sz=t.sz
 | .app a b,ps,h,hx=>by
  simp only[sub,Tp.sz];rw[zNX h.1 hx,zNX h.2 hx]
 | .var s,ps,_,hx=>by
  simp only[sub];cases hl:look s ps with
  | none=>rfl
  | some u=>obtain⟨x,e⟩:=hx _ (zGV hl);simp only at e;rw[e];rfl
 | .con _,_,_,_=>rfl
 | .mt _,_,_,_=>rfl
 | .no,_,_,_=>rfl
theorem zGX:∀{t:Tp} {ps:Env'},qU t->(∀p∈ps,qU p.2)->qU (sub t ps)
 | .app a b,ps,h,hx=>⟨zGX h.1 hx,zGX h.2 hx⟩
 | .var s,ps,_,hx=>by
  simp only[sub];cases hl:look s ps with
  | none=>exact trivial
  | some u=>exact hx _ (zGV hl)
 | .con _,_,_,_=>trivial
 | .mt _,_,_,_=>trivial
 | .no,_,_,_=>trivial
theorem yN {t:Tp} (h:t.sz<=500):TyS t :=
 ⟨zB3 t.sz t (Nat.le_refl _) 1000 [] (jQ (by show t.sz+0<=_;omega) (by simp) (fun p hp=>by cases hp) (by omega))⟩
theorem zA7:TyS .no:=yN (by decide)
theorem zJD:∀{a b:Tp},qU a->qU b->db a []=db b []->a=b
 | .no,b,_,hb,h=>by cases b<;>simp_all [db,memb,qU]
 | .mt n,b,_,hb,h=>by cases b<;>simp_all [db,memb,qU]
 | .con s,b,_,hb,h=>by cases b<;>simp_all [db,memb,qU]
 | .var s,b,_,hb,h=>by cases b<;>simp_all [db,memb,qU]
 | .app a c,b,ha,hb,h=>by
  cases b with
  | app x y =>
   simp only[db,Db.app.injEq] at h;rw[zJD ha.1 hb.1 h.1,zJD ha.2 hb.2 h.2]
  | var s=>simp[db,memb] at h
  | _=>simp[db] at h
theorem z5Y {a b:Tp} (ha:qU a) (hb:qU b) (h:smb a b [] []=true):a=b:=zJD ha hb ((zNK a b [] [] rfl).1 h)
theorem jK (a:Tp):smb a a [] []=true:=zPG rfl
structure zQM (own:Nat->ByteArray):Prop where
 inj:∀i j,own i=own j->i=j
 nb:∀i,own i≠sb9
 wd:∀k,k<100->Wrd (own k)/\(own k).size<=10
structure VOk (N:Nat) (v:V9):Prop where
 tL:∀p∈v.L,SimT v.vars p.2/\p.2.sz<=300
 ll:v.L.length<=N
 dd:v.deep<=N
 vl:v.vars.length<=20
 vn:∀x∈v.vars,Wrd x/\x.size<=10
theorem VOk.more {N:Nat} {v:V9} (h:VOk N v) (s:ByteArray) {t:Tp} (ht:SimT v.vars t) (hs:t.sz<=300):VOk (N+1) (v.more s t):=by
 refine⟨fun p hp=>?_,?_,?_,h.vl,h.vn⟩
 ·rcases List.mem_append.1 hp with q|q
  ·exact h.tL p q
  ·rw[List.mem_singleton.1 q];exact⟨ht,hs⟩
 ·have:=h.ll;show (v.L++[(s,t)]).length<=_;simp;omega
 ·have:=h.dd;show v.deep+1<=_;omega
theorem zAS {vars:List ByteArray} (hv:∀x∈vars,Wrd x/\x.size<=10):∀{t:Tp},SimT vars t->TkX t/\Shn 10 t
 | .app a b,h=>⟨⟨(zAS hv h.1).1,(zAS hv h.2).1⟩,(zAS hv h.1).2,(zAS hv h.2).2⟩
 | .var s,h=>hv s h
 | .con s,h=>by
  have h:s∈jX:=h;simp only[jX,List.mem_cons,List.not_mem_nil,or_false] at h;rcases h with rfl|rfl|rfl|rfl|rfl<;>exact⟨⟨by decide,_,_,rfl,by decide⟩,Nat.le_of_ble_eq_true rfl⟩
structure Cmp (own:Nat->ByteArray) (v:V9) (w:Wd):Prop where
 fs:w.fs=yS
 env:∀s t,s≠.empty->wP v.L s=some t->wP w.env s=some (w.mean t)
 el:w.env.length<=10+v.L.length
 pl:w.ps.length<=10+v.vars.length
 dl:w.deep<=10+v.vars.length
 pv:∀p∈w.ps,∃k,p.2 = .var (own k)/\k<w.deep
 vars:∀x∈v.vars,∃k,look x w.ps=some (.var (own k))/\k<w.deep
theorem Cmp.pv' {own:Nat->ByteArray} {v:V9} {w:Wd} (h:Cmp own v w):∀p∈w.ps,∃x,p.2 = .var x:=fun p hp=>let ⟨k,e,_⟩:=h.pv p hp;⟨_,e⟩
theorem Cmp.ok {own:Nat->ByteArray} {v:V9} {w:Wd} {N:Nat} (h:Cmp own v w) (hv:VOk N v) (hN:N<=10000):WOk 50000 w:=by
 have h1:=h.el;have h2:=h.pl;have h3:=h.dl;have h4:=hv.ll;have h5:=hv.vl;exact⟨by rw[h.fs];decide,by rw[h.fs];exact zH9,by omega,by omega,h.pv',by omega⟩
theorem Cmp.msz {own:Nat->ByteArray} {v:V9} {w:Wd} (h:Cmp own v w) {t:Tp} (ht:SimT v.vars t):(w.mean t).sz=t.sz:=zNX ht.no h.pv'
theorem zSE:∀{t:Tp} {ps:Env'},qU t->∀x∈fv (sub t ps),(∃y u,y∈fv t/\look y ps=some u/\x∈fv u)∨(x∈fv t/\look x ps=none)
 | .app a b,ps,h,x,hx=>by
  simp only[sub] at hx;rcases mem_fv_app.1 hx with hx|hx
  ·rcases zSE h.1 x hx with⟨y,u,h1,h2⟩|⟨h1,h2⟩
   ·exact .inl ⟨y,u,mem_fv_app.2 (.inl h1),h2⟩
   ·exact .inr ⟨mem_fv_app.2 (.inl h1),h2⟩
  ·rcases zSE h.2 x hx with⟨y,u,h1,h2⟩|⟨h1,h2⟩
   ·exact .inl ⟨y,u,mem_fv_app.2 (.inr h1),h2⟩
   ·exact .inr ⟨mem_fv_app.2 (.inr h1),h2⟩
 | .var s,ps,h,x,hx=>by
  simp only[sub] at hx;cases hl:look s ps with
  | none =>
   rw[hl] at hx;have e:x=s:=by simpa[fv] using hx
   subst e;exact .inr ⟨by simp[fv],hl⟩
  | some u=>rw[hl] at hx;exact .inl ⟨s,u,by simp[fv],hl,hx⟩
 | .con _,_,_,x,hx=>by simp[sub,fv] at hx
 | .mt _,_,_,x,hx=>by simp[sub,fv] at hx
 | .no,_,_,x,hx=>by simp[sub,fv] at hx
theorem Cmp.mfv {own:Nat->ByteArray} {v:V9} {w:Wd} (h:Cmp own v w) {t:Tp} (ht:SimT v.vars t):∀x∈fv (w.mean t),∃k,x=own k/\k<w.deep:=by
 intro x hx;rcases zSE ht.no x hx with⟨y,u,h1,h2,h3⟩|⟨h1,h2⟩
 ·obtain⟨k,e,hk⟩:=h.pv _ (zGV h2);have e:u = .var (own k):=e;rw[e] at h3;exact⟨k,by simpa[fv] using h3,hk⟩
 ·obtain⟨k,e,_⟩:=h.vars x (ht.fv x h1);rw[h2] at e;cases e
theorem Cmp.mno {own:Nat->ByteArray} {v:V9} {w:Wd} (h:Cmp own v w) {t:Tp} (ht:SimT v.vars t):qU (w.mean t) :=
 zGX ht.no fun p hp=>by obtain⟨k,e,_⟩:=h.pv p hp;rw[e];trivial
theorem zKQ {own:Nat->ByteArray} (ho:zQM own) {ps:Env'} (hp:∀p∈ps,∃k,p.2 = .var (own k)/\k<100):∀{t:Tp},qU t->TkX t->Shn 1000 t->TkX (sub t ps)/\Shn 1000 (sub t ps)
 | .app a b,h,h1,h2=>⟨⟨(zKQ ho hp h.1 h1.1 h2.1).1,(zKQ ho hp h.2 h1.2 h2.2).1⟩,(zKQ ho hp h.1 h1.1 h2.1).2,(zKQ ho hp h.2 h1.2 h2.2).2⟩
 | .var s,h,h1,h2=>by
  simp only[sub];cases hl:look s ps with
  | none=>exact⟨h1,h2⟩
  | some u =>
   obtain⟨k,e,hk⟩:=hp _ (zGV hl);have e:u = .var (own k):=e;have:=ho.wd k hk;rw[e];exact⟨this.1,Nat.le_trans this.2 (by decide)⟩
 | .con _,_,h1,h2=>⟨h1,h2⟩
 | .mt _,_,h1,h2=>⟨h1,h2⟩
 | .no,_,h1,h2=>h1.elim
theorem zB0 {K L:Nat} (h:K<=L):∀{t:Tp},Shn K t->Shn L t
 | .app a b,q=>⟨zB0 h q.1,zB0 h q.2⟩
 | .all s a,q=>zB0 (t:=a) h q
 | .con _,q=>Nat.le_trans q h
 | .var _,q=>Nat.le_trans q h
 | .mt _,_=>trivial
 | .no,_=>trivial
theorem Cmp.mgs {own:Nat->ByteArray} (ho:zQM own) {v:V9} {w:Wd} {N:Nat} (h:Cmp own v w) (hv:VOk N v) {t:Tp} (ht:SimT v.vars t) (hs:t.sz<=700):Gs (w.mean t):=by
 have tk:=zAS hv.vn ht;have h1:=h.dl;have h2:=hv.vl;have hg:=zKQ ho (ps:=w.ps) (fun p hp=>by obtain⟨k,e,hk⟩:=h.pv p hp;exact⟨k,e,by omega⟩) ht.no tk.1 (zB0 (by decide) tk.2);exact⟨by rw[h.msz ht];exact hs,hg.1,hg.2⟩
theorem zCF {u t:Tp} (hu:Gs u) (ht:Gs t) (h:(fnT u t).sz<=700):Gs (fnT u t):=⟨h,⟨⟨⟨by decide,_,_,rfl,by decide⟩,hu.2.1⟩,ht.2.1⟩,⟨Nat.le_of_ble_eq_true rfl,hu.2.2⟩,ht.2.2⟩
theorem z2Z {u:Tp} (hu:Gs u) (h:(lsT u).sz<=700):Gs (lsT u):=⟨h,⟨⟨by decide,_,_,rfl,by decide⟩,hu.2.1⟩,Nat.le_of_ble_eq_true rfl,hu.2.2⟩
theorem z3Q {u t:Tp} (hu:Gs u) (ht:Gs t) (h:(prT u t).sz<=700):Gs (prT u t):=⟨h,⟨⟨⟨by decide,_,_,rfl,by decide⟩,hu.2.1⟩,ht.2.1⟩,⟨Nat.le_of_ble_eq_true rfl,hu.2.2⟩,ht.2.2⟩
theorem z5E {own:Nat->ByteArray} (ho:zQM own) {k:Nat} (hk:k<100):Gs (.var (own k)):=⟨by simp[Tp.sz],(ho.wd k hk).1,Nat.le_trans (ho.wd k hk).2 (by decide)⟩
theorem zY0 {own:Nat->ByteArray} (ho:zQM own) {k:Nat} (hk:k<100) {t:Tp} (ht:Gs t) (h:t.sz<=699):Gs (.all (own k) t):=⟨by simp only[Tp.sz];omega,⟨(ho.wd k hk).1,ht.2.1⟩,ht.2.2⟩
theorem zJS (l:List Nm2) (s x:ByteArray) (t:Tp):wP (l++[(s,t)]) x=if s=x then some t else wP l x:=by
 unfold wP;rw[List.reverse_append,List.reverse_singleton,List.singleton_append,List.find?_cons];by_cases e:s=x
 ·rw[if_pos e];simp[e]
 ·rw[if_neg e];simp[e]
theorem Cmp.more {own:Nat->ByteArray} {v:V9} {w:Wd} (h:Cmp own v w) (s:ByteArray) (t:Tp):Cmp own (v.more s t) (w.more [(s,w.mean t)]):=by
 refine⟨h.fs,fun x u hx hu=>?_,?_,h.pl,h.dl,h.pv,h.vars⟩
 ·have hu:wP (v.L++[(s,t)]) x=some u:=hu;show wP (w.env++[(s,w.mean t)]) x=some (w.mean u);rw[zJS] at hu⊢;split at hu
  ·rename_i e;cases hu;rw[if_pos e]
  ·rename_i e;rw[if_neg e];exact h.env x u hx hu
 ·have:=h.el;show (w.env++[(s,w.mean t)]).length<=10+(v.L++[(s,t)]).length;simp;omega
theorem Cmp.mute {own:Nat->ByteArray} {v:V9} {w:Wd} (h:Cmp own v w) (t:Tp):Cmp own (v.more .empty t) w:=by
 refine⟨h.fs,fun x u hx hu=>?_,?_,h.pl,h.dl,h.pv,h.vars⟩
 ·have hu:wP (v.L++[(.empty,t)]) x=some u:=hu;rw[zJS,if_neg (Ne.symm hx)] at hu;exact h.env x u hx hu
 ·have:=h.el;show _<=10+(v.L++[(ByteArray.empty,t)]).length;simp;omega
def V9.poly (v:V9) (s:ByteArray):V9:={L:=v.L,vars:=v.vars++[s],deep:=v.deep+1}
theorem Cmp.mean_all {own:Nat->ByteArray} {v:V9} {w:Wd} (h:Cmp own v w) {s:ByteArray} (hs:s∉v.vars) {t:Tp} (ht:SimT v.vars t) (o:ByteArray):(w.all s o).mean t=w.mean t :=
 zKS ht.no fun x hx=>zJM (fun (e:x=s)=>hs (e ▸ ht.fv x hx)) _ _
theorem Cmp.poly {own:Nat->ByteArray} {v:V9} {w:Wd} {N:Nat} (h:Cmp own v w) (hv:VOk N v) {s:ByteArray} (hs:s∉v.vars):Cmp own (v.poly s) (w.all s (own w.deep)):=by
 refine⟨h.fs,fun x u hx hu=>?_,h.el,?_,?_,fun p hp=>?_,fun x hx=>?_⟩
 ·have hu:wP v.L x=some u:=hu;have hm:(x,u)∈v.L∨∃y,(y,u)∈v.L := .inr (by
   unfold wP at hu;obtain⟨p,h1,h2⟩:=Option.map_eq_some_iff.1 hu;exact⟨p.1,by rw[<-h2];exact List.mem_reverse.1 (List.mem_of_find?_eq_some h1)⟩)
  have hsim:SimT v.vars u:=by
   rcases hm with q|⟨y,q⟩<;>exact (hv.tL _ q).1
  rw[h.mean_all hs hsim];exact h.env x u hx hu
 ·have h1:=h.pl;have h2:(wZ s w.ps).length<=w.ps.length:=List.length_filter_le _ _;show (wZ s w.ps++[(s,Tp.var (own w.deep))]).length<=10+(v.vars++[s]).length;simp;omega
 ·have:=h.dl;show w.deep+1<=10+(v.vars++[s]).length;simp;omega
 ·rcases List.mem_append.1 hp with q|q
  ·obtain⟨k,h1,h2⟩:=h.pv p (List.mem_filter.1 q).1;exact⟨k,h1,Nat.lt_succ_of_lt h2⟩
  ·rw[List.mem_singleton.1 q];exact⟨w.deep,rfl,Nat.lt_succ_self _⟩
 ·show ∃k,look x (wZ s w.ps++[(s,Tp.var (own w.deep))])=_/\k<w.deep+1;rcases List.mem_append.1 hx with q|q
  ·have hne:x≠s:=fun e=>hs (e ▸ q);rw[zJM hne];obtain⟨k,h1,h2⟩:=h.vars x q;exact⟨k,h1,Nat.lt_succ_of_lt h2⟩
  ·rw[List.mem_singleton.1 q,zFO];exact⟨w.deep,rfl,Nat.lt_succ_self _⟩
theorem zT0 {vars:List ByteArray} {a b:Tp} (ha:SimT vars a) (hb:SimT vars b):SimT vars (fnT a b):=⟨⟨by simp[SimT,jX],ha⟩,hb⟩
theorem zUF {vars:List ByteArray} {a:Tp} (ha:SimT vars a):SimT vars (lsT a):=⟨by simp[SimT,jX],ha⟩
theorem z0I {vars:List ByteArray} {a b:Tp} (ha:SimT vars a) (hb:SimT vars b):SimT vars (prT a b):=⟨⟨by simp[SimT,jX],ha⟩,hb⟩
theorem zJN {vars:List ByteArray}:SimT vars (.con yE):=by simp[SimT,jX]
theorem zUX {vars:List ByteArray}:SimT vars (.con yC):=by simp[SimT,jX]
structure Mkd (v:V9) (t:Tp) (c:Cr):Prop where
 ty:∀own,zQM own->∀w,Cmp own v w->TyW own 50000 w c (w.mean t)
 gd:Gd c
theorem zRZ (s:ByteArray):Gd (vr s):=⟨rfl,by simp[Cr.Ok,Cr.kids,Cr.binds,Cr.alts,Cr.isN,Cr.nk],trivial,zA7,trivial⟩
theorem zBK {f n:Int} {s:ByteArray} {t:Tp} (hf:f=2∨f=3∨f=11) (ht:TyS t):Gd (.node f n s t .nil) :=
 ⟨rfl,by rcases hf with rfl|rfl|rfl<;>simp[Cr.Ok,Cr.kids,Cr.binds,Cr.alts,Cr.isN,Cr.nk],trivial,ht,trivial⟩
theorem zDH {f n:Int} {s:ByteArray} {t:Tp} {p:Cr} (hf:f=5∨f=6) (ht:TyS t) (hp:Gd p):Gd (.node f n s t (.kid p .nil)) :=
 ⟨rfl,by rcases hf with rfl|rfl<;>simp[Cr.Ok,Cr.kids,Cr.binds,Cr.alts,Cr.isN,Cr.nk,hp.n,hp.ok]<;>exact hp.n,⟨hp.few,trivial⟩,ht,hp.ty,trivial⟩
theorem zTF {n:Int} {s:ByteArray} {p:Cr} (hp:Gd p):Gd (.node 7 n s .no (.kid p .nil)) :=
 ⟨rfl,by simp[Cr.Ok,Cr.kids,Cr.binds,Cr.alts,Cr.isN,Cr.nk,hp.n,hp.ok];exact hp.n,⟨hp.few,trivial⟩,zA7,hp.ty,trivial⟩
theorem zTJ {f n:Int} {s:ByteArray} {p q:Cr} (hf:f=4∨f=10) (hp:Gd p) (hq:Gd q):Gd (.node f n s .no (.kid p (.kid q .nil))) :=
 ⟨rfl,by rcases hf with rfl|rfl<;>simp[Cr.Ok,Cr.kids,Cr.binds,Cr.alts,Cr.isN,Cr.nk,hp.ok,hq.ok]<;>exact⟨hp.n,hq.n⟩,⟨hp.few,hq.few,trivial⟩,zA7,hp.ty,hq.ty,trivial⟩
theorem z4D {n:Int} {s x:ByteArray} {t:Tp} {p q:Cr} (ht:TyS t) (hp:Gd p) (hq:Gd q):Gd (.node 8 n s .no (.kid p (.bind x t q .nil))) :=
 ⟨rfl,by simp[Cr.Ok,Cr.kids,Cr.binds,Cr.alts,Cr.isN,Cr.nk,hp.ok,hq.ok];exact⟨hp.n,hq.n⟩,⟨hp.few,hq.few,trivial⟩,zA7,hp.ty,ht,hq.ty,trivial⟩
theorem zPY {n m:Int} {s x:ByteArray} {f:Int} {vs:List ByteArray} {t:Tp} {p q:Cr} (ht:TyS t) (hp:Gd p) (hq:Gd q) (hv:vs.Nodup/\vs.length<=10000):Gd (.node 9 n s t (.kid p (.alt f m x vs q .nil))) :=
 ⟨rfl,by simp[Cr.Ok,Cr.kids,Cr.binds,Cr.alts,Cr.isN,Cr.nk,hp.ok,hq.ok,hv.1];exact⟨hp.n,hq.n⟩,⟨hp.few,hv.2,hq.few,trivial⟩,ht,hp.ty,hq.ty,trivial⟩
theorem zKA {n m m':Int} {s x x':ByteArray} {f f':Int} {vs vs':List ByteArray} {t:Tp} {p q r:Cr} (ht:TyS t) (hp:Gd p) (hq:Gd q) (hr:Gd r) (hv:vs.Nodup/\vs.length<=10000) (hv':vs'.Nodup/\vs'.length<=10000):Gd (.node 9 n s t (.kid p (.alt f m x vs q (.alt f' m' x' vs' r .nil)))) :=
 ⟨rfl,by simp[Cr.Ok,Cr.kids,Cr.binds,Cr.alts,Cr.isN,Cr.nk,hp.ok,hq.ok,hr.ok,hv.1,hv'.1];exact⟨hp.n,hq.n,hr.n⟩,⟨hp.few,hv.2,hq.few,hv'.2,hr.few,trivial⟩,ht,hp.ty,hq.ty,hr.ty,trivial⟩
section
variable {N:Nat} {v:V9} (hv:VOk N v) (hN:N<=10000)
include hv hN
theorem z4W {i:Nat} (hi:i<v.L.length) (hne:v.L[i].1≠.empty) (hh:hid v.L i v.L[i].1=true):Mkd v v.L[i].2 (vr v.L[i].1):=by
 refine⟨fun own ho w hw=>?_,zRZ _⟩;have h1:=hv.tL _ (List.getElem_mem hi);have h2:=zGP (s:=v.L[i].1) hi rfl fun j h3 hj e=>by
  unfold hid at hh;refine of_decide_eq_true hh (List.mem_map.2 ⟨v.L[j],?_,e⟩);exact List.mem_of_getElem? (i:=j-(i+1)) (by rw[List.getElem?_drop,show i+1+(j-(i+1))=j by omega];exact List.getElem?_eq_getElem hj)
 exact .var (hw.ok hv hN) (hw.env _ _ hne h2) (hw.mgs ho hv h1.1 (by omega))
theorem z4C (n:Int):Mkd v (.con yE) (zYF n):=⟨fun own ho w hw => .int (hw.ok hv hN),zBK (.inr (.inl rfl)) zA7⟩
theorem zW9:Mkd v (.con yC) (zEN zBR):=⟨fun own ho w hw=>TyW.con (hw.ok hv hN) (by rw[hw.fs];exact zTY),zBK (.inl rfl) zA7⟩
theorem z2P:Mkd v (.con yC) (zEN zEV):=⟨fun own ho w hw=>TyW.con (hw.ok hv hN) (by rw[hw.fs];exact zT7),zBK (.inl rfl) zA7⟩
theorem z0J {t:Tp} (hs:SimT v.vars t) (ht:t.sz<=500):Mkd v t (.node 11 0 .empty t .nil):=⟨fun own ho w hw => .fail (hw.ok hv hN) ht (hw.mgs ho hv hs (by omega)),zBK (.inr (.inr rfl)) (yN ht)⟩
theorem zRQ {s:ByteArray} {u t:Tp} {p:Cr} (hus:SimT v.vars u) (hu:u.sz<=300) (hts:SimT v.vars t) (ht:t.sz<=300) (h:Mkd (v.more s u) t p):Mkd v (fnT u t) (zKF s u p):=by
 refine⟨fun own ho w hw => .lam (hw.ok hv hN) (by omega) (h.ty own ho _ (hw.more s u)) ?_,zDH (.inl rfl) (yN (by omega)) h.gd⟩;have h1:=hw.msz hus;have h2:=hw.msz hts;exact zCF (u:=w.mean u) (t:=w.mean t) (hw.mgs ho hv hus (by omega)) (hw.mgs ho hv hts (by omega)) (by simp only[Tp.sz];omega)
theorem zDT {u t:Tp} {f a:Cr} (hu:SimT v.vars u) (hs:u.sz<=500) (h1:Mkd v (fnT u t) f) (h2:Mkd v u a):Mkd v t (zBJ f a) :=
 ⟨fun own ho w hw => .app (hw.ok hv hN) (h1.ty own ho w hw) (h2.ty own ho w hw) (jK _) (by show (w.mean u).sz<=_;rw[hw.msz hu];omega),zTJ (.inl rfl) h1.gd h2.gd⟩
theorem z5V {s:ByteArray} {u t:Tp} {b p:Cr} (hu:SimT v.vars u) (hs:u.sz<=500) (h1:Mkd (v.more s u) u b) (h2:Mkd (v.more s u) t p):Mkd v t (.node 8 0 .empty .no (.kid p (.bind s u b .nil))) :=
 ⟨fun own ho w hw => .bind (hw.ok hv hN) hs (h1.ty own ho _ (hw.more s u)) (jK _) (by show (w.mean u).sz<=_;rw[hw.msz hu];omega) (h2.ty own ho _ (hw.more s u)),z4D (yN hs) h2.gd h1.gd⟩
theorem z7U {u:Tp} (hu:SimT v.vars u) (hs:u.sz<=400):Mkd v (lsT u) (xR u (zEN sN)):=by
 refine⟨fun own ho w hw=>?_,zDH (.inr rfl) (yN (by omega)) (zBK (.inl rfl) zA7)⟩;have h:=TyW.con (own:=own) (n:=0) (s:=sN) (t0 := .no) (hw.ok hv hN) (by rw[hw.fs];exact zT5);exact TyW.tapp (n:=0) (s := .empty) (a:=lsT (.var sa)) (x:=sa) (hw.ok hv hN) (by omega) (by rw[hw.msz hu];omega) (by decide) h (z2Z (u:=w.mean u) (hw.mgs ho hv hu (by omega)) (by have:=hw.msz hu;simp only[Tp.sz];omega))
theorem z8C {u:Tp} (hu:SimT v.vars u) (hs:u.sz<=220):Mkd v (fnT u (fnT (lsT u) (lsT u))) (xR u (zEN sC)):=by
 refine⟨fun own ho w hw=>?_,zDH (.inr rfl) (yN (by omega)) (zBK (.inl rfl) zA7)⟩;have h:=TyW.con (own:=own) (n:=0) (s:=sC) (t0 := .no) (hw.ok hv hN) (by rw[hw.fs];exact zUJ);exact TyW.tapp (n:=0) (s := .empty) (a:=fnT (.var sa) (fnT (lsT (.var sa)) (lsT (.var sa)))) (x:=sa) (hw.ok hv hN) (by omega) (by rw[hw.msz hu];omega) (by decide) h (by
  have hz:=hw.msz hu;have g:=hw.mgs ho hv hu (by omega);have gl:=z2Z (u:=w.mean u) g (by simp only[Tp.sz];omega);exact zCF (u:=w.mean u) (t:=fnT (lsT (w.mean u)) (lsT (w.mean u))) g (zCF (u:=lsT (w.mean u)) (t:=lsT (w.mean u)) gl gl (by simp only[Tp.sz];omega)) (by simp only[Tp.sz];omega))
theorem z7E {u x:Tp} (hu:SimT v.vars u) (hs:u.sz+x.sz<=240) (hx:SimT v.vars x):Mkd v (fnT u (fnT x (prT u x))) (xR x (xR u (zEN sP))):=by
 refine⟨fun own ho w hw=>?_,zDH (.inr rfl) (yN (by omega)) (zDH (.inr rfl) (yN (by omega)) (zBK (.inl rfl) zA7))⟩;have h:=TyW.con (own:=own) (n:=0) (s:=sP) (t0 := .no) (hw.ok hv hN) (by rw[hw.fs];exact zUO);have nb:∀z∈fv (w.mean u),z≠sb9:=fun z hz=>by obtain⟨k,e,_⟩:=hw.mfv hu z hz;rw[e];exact ho.nb k
 have ek:kept sb9 (fv (fnT (.var sa) (fnT (.var sb9) (prT (.var sa) (.var sb9))))) [(sa,w.mean u)]=[(sa,w.mean u)]:=rfl;have ec:memb sb9 (caught [(sa,w.mean u)])=false:=qA fun hm=>by
  obtain⟨p,hp,hz⟩:=List.mem_flatMap.1 hm;rw[List.mem_singleton.1 hp] at hz;exact nb _ hz rfl
 have e1:sub (.all sb9 (fnT (.var sa) (fnT (.var sb9) (prT (.var sa) (.var sb9))))) [(sa,w.mean u)] = .all sb9 (fnT (w.mean u) (fnT (.var sb9) (prT (w.mean u) (.var sb9)))):=by
  rw[sub,ek,ec,if_neg (by decide)]
  rfl
 have h1:=TyW.tapp (n:=0) (s := .empty) (t:=u) (a := .all sb9 (fnT (.var sa) (fnT (.var sb9) (prT (.var sa) (.var sb9))))) (x:=sa) (hw.ok hv hN) (by omega) (by rw[hw.msz hu];omega) (by decide) h (by
  rw[e1];have hz:=hw.msz hu;have g:=hw.mgs ho hv hu (by omega);have gb:Gs (.var sb9):=⟨by decide,wrd_ab.2,Nat.le_of_ble_eq_true rfl⟩
  have gi:=zCF g (zCF gb (z3Q g gb (by simp only[Tp.sz];omega)) (by simp only[Tp.sz];omega)) (by simp only[Tp.sz];omega);exact⟨by simp only[Tp.sz];omega,⟨wrd_ab.2,gi.2.1⟩,gi.2.2⟩)
 rw[e1] at h1;have e2:sub (w.mean u) [(sb9,w.mean x)]=w.mean u:=zDF (hw.mno hu) fun z hz=>by
  show (if sb9=z then _ else _)=_;rw[if_neg (Ne.symm (nb z hz))];rfl
 have e3:sub (fnT (w.mean u) (fnT (.var sb9) (prT (w.mean u) (.var sb9)))) [(sb9,w.mean x)]=fnT (w.mean u) (fnT (w.mean x) (prT (w.mean u) (w.mean x))):=by
  show fnT (sub (w.mean u) [(sb9,w.mean x)]) (fnT (sub (.var sb9) [(sb9,w.mean x)]) (prT (sub (w.mean u) [(sb9,w.mean x)]) (sub (.var sb9) [(sb9,w.mean x)])))=_;rw[e2];rfl
 have h2:=TyW.tapp (n:=0) (s := .empty) (t:=x) (hw.ok hv hN) (by omega) (by rw[hw.msz hx];omega) (by have:=hw.msz hu;simp only[Tp.sz];omega) h1 (by
  rw[e3];have hz:=hw.msz hu;have hz2:=hw.msz hx;have g:=hw.mgs ho hv hu (by omega);have g2:=hw.mgs ho hv hx (by omega);exact zCF g (zCF g2 (z3Q g g2 (by simp only[Tp.sz];omega)) (by simp only[Tp.sz];omega)) (by simp only[Tp.sz];omega))
 rw[e3] at h2;exact h2
theorem zUL {s r:ByteArray} {p q:Cr} (hr:zC8 s=some (.con r)) (h1:Mkd v (.con yE) p) (h2:Mkd v (.con yE) q):Mkd v (.con r) (.node 10 0 s .no (.kid p (.kid q .nil))) :=
 ⟨fun own ho w hw => .prim (u := .con yE) (v := .con yE) (hw.ok hv hN) (h1.ty own ho w hw) (h2.ty own ho w hw) ⟨jK _,by decide⟩ ⟨jK _,by decide⟩ hr,zTJ (.inr rfl) h1.gd h2.gd⟩
theorem z2H {s sp:ByteArray} {u t:Tp} {p a:Cr} (hs:s∉v.vars) (hu:SimT v.vars u) (hus:u.sz<=300) (ht:SimT v.vars t) (hts:t.sz<=190) (h1:Mkd ((v.poly s).more sp (.var s)) t p) (h2:Mkd v u a):Mkd v t (zBJ (xR u (zB4 s (zKF sp (.var s) p))) a):=by
 refine⟨fun own ho w hw=>?_,zTJ (.inl rfl) (zDH (.inr rfl) (yN (by omega)) (zTF (zDH (.inl rfl) (yN (Nat.le_of_ble_eq_true rfl)) h1.gd))) h2.gd⟩;have hok:=hw.ok hv hN;have hp:=hw.poly hv hs;have hdl:w.deep<100:=by have:=hw.dl;have:=hv.vl;omega
 have hvp:VOk N v:=hv;have hokp:WOk 50000 (w.all s (own w.deep)):=by
  have h1:(w.all s (own w.deep)).env.length<=10+v.L.length:=hp.el;have:=hp.pl;have:=hp.dl;have:=hv.ll;have:=hv.vl;have e:(v.poly s).vars.length=v.vars.length+1:=by simp[V9.poly]
  exact⟨by rw[hp.fs];decide,by rw[hp.fs];exact zH9,by omega,by omega,hp.pv',by omega⟩
 have em:(w.all s (own w.deep)).mean (.var s) = .var (own w.deep):=by
  show (look s (wZ s w.ps++[(s,Tp.var (own w.deep))])).getD (.var s)=_;rw[zFO];rfl
 have e1:((w.all s (own w.deep)).more [(sp,(w.all s (own w.deep)).mean (.var s))]).mean t=w.mean t:=hw.mean_all hs ht _;have hl:=TyW.lam (n:=0) (s:=sp) (t := .var s) hokp (Nat.le_of_ble_eq_true rfl) (h1.ty own ho _ (hp.more sp (.var s))) (by rw[e1,em];have:=hw.msz ht;exact zCF (z5E ho hdl) (hw.mgs ho hv ht (by omega)) (by simp only[Tp.sz];omega));rw[e1,em] at hl;have h3:=TyW.tlam (n:=0) (s:=s) (t := .no) hok hl (zY0 ho hdl hl.gs (by have:=hw.msz ht;simp only[Tp.sz];omega));have e2:sub (w.mean t) [(own w.deep,w.mean u)]=w.mean t:=zDF (hw.mno ht) fun z hz=>by
  obtain⟨k,e,hk⟩:=hw.mfv ht z hz;show (if own w.deep=z then _ else _)=_;rw[if_neg fun q=>by rw[e] at q;have:=ho.inj _ _ q;omega];rfl
 have e3:sub (fnT (.var (own w.deep)) (w.mean t)) [(own w.deep,w.mean u)]=fnT (w.mean u) (w.mean t):=by
  show fnT (sub (.var (own w.deep)) [(own w.deep,w.mean u)]) (sub (w.mean t) [(own w.deep,w.mean u)])=_;rw[e2];show fnT ((if own w.deep=own w.deep then _ else _:Option Tp).getD _) _=_;rw[if_pos rfl];rfl
 have h4:=TyW.tapp (n:=0) (s := .empty) (t:=u) hok (by omega) (by rw[hw.msz hu];omega) (by have:=hw.msz ht;simp only[Tp.sz];omega) h3 (by rw[e3];have:=hw.msz ht;have:=hw.msz hu;exact zCF (hw.mgs ho hv hu (by omega)) (hw.mgs ho hv ht (by omega)) (by simp only[Tp.sz];omega));rw[e3] at h4;exact .app hok h4 (h2.ty own ho w hw) (jK _) (by rw[hw.msz hu];omega)
omit hv hN in
theorem Mkd.mute {u t:Tp} {c:Cr} (h:Mkd (v.more .empty u) t c):Mkd v t c:=⟨fun own ho w hw=>h.ty own ho w (hw.mute u),h.gd⟩
omit hv hN in
theorem zB2 {w:Wd} (hw:w.fs=yS) {s n:ByteArray} {f:Fd} {l:List Tp} {vs xs:List ByteArray} {t:Tp} {m:Int} {q:Cr} (hf:wO yS s=some f) (hs:xQ f=some (l,n,vs)) (h1:(jC t).form=3/\(jC t).nam=n/\(zS t).length=vs.length) (h2:xs.length=l.length/\xs.Nodup):zAL w t ((1,m,s),xs,q)=some (w.more (yM xs l (bys vs t))):=by
 unfold zAL;rw[if_neg (show ¬(1:Int)=3 by decide),if_neg (show ¬(1:Int)=2 by decide),if_pos rfl,hw];simp only[hf,hs];rw[if_pos ⟨h1.1,h1.2.1,h1.2.2,h2.1,h2.2⟩]
omit hv hN in
theorem zCD (w:Wd):w.more []=w:=by cases w;simp[Wd.more]
theorem zYT {t:Tp} {p q r:Cr} (ht:SimT v.vars t) (hs:t.sz<=500) (h1:Mkd v (.con yC) p) (h2:Mkd v t q) (h3:Mkd v t r):Mkd v t (.node 9 0 .empty t (.kid p (.alt 1 0 zEV [] q (.alt 1 0 zBR [] r .nil)))):=by
 refine⟨fun own ho w hw=>?_,zKA (yN hs) h1.gd h2.gd h3.gd ⟨List.nodup_nil,by decide⟩ ⟨List.nodup_nil,by decide⟩⟩;refine .case (u := .con yC) (fun _=>w) (fun _=>w.mean t) (hw.ok hv hN) hs (by decide) rfl (Nat.le_of_ble_eq_true rfl) (h1.ty own ho w hw) (fun a ha=>?_) (fun a ha=>?_) (fun a ha=>⟨jK _,by rw[hw.msz ht];omega⟩) (hw.mgs ho hv ht (by omega))
 ·simp only[Cr.alts,List.mem_cons,List.not_mem_nil,or_false] at ha;rcases ha with rfl|rfl
  ·refine⟨?_,Nat.le_of_ble_eq_true rfl⟩;rw[zB2 hw.fs zT7 z1Q ⟨rfl,rfl,rfl⟩ ⟨rfl,List.nodup_nil⟩];exact congrArg some (zCD w)
  ·refine⟨?_,Nat.le_of_ble_eq_true rfl⟩;rw[zB2 hw.fs zTY z1O ⟨rfl,rfl,rfl⟩ ⟨rfl,List.nodup_nil⟩];exact congrArg some (zCD w)
 ·simp only[Cr.alts,List.mem_cons,List.not_mem_nil,or_false] at ha;rcases ha with rfl|rfl
  ·exact h2.ty own ho w hw
  ·exact h3.ty own ho w hw
theorem z0D {t:Tp} {n:Int} {p q r:Cr} (ht:SimT v.vars t) (hs:t.sz<=500) (h1:Mkd v (.con yE) p) (h2:Mkd v t q) (h3:Mkd v t r):Mkd v t (.node 9 0 .empty t (.kid p (.alt 2 n .empty [] q (.alt 3 0 .empty [] r .nil)))):=by
 refine⟨fun own ho w hw=>?_,zKA (yN hs) h1.gd h2.gd h3.gd ⟨List.nodup_nil,by decide⟩ ⟨List.nodup_nil,by decide⟩⟩;refine .case (u := .con yE) (fun _=>w) (fun _=>w.mean t) (hw.ok hv hN) hs (by decide) rfl (Nat.le_of_ble_eq_true rfl) (h1.ty own ho w hw) (fun a ha=>?_) (fun a ha=>?_) (fun a ha=>⟨jK _,by rw[hw.msz ht];omega⟩) (hw.mgs ho hv ht (by omega))
 ·simp only[Cr.alts,List.mem_cons,List.not_mem_nil,or_false] at ha;rcases ha with rfl|rfl
  ·refine⟨?_,Nat.le_of_ble_eq_true rfl⟩;unfold zAL;rw[if_neg (by decide:¬(2:Int)=3),if_pos rfl,if_pos (jK _)]
  ·refine⟨?_,Nat.le_of_ble_eq_true rfl⟩;unfold zAL;rw[if_pos rfl]
 ·simp only[Cr.alts,List.mem_cons,List.not_mem_nil,or_false] at ha;rcases ha with rfl|rfl
  ·exact h2.ty own ho w hw
  ·exact h3.ty own ho w hw
omit hv hN in
theorem Cmp.two {own:Nat->ByteArray} {w:Wd} (h:Cmp own v w) (x y:ByteArray) (t u:Tp):Cmp own ((v.more x t).more y u) (w.more [(x,w.mean t),(y,w.mean u)]):=by
 have h2:=(h.more x t).more y u;have e:(w.more [(x,w.mean t)]).more [(y,(w.more [(x,w.mean t)]).mean u)]=w.more [(x,w.mean t),(y,w.mean u)]:=by
  show ({fs:=w.fs,env:=(w.env++[(x,w.mean t)])++[(y,w.mean u)],ps:=w.ps,deep:=w.deep}:Wd)={fs:=w.fs,env:=w.env++[(x,w.mean t),(y,w.mean u)],ps:=w.ps,deep:=w.deep};rw[List.append_assoc];rfl
 rw[e] at h2;exact h2
omit hv hN in
theorem zTV {w:Wd} (hw:w.fs=yS) (x y:ByteArray) (hxy:x≠y) (u:Tp) (m:Int) (q:Cr):zAL w (lsT u) ((1,m,sC),[x,y],q)=some (w.more [(x,u),(y,lsT u)]):=by
 rw[zB2 hw zUJ z1V ⟨rfl,rfl,rfl⟩ ⟨rfl,by simp[hxy]⟩]
 rfl
omit hv hN in
theorem z05 {w:Wd} (hw:w.fs=yS) (u:Tp) (m:Int) (q:Cr):zAL w (lsT u) ((1,m,sN),[],q)=some w:=by
 rw[zB2 hw zT5 z1E ⟨rfl,rfl,rfl⟩ ⟨rfl,List.nodup_nil⟩];exact congrArg some (zCD w)
omit hv hN in
theorem z0K {w:Wd} (hw:w.fs=yS) (x y:ByteArray) (hxy:x≠y) (u z:Tp) (m:Int) (q:Cr):zAL w (prT u z) ((1,m,sP),[x,y],q)=some (w.more [(x,u),(y,z)]):=by
 rw[zB2 hw zUO z1Y ⟨rfl,rfl,rfl⟩ ⟨rfl,by simp[hxy]⟩]
 rfl
theorem zUS {t u:Tp} {x y:ByteArray} {p q:Cr} (hxy:x≠y) (ht:SimT v.vars t) (hs:t.sz<=500) (hu:SimT v.vars u) (hus:u.sz<=400) (h1:Mkd v (lsT u) p) (h2:Mkd ((v.more x u).more y (lsT u)) t q):Mkd v t (.node 9 0 .empty t (.kid p (.alt 1 0 sC [x,y] q .nil))):=by
 refine⟨fun own ho w hw=>?_,zPY (yN hs) h1.gd h2.gd ⟨by simp[hxy],Nat.le_of_ble_eq_true rfl⟩⟩;refine .case (u:=lsT (w.mean u)) (fun _=>w.more [(x,w.mean u),(y,lsT (w.mean u))]) (fun _=>w.mean t) (hw.ok hv hN) hs (by have:=hw.msz hu;simp only[Tp.sz];omega) rfl (Nat.le_of_ble_eq_true rfl) (h1.ty own ho w hw) (fun a ha=>?_) (fun a ha=>?_) (fun a ha=>⟨jK _,by rw[hw.msz ht];omega⟩) (hw.mgs ho hv ht (by omega))
 ·simp only[Cr.alts,List.mem_cons,List.not_mem_nil,or_false] at ha;rcases ha with rfl;exact⟨zTV hw.fs x y hxy _ _ _,Nat.le_of_ble_eq_true rfl⟩
 ·simp only[Cr.alts,List.mem_cons,List.not_mem_nil,or_false] at ha;rcases ha with rfl;exact h2.ty own ho _ (hw.two x y u (lsT u))
theorem zV4 {t u:Tp} {x y:ByteArray} {p q r:Cr} (hxy:x≠y) (ht:SimT v.vars t) (hs:t.sz<=500) (hu:SimT v.vars u) (hus:u.sz<=400) (h1:Mkd v (lsT u) p) (h2:Mkd ((v.more x u).more y (lsT u)) t q) (h3:Mkd v t r):Mkd v t (.node 9 0 .empty t (.kid p (.alt 1 0 sC [x,y] q (.alt 1 0 sN [] r .nil)))):=by
 refine⟨fun own ho w hw=>?_,zKA (yN hs) h1.gd h2.gd h3.gd ⟨by simp[hxy],Nat.le_of_ble_eq_true rfl⟩ ⟨List.nodup_nil,by decide⟩⟩;refine .case (u:=lsT (w.mean u)) (fun a=>if a.2.1=[] then w else w.more [(x,w.mean u),(y,lsT (w.mean u))]) (fun _=>w.mean t) (hw.ok hv hN) hs (by have:=hw.msz hu;simp only[Tp.sz];omega) rfl (Nat.le_of_ble_eq_true rfl) (h1.ty own ho w hw) (fun a ha=>?_) (fun a ha=>?_) (fun a ha=>⟨jK _,by rw[hw.msz ht];omega⟩) (hw.mgs ho hv ht (by omega))
 ·simp only[Cr.alts,List.mem_cons,List.not_mem_nil,or_false] at ha;rcases ha with rfl|rfl
  ·exact⟨zTV hw.fs x y hxy _ _ _,Nat.le_of_ble_eq_true rfl⟩
  ·exact⟨z05 hw.fs _ _ _,Nat.le_of_ble_eq_true rfl⟩
 ·simp only[Cr.alts,List.mem_cons,List.not_mem_nil,or_false] at ha;rcases ha with rfl|rfl
  ·exact h2.ty own ho _ (hw.two x y u (lsT u))
  ·exact h3.ty own ho w hw
theorem zY2 {t u z:Tp} {x y:ByteArray} {p q:Cr} (hxy:x≠y) (ht:SimT v.vars t) (hs:t.sz<=500) (hu:SimT v.vars u) (hus:u.sz<=200) (hz:SimT v.vars z) (hzs:z.sz<=200) (h1:Mkd v (prT u z) p) (h2:Mkd ((v.more x u).more y z) t q):Mkd v t (.node 9 0 .empty t (.kid p (.alt 1 0 sP [x,y] q .nil))):=by
 refine⟨fun own ho w hw=>?_,zPY (yN hs) h1.gd h2.gd ⟨by simp[hxy],Nat.le_of_ble_eq_true rfl⟩⟩;refine .case (u:=prT (w.mean u) (w.mean z)) (fun _=>w.more [(x,w.mean u),(y,w.mean z)]) (fun _=>w.mean t) (hw.ok hv hN) hs (by have:=hw.msz hu;have:=hw.msz hz;simp only[Tp.sz];omega) rfl (Nat.le_of_ble_eq_true rfl) (h1.ty own ho w hw) (fun a ha=>?_) (fun a ha=>?_) (fun a ha=>⟨jK _,by rw[hw.msz ht];omega⟩) (hw.mgs ho hv ht (by omega))
 ·simp only[Cr.alts,List.mem_cons,List.not_mem_nil,or_false] at ha;rcases ha with rfl;exact⟨z0K hw.fs x y hxy _ _ _ _,Nat.le_of_ble_eq_true rfl⟩
 ·simp only[Cr.alts,List.mem_cons,List.not_mem_nil,or_false] at ha;rcases ha with rfl;exact h2.ty own ho _ (hw.two x y u z)
end
noncomputable def nx (l:List Int) (m:Nat):Nat:=by
 classical exact if h:∃r:Nat,r<m/\∀(n:Int) b,yX b l n m r (l.drop 1) then h.choose else 0
theorem zC7 {l:List Int} (hl:Nums l) {m:Nat} (hm:0<m/\m<1000):nx l m<m/\∀(n:Int) b,yX b l n m (nx l m) (l.drop 1):=by
 have h:∃r:Nat,r<m/\∀(n:Int) b,yX b l n m r (l.drop 1):=zKB l hl m hm;unfold nx;rw[dif_pos h];exact h.choose_spec
noncomputable def okP (v:V9) (t:Tp) (k:Nat):Bool:=match v.L[k]? with
 | some p=>decide (p.1≠.empty) && smb p.2 t [] [] && hid v.L k p.1
 | none=>false
noncomputable def qE (v:V9) (t:Tp):Nat->List Int->Option Nat×List Int
 | 0,l=>(none,l)
 | k+1,l=>if okP v t k=true then (if 0<nx l 3 then (some k,l.drop 1) else qE v t k (l.drop 1)) else qE v t k l
theorem zHF {v:V9} {t:Tp}:∀(k:Nat) (l:List Int),Nums l->Nums (qE v t k l).2/\∀i,(qE v t k l).1=some i->i<k/\okP v t i=true
 | 0,l,h=>⟨h,fun i e=>by cases e⟩
 | k+1,l,h=>by
  unfold qE;split
  ·rename_i ho;split
   ·exact⟨h.drop,fun i e=>by cases e;exact⟨Nat.lt_succ_self _,ho⟩⟩
   ·have:=zHF (v:=v) (t:=t) k (l.drop 1) h.drop;exact⟨this.1,fun i e=>⟨Nat.lt_succ_of_lt (this.2 i e).1,(this.2 i e).2⟩⟩
  ·have:=zHF (v:=v) (t:=t) k l h;exact⟨this.1,fun i e=>⟨Nat.lt_succ_of_lt (this.2 i e).1,(this.2 i e).2⟩⟩
abbrev zEX (b:Nat) (l:List Int) (n:Int) (v:V9) (t:Tp) (c:Cr) (l':List Int):Prop:=CallsG Tryz.prog (fnv 88) (mkH b l n) [pt b 0,eV v,eTy t] [] fun r o h=>r=eC c/\o=0/\h=mkH b l' n
def LfT (b:Nat) (l:List Int) (n:Int) (v:V9) (t:Tp) (c:Cr) (l':List Int):Prop :=
 Wsem Tryz.prog (qN (qN (bodyC Tryz.f88))) (mkC {vs:=[(0,.v (pt b 0)),(4,.box 0 (eV v)),(5,.box 0 (eTy t)),(6,.box 0 eZ)],hp:=mkH b l n})
   (fun c2=>wH tt Tryz.f88.results.toList (fun r o h=>r=eC c/\o=0/\h=mkH b l' n) (den c2)) (fun _ _=>False) (fun c2=>wH tt Tryz.f88.results.toList (fun r o h=>r=eC c/\o=0/\h=mkH b l' n) (den c2))
theorem zL2 {b:Nat} {l:List Int} {n:Int} {v:V9} {t:Tp} {c:Cr} {l':List Int} {N:Nat} (hv:VOk N v) (hN:N<=10000) (ht:SimT v.vars t) (hts:t.sz<=300) (hl:Nums l)
  (hsome:∀i (hi:i<v.L.length),(qE v t v.L.length l).1=some i->c=vr v.L[i].1/\l'=(qE v t v.L.length l).2) (hnone:(qE v t v.L.length l).1=none->LfT b (qE v t v.L.length l).2 n v t c l'):zEX b l n v t c l':=by
 have hln:=zUB v.L;have hll:=hv.ll;have tkt:=zAS hv.vn ht;refine zI (first:=[]) (cap:=[]) ttok mixed Tryz.func88 rfl (by rfl) rfl (Nat.le_of_ble_eq_true rfl) (by kernel_rfl) ?_;refine Wsem.seq ttok mixed ?_;refine Wsem.seq ttok mixed ?_;refine⟨{s:Nat×List Int // s.1<=v.L.length/\Nums s.2/\qE v t s.1 s.2=qE v t v.L.length l},fun s=>{vs:=[(0,.v (pt b 0)),(4,.box 0 (eV v)),(5,.box 0 (eTy t)),(6,.box 0 eZ),(7,sv ((s.1.1:Int)-1))],hp:=mkH b s.1.2 n},fun s=>s.1.1,⟨(v.L.length,l),Nat.le_refl _,hl,rfl⟩,⟨⟨rfl,rfl,rfl,rfl,?_,trivial⟩,trivial,rfl⟩,?_⟩
 ·exact svc (by rw[hln,wrap_in (by unfold InR;omega)])
 rintro⟨⟨k,l1⟩,hk,hl1,hp⟩
 dsimp only at hk hl1 hp
 refine⟨fun h=>?_,fun h=>?_⟩
 ·have h:0<k:=by have h:=of_decide_eq_true h;simp only at h;omega
  obtain⟨k,rfl⟩:∃j,k=j+1:=⟨k-1,by omega⟩
  have hk':k<v.L.length:=hk;have ei:(((k+1:Nat):Int)-1)=(k:Nat):=by omega
  have hat:(yZ v.L)[((((k+1:Nat):Int)-1)).toNat]? = some (eNa v.L[k]):=by rw[ei];exact zUM hk'
  have hge:(0:Int)<=(((k+1:Nat):Int)-1):=by omega
  have hvk:=hv.tL _ (List.getElem_mem hk');have tkk:=zAS hv.vn hvk.1;have hsame:=zG2 (K:=10) tkk.1 tkt.1 tkk.2 tkt.2 (by omega) (by omega) (by decide);have hhid:zC Tryz.prog 136 [.sl (yZ v.L),.lit (.int .i64 (((k+1:Nat):Int)-1))] (.sb (hid v.L k v.L[k].1)):=by rw[ei];exact zZI hk' (by omega)
  have okE:okP v t k=(decide (v.L[k].1≠.empty) && smb v.L[k].2 t [] [] && hid v.L k v.L[k].1):=by
   unfold okP;rw[List.getElem?_eq_getElem hk']
  obtain⟨hr,hnx⟩:=zC7 hl1 (m:=3) (by decide);have no:okP v t k=false->qE v t k l1=qE v t v.L.length l:=fun e=>by
   rw[<-hp];unfold qE;rw[if_neg (by rw[e];decide)];cases k<;>rfl
  have hw7:sv (IntKind.i64.wrap ((((k+1:Nat):Int)-1)-1))=sv ((k:Int)-1):=svc (by rw[ei,wrap_in (by unfold InR;omega)]);refine⟨_,hge,hat,rfl,?_⟩;refine⟨fun h1=>?_,fun h1=>?_⟩
  ·have q1:v.L[k].1≠.empty:=by
    have h1:=h1;simp only[Bool.not_eq_true',decide_eq_false_iff_not] at h1;exact h1
   refine⟨_,hge,hat,rfl,?_⟩;refine .inl ⟨_,hsame,?_⟩;refine⟨fun h2=>?_,fun h2=>?_⟩
   ·have h2:smb v.L[k].2 t [] []=true:=h2;refine .inl ⟨_,hhid,?_⟩;refine⟨fun h3=>?_,fun h3=>?_⟩
    ·have h3:hid v.L k v.L[k].1=true:=h3;have hok:okP v t k=true:=by rw[okE,h2,h3,decide_eq_true q1];rfl
     refine .inr (.inr (.inr ⟨[0],mkH b l1 n,mkH b (l1.drop 1) n,_,rfl,zD,rfl,hnx n b,?_⟩));refine⟨by kernel_rfl,?_⟩;refine⟨fun h4=>?_,fun h4=>?_⟩
     ·have h4:0<nx l1 3:=by have h:=of_decide_eq_true h4;omega
      have e:qE v t v.L.length l=(some k,l1.drop 1):=by rw[<-hp];unfold qE;rw[if_pos hok,if_pos h4]
      obtain⟨h5,h6⟩:=hsome k hk' (by rw[e]);rw[e] at h6;subst h5;subst h6;refine⟨_,hge,hat,rfl,?_⟩;exact⟨rfl,rfl,rfl⟩
     ·have h4:¬0<nx l1 3:=by have h:=of_decide_eq_false h4;omega
      have e:qE v t k (l1.drop 1)=qE v t v.L.length l:=by rw[<-hp,qE,if_pos hok,if_neg h4]
      exact⟨⟨(k,l1.drop 1),by show k<=_;omega,hl1.drop,e⟩,Nat.lt_succ_self k,⟨rfl,rfl,rfl,rfl,hw7,trivial⟩,trivial,rfl⟩
    ·have h3:hid v.L k v.L[k].1=false:=h3;refine⟨by kernel_rfl,?_⟩;exact⟨⟨(k,l1),by show k<=_;omega,hl1,no (by rw[okE,h3,Bool.and_false])⟩,Nat.lt_succ_self k,⟨rfl,rfl,rfl,rfl,hw7,trivial⟩,trivial,rfl⟩
   ·have h2:smb v.L[k].2 t [] []=false:=h2;refine⟨by kernel_rfl,?_⟩;exact⟨⟨(k,l1),by show k<=_;omega,hl1,no (by rw[okE,h2,Bool.and_false,Bool.false_and])⟩,Nat.lt_succ_self k,⟨rfl,rfl,rfl,rfl,hw7,trivial⟩,trivial,rfl⟩
  ·have q1:v.L[k].1 = .empty:=by
    have h1:=h1;simp only[Bool.not_true,Bool.not_eq_false',decide_eq_true_eq] at h1;exact h1
   refine⟨by kernel_rfl,?_⟩;exact⟨⟨(k,l1),by show k<=_;omega,hl1,no (by rw[okE,q1];rfl)⟩,Nat.lt_succ_self k,⟨rfl,rfl,rfl,rfl,hw7,trivial⟩,trivial,rfl⟩
 ·have h:k=0:=by have h:=of_decide_eq_false h;simp only at h;omega
  subst h;have e:qE v t v.L.length l=(none,l1):=hp.symm;refine Wsem.cut _ ?_ (by rw[e] at hnone;exact hnone rfl);exact⟨⟨rfl,rfl,rfl,rfl,trivial⟩,trivial,rfl⟩
end Go.Proofs.YtdmbahepaglcbaaGreatDoor
