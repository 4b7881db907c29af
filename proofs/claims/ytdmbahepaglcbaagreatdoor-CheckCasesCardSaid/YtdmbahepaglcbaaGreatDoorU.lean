/- Binds: whether binds are of their types. No condition but on what is within. -/
import Derived.Test.YtdmbahepaglcbaaGreatDoorT
import Derived.Test.YtdmbahepaglcbaaGreatDoorG
import Derived.Test.YtdmbahepaglcbaaGreatDoorL
import Derived.Test.YtdmbahepaglcbaaGreatDoorP
import Derived.Test.YtdmbahepaglcbaaGreatDoorS
set_option linter.unusedSimpArgs false
set_option linter.unusedVariables false
namespace Go.Proofs.YtdmbahepaglcbaaGreatDoor
open Go Fp
set_option maxRecDepth 10000
set_option maxHeartbeats 8000000
set_option linter.unusedVariables false
set_option maxRecDepth 100000
def NmX:Tp->Prop
 | .app a b=>NmX a/\NmX b
 | .all _ a=>NmX a
 | .mt n => ∃k:Nat,n=(k:Int)/\k<10
 | .no=>False
 | _=>True
theorem zEQ (t:Tp):∀x:List ByteArray,NmX t->x.length+dp t<=900000->(nl t x).size<=1000000000000000000->zC Tryz.prog zB5 [eTy t,.sl (eSs x)] (.lit (.string (nl t x))):=by
 induction t with
 | no=>intro x h;exact h.elim
 | mt n =>
  intro x h _ hz;obtain⟨k,rfl,hk⟩:=h;have:=wO 1 k (by omega) (by decide);refine zA ttok mixed Tryz.func47 rfl (by rfl) (Nat.le_of_ble_eq_true rfl) (by kernel_rfl) ?_;refine⟨fun _=>?_,fun h=>(by cases h)⟩;refine .inl ⟨_,zEB k k (Nat.le_refl _) (by omega),?_⟩;refine⟨by rw[sz1];omega,?_⟩;exact rfl
 | con s =>
  intro x h _ hz;refine zA ttok mixed Tryz.func47 rfl (by rfl) (Nat.le_of_ble_eq_true rfl) (by kernel_rfl) ?_;refine⟨fun h=>(by cases h),fun _=>?_⟩;refine⟨fun h=>(by cases h),fun _=>?_⟩;refine⟨fun _=>?_,fun h=>(by cases h)⟩;exact rfl
 | var s =>
  intro x _ hl hz;simp only[dp] at hl;have hxl:(eSs x).length=x.length:=by simp[eSs]
  have hrl:x.reverse.length=x.length:=by simp
  have e0:IntKind.i64.wrap (((eSs x).length:Nat)-1)=(x.length:Int)-1:=by rw[hxl];exact zEY (by omega) (by omega)
  refine zA ttok mixed Tryz.func47 rfl (by rfl) (Nat.le_of_ble_eq_true rfl) (by kernel_rfl) ?_;refine⟨fun h=>(by cases h),fun _=>?_⟩;refine⟨fun _=>?_,fun h=>(by cases h)⟩;refine⟨{k:Nat // k<=x.length/\∀j,j<k->x.reverse[j]?≠some s},fun k=>{vs:=[(1,.v (.sl (eSs x))),(2,.box 0 (eTy (.var s))),(5,.v (.lit (.int .i64 ((x.length:Int)-1-(k.1:Nat)))))],ow:=[]},
   fun k=>x.length-k.1,⟨0,Nat.zero_le _,fun j hj=>absurd hj (by omega)⟩,⟨⟨rfl,rfl,?_,trivial⟩,trivial,rfl⟩,?_⟩
  ·exact congrArg (fun n=>SV.v (AV.lit (Value.int .i64 n))) (e0.trans (by simp))
  rintro⟨k,hk,hn⟩;refine⟨fun h=>?_,fun h=>?_⟩
  ·have h:k<x.length:=by
    have:=of_decide_eq_true h;simp only at this;omega
   have ei:((x.length:Int)-1-(k:Nat)).toNat=x.length-1-k:=by omega
   have hi:x.length-1-k<x.length:=by omega
   have hrev:x.reverse[k]'(by omega)=x[x.length-1-k]:=by simp[List.getElem_reverse]
   refine⟨.lit (.string x[x.length-1-k]),by show (0:Int)<=(x.length:Int)-1-(k:Nat);omega,by show (eSs x)[((x.length:Int)-1-(k:Nat)).toNat]? = _;rw[ei];exact zBI hi,rfl,?_⟩;refine⟨fun h2=>?_,fun h2=>?_⟩
   ·have h2:x[x.length-1-k]=s:=of_decide_eq_true h2;have hm:s∈x:=h2 ▸ List.getElem_mem hi;have hix:ixN x.reverse s=k:=by
     have h1:=zIL (l:=x.reverse) (k:=k) (by omega) (by rw[hrev,h2]) hn;rw[zWQ (List.mem_reverse.2 hm)] at h1;omega
    have en:nl (.var s) x=⟨#[35]⟩++dcm k:=by rw[nl,yO hm,if_pos rfl,hix]
    rw[en];have ek:IntKind.i64.wrap (IntKind.i64.wrap (((eSs x).length:Nat)-1)-((x.length:Int)-1-(k:Nat)))=((k:Nat):Int):=by
     rw[e0,show (x.length:Int)-1-((x.length:Int)-1-(k:Nat))=((k:Nat):Int) by omega];exact yN (by omega)
    have hd:=zEB k k (Nat.le_refl _) (by omega);rw[<-ek] at hd;refine .inl ⟨_,hd,?_⟩;have:=wO 7 k (by omega) (by decide);refine⟨by rw[sz1];omega,?_⟩;exact rfl
   ·have h2:x[x.length-1-k]≠s:=of_decide_eq_false h2;refine⟨⟨k+1,h,zFB (l:=x.reverse) (by omega) (by rw[hrev];exact h2) hn⟩,(show x.length-(k+1)<x.length-k by omega),⟨rfl,rfl,?_,trivial⟩,trivial,rfl⟩;refine congrArg (fun n=>SV.v (AV.lit (Value.int .i64 n))) ?_;show IntKind.i64.wrap ((x.length:Int)-1-(k:Nat)-1)=(x.length:Int)-1-((k+1:Nat):Int);rw[zEY (by omega) (by omega)];omega
  ·have h:k=x.length:=by
    have:=of_decide_eq_false h;simp only at this;omega
   subst h;have hno:s∉x:=fun hm=>jD (l:=x.reverse) (by rw[hrl];exact hn) (List.mem_reverse.2 hm);have en:nl (.var s) x=⟨#[39]⟩++s:=by rw[nl,xQ hno];rfl
   rw[en,ByteArray.size_append,sz1] at hz;rw[en];refine⟨by rw[sz1];show 1+s.size<=_;omega,?_⟩;exact rfl
 | app a b iha ihb =>
  intro x h2 hl hz;simp only[dp] at hl;simp only[nl,ByteArray.size_append,sz1] at hz;refine zA ttok mixed Tryz.func47 rfl (by rfl) (Nat.le_of_ble_eq_true rfl) (by kernel_rfl) ?_;refine⟨fun h=>(by cases h),fun _=>?_⟩;refine⟨fun h=>(by cases h),fun _=>?_⟩;refine⟨fun h=>(by cases h),fun _=>?_⟩;refine⟨fun h=>(by cases h),fun _=>?_⟩;refine⟨fun _=>?_,fun h=>(by cases h)⟩;refine⟨fun h=>(by cases h),fun _=>?_⟩;refine⟨_,by decide,rfl,rfl,?_⟩;refine .inl ⟨_,iha x h2.1 (by omega) (by omega),?_⟩;refine⟨by simp only[ByteArray.size_append,sz1];omega,?_⟩;refine⟨by simp only[ByteArray.size_append,sz1];omega,?_⟩;refine⟨_,by decide,rfl,rfl,?_⟩;refine .inl ⟨_,ihb x h2.2 (by omega) (by omega),?_⟩;refine⟨by simp only[ByteArray.size_append,sz1];omega,?_⟩;refine⟨by simp only[ByteArray.size_append,sz1];omega,?_⟩;exact rfl
 | all s a ih =>
  intro x h2 hl hz;simp only[dp] at hl;simp only[nl,ByteArray.size_append,sz1] at hz;have hxl:(eSs x).length=x.length:=by simp[eSs]
  have hi:=ih (x++[s]) h2 (by simp;omega) (by omega);rw[<-zB3,<-List.nil_append (eSs x)] at hi;refine zA ttok mixed Tryz.func47 rfl (by rfl) (Nat.le_of_ble_eq_true rfl) (by kernel_rfl) ?_;refine⟨fun h=>(by cases h),fun _=>?_⟩;refine⟨fun h=>(by cases h),fun _=>?_⟩;refine⟨fun h=>(by cases h),fun _=>?_⟩;refine⟨fun _=>?_,fun h=>(by cases h)⟩;refine⟨fun h=>(by cases h),fun _=>?_⟩;refine⟨by simp[hxl];omega,zXS _,xH _,?_⟩;refine⟨_,by decide,rfl,rfl,?_⟩;refine⟨by simp[hxl];omega,by simpa using xH x,xH [_],?_⟩;refine .inl ⟨_,hi,?_⟩;refine⟨by simp only[ByteArray.size_append,sz1];omega,?_⟩;refine⟨by simp only[ByteArray.size_append,sz1];omega,?_⟩;exact rfl
theorem zLD {a b:Tp} (ha:NmX a) (hb:NmX b) (hda:dp a<=900000) (hdb:dp b<=900000) (hza:(nl a []).size<=1000000000000000000) (hzb:(nl b []).size<=1000000000000000000):zC Tryz.prog yL [eTy a,eTy b] (.sb (decide (nl a []=nl b []))):=by
 have h1:=zEQ a [] ha (by simpa using hda) hza;have h2:=zEQ b [] hb (by simpa using hdb) hzb;refine zA ttok mixed Tryz.func17 rfl (by rfl) (Nat.le_of_ble_eq_true rfl) (by kernel_rfl) ?_;refine .inl ⟨_,h1,?_⟩;refine .inl ⟨_,h2,?_⟩;exact rfl
theorem zWJ (l:List Int) (hl:Nums l) (m:Nat) (hm:0<m/\m<1000):∃r:Nat,r<m/\∀(n:Int) b,CallsG Tryz.prog (fnv 53) (mkH b l n) [pt b 0,.lit (.int .i64 (m:Nat))] [] fun r' o h=>r' = .lit (.int .i64 (r:Nat))/\o=0/\h=mkH b (l.drop 1) n:=by
 have hlen:=hl.len;cases l with
 | nil =>
  refine⟨0,hm.1,fun n b=>?_⟩;refine zN (first:=[]) (cap:=[]) ttok mixed Tryz.func53 rfl (by rfl) rfl (Nat.le_of_ble_eq_true rfl) (by kernel_rfl) ?_;refine Wsem.of ttok mixed ?_;refine⟨0,_,_,rfl,rfl,?_⟩;exact⟨fun _=>⟨rfl,rfl,rfl⟩,fun h=>absurd rfl (of_decide_eq_false h)⟩
 | cons i l =>
  obtain⟨r,h1,h2⟩:=xX (n:=i) (m:=(m:Nat)) (hl.inR i List.mem_cons_self) (by omega) (by omega);refine⟨r,by omega,fun n b=>?_⟩;refine zN (first:=[]) (cap:=[]) ttok mixed Tryz.func53 rfl (by rfl) rfl (Nat.le_of_ble_eq_true rfl) (by kernel_rfl) ?_;refine Wsem.of ttok mixed ?_;refine⟨0,_,_,rfl,rfl,?_⟩;refine⟨fun h=>?_,fun h=>?_⟩
  ·have h:=of_decide_eq_true h;simp[eIs] at h;omega
  ·refine⟨0,_,_,rfl,rfl,?_⟩;refine⟨_,Int.le_refl _,rfl,rfl,?_⟩;refine .inl ⟨_,h2,?_⟩;refine⟨0,_,_,rfl,rfl,?_⟩;refine⟨by decide,by simp[eIs];omega,Int.le_refl _,.inr (z1N _),?_⟩;refine⟨rfl,0,_,rfl,Nat.le_of_ble_eq_true rfl,?_⟩;refine⟨rfl,rfl,?_⟩;show [(b,HO.cells (setAt [AV.sl (eIs (i::l)),.lit (.int .i64 n)] (0+0) [AV.sl (((eIs (i::l)).take (eIs (i::l)).length).drop 1)]))]=_;rw[List.take_length];rfl
theorem zEN (l:List Int) (n:Int) (hl:Nums l) (m:Nat) (hm:0<m/\m<1000):∃r:Nat,r<m/\∀b,CallsG Tryz.prog (fnv 53) (mkH b l n) [pt b 0,.lit (.int .i64 (m:Nat))] [] fun r' o h=>r' = .lit (.int .i64 (r:Nat))/\o=0/\h=mkH b (l.drop 1) n :=
 let ⟨r,h1,h2⟩:=zWJ l hl m hm
 ⟨r,h1,h2 n⟩
theorem xU (s:ByteArray):zC Tryz.prog 38 [.lit (.string s)] (eTy (.con s)):=by
 refine zB ttok mixed Tryz.func38 rfl (by rfl) (Nat.le_of_ble_eq_true rfl) (by kernel_rfl) ?_;exact rfl
theorem zVC (s:ByteArray) (t:Tp):zC Tryz.prog 39 [.lit (.string s),eTy t] (eTy (.all s t)):=by
 refine zB ttok mixed Tryz.func39 rfl (by rfl) (Nat.le_of_ble_eq_true rfl) (by kernel_rfl) ?_;exact rfl
structure V9 where
 L:List Nm2
 vars:List ByteArray
 deep:Nat
def eV (v:V9):AV := .agg [.sl (wQ v.L),.sl (eSs v.vars),.lit (.int .i64 (v.deep:Nat))]
theorem zWZ (a b:List Nm2):wQ (a++b)=wQ a++wQ b:=by simp[wQ]
theorem z19 {l:List Nm2} {k:Nat} (h:k<l.length):(wQ l)[k]? = some (eNa l[k]):=by simp[wQ,h]
theorem z0C (l:List Nm2):(wQ l).length=l.length:=by simp[wQ]
def zB6:List ByteArray:=[xI,qU,⟨#[76]⟩,⟨#[80]⟩,arrow]
def zEU (vars:List ByteArray):Tp->Prop
 | .con s=>s∈zB6
 | .var x=>x∈vars
 | .app a b=>zEU vars a/\zEU vars b
 | _=>False
inductive Frm:Tp->Prop
 | int:Frm (.con xI)
 | bool:Frm (.con qU)
 | var (x:ByteArray):Frm (.var x)
 | ls {a:Tp} (h:Frm a):Frm (.app (.con ⟨#[76]⟩) a)
 | fn {a b:Tp} (h:Frm a) (h2:Frm b):Frm (.app (.app (.con arrow) a) b)
 | pr {a b:Tp} (h:Frm a) (h2:Frm b):Frm (.app (.app (.con ⟨#[80]⟩) a) b)
theorem zR6 (r:Nat):Frm (.con (if r % 2=0 then xI else qU)):=by split;exact .int;exact .bool
abbrev zHD (b:Nat) (l:List Int) (n:Int) (vars:List ByteArray) (d:Nat) (t:Tp) (l':List Int):Prop:=CallsG Tryz.prog (fnv 52) (mkH b l n) [pt b 0,.sl (eSs vars),.lit (.int .i64 (d:Nat))] [] fun r o h=>r=eTy t/\o=0/\h=mkH b l' n
def tz:Nat->Nat
 | 0=>1
 | k+1=>2*tz k+5
theorem xA {b:Nat}:[b].Nodup:=List.nodup_cons.2 ⟨by simp,List.nodup_nil⟩
abbrev zKC (b:Nat) (l:List Int) (n:Int) (m r:Nat) (l':List Int):Prop:=CallsG Tryz.prog (fnv 53) (mkH b l n) [pt b 0,.lit (.int .i64 (m:Nat))] [] fun r' o h=>r' = .lit (.int .i64 (r:Nat))/\o=0/\h=mkH b l' n
theorem wC (l:List ByteArray):(eSs l).length=l.length:=by simp[eSs]
theorem zOK {b:Nat} {l l1 l2:List Int} {n:Int} {vars:List ByteArray} {d r q:Nat} (h1:zKC b l n 8 r l1) (h5:5<r) (hq:q<vars.length) (h2:zKC b l1 n vars.length q l2):zHD b l n vars d (.var vars[q]) l2:=by
 refine zN (first:=[]) (cap:=[]) ttok mixed Tryz.func52 rfl (by rfl) rfl (Nat.le_of_ble_eq_true rfl) (by kernel_rfl) ?_;refine Wsem.of ttok mixed ?_;refine .inr (.inr (.inr (.inr (.inr (.inl ⟨[0],_,[],_,rfl,xA,rfl,h1,?_⟩)))));rintro _ _ _ ⟨rfl,rfl,rfl⟩;refine⟨fun _=>?_,fun h=>absurd (of_decide_eq_false h) (by omega)⟩;refine⟨fun _=>?_,fun h=>absurd (of_decide_eq_false h) (by rw[wC];omega)⟩;rw[<-wC vars] at h2;refine .inr (.inr (.inr (.inl ⟨[0],mkH b l1 n,mkH b l2 n,_,rfl,xA,rfl,h2,?_⟩)));refine⟨_,by omega,zBI hq,rfl,?_⟩;exact⟨rfl,rfl,rfl⟩
theorem zWW (r:Nat):[eTy (.con xI),eTy (.con qU)][((r % 2:Nat):Int).toNat]? = some (eTy (.con (if r % 2=0 then xI else qU))):=by
 rcases Nat.mod_two_eq_zero_or_one r with h|h
 ·rw[h];rfl
 ·rw[h];rfl
theorem zM0 {b:Nat} {l l1:List Int} {n:Int} {vars:List ByteArray} {d r:Nat} (h1:zKC b l n 8 r l1) (h5:¬(5<r/\0<vars.length)) (h3:r<3∨2<d) (hr:r<8):zHD b l n vars d (.con (if r % 2=0 then xI else qU)) l1:=by
 have em:(((r:Nat):Int).tmod 2)=((r % 2:Nat):Int):=by rw[Int.tmod_eq_emod_of_nonneg (by omega)];omega
 refine zN (first:=[]) (cap:=[]) ttok mixed Tryz.func52 rfl (by rfl) rfl (Nat.le_of_ble_eq_true rfl) (by kernel_rfl) ?_;refine Wsem.of ttok mixed ?_;refine .inr (.inr (.inr (.inr (.inr (.inl ⟨[0],_,[],_,rfl,xA,rfl,h1,?_⟩)))));rintro _ _ _ ⟨rfl,rfl,rfl⟩;refine⟨fun h=>?_,fun h=>?_⟩
 ·have h:5<r:=by have h:=of_decide_eq_true h;omega
  refine⟨fun h2=>absurd (of_decide_eq_true h2) (by rw[wC];omega),fun _=>?_⟩;refine⟨fun _=>?_,fun h=>absurd (of_decide_eq_true h) (by omega)⟩;refine⟨fun _=>?_,fun h=>absurd (of_decide_eq_false h) (by omega)⟩;refine .inl ⟨_,xU xI,?_⟩;refine .inl ⟨_,xU qU,?_⟩;refine⟨by decide,?_⟩;refine⟨eTy (.con (if r % 2=0 then xI else qU)),by rw[em];omega,by rw[em];exact zWW r,rfl,?_⟩;exact⟨rfl,rfl,rfl⟩
 ·refine⟨fun h=>?_,fun h=>?_⟩
  ·have h:¬r<3:=by have h:=of_decide_eq_false h;omega
   refine⟨fun _=>?_,fun h=>absurd (of_decide_eq_false h) (by omega)⟩;refine .inl ⟨_,xU xI,?_⟩;refine .inl ⟨_,xU qU,?_⟩;refine⟨by decide,?_⟩;refine⟨eTy (.con (if r % 2=0 then xI else qU)),by rw[em];omega,by rw[em];exact zWW r,rfl,?_⟩;exact⟨rfl,rfl,rfl⟩
  ·refine .inl ⟨_,xU xI,?_⟩;refine .inl ⟨_,xU qU,?_⟩;refine⟨by decide,?_⟩;refine⟨eTy (.con (if r % 2=0 then xI else qU)),by rw[em];omega,by rw[em];exact zWW r,rfl,?_⟩;exact⟨rfl,rfl,rfl⟩
theorem zOE {d:Nat} (h:d<1000):IntKind.i64.wrap ((d:Int)+1)=((d+1:Nat):Int):=wrap_succ (by omega)
theorem z1K {b:Nat} {l l1 l2:List Int} {n:Int} {vars:List ByteArray} {d:Nat} {t:Tp} (h1:zKC b l n 8 3 l1) (hd:d<=2) (h2:zHD b l1 n vars (d+1) t l2):zHD b l n vars d (.app (.con ⟨#[76]⟩) t) l2:=by
 have h2:CallsG Tryz.prog (fnv 52) (mkH b l1 n) [pt b 0,.sl (eSs vars),.lit (.int .i64 (IntKind.i64.wrap ((d:Int)+1)))] [] fun r o h=>r=eTy t/\o=0/\h=mkH b l2 n:=by rw[zOE (by omega)];exact h2
 refine zN (first:=[]) (cap:=[]) ttok mixed Tryz.func52 rfl (by rfl) rfl (Nat.le_of_ble_eq_true rfl) (by kernel_rfl) ?_;refine Wsem.of ttok mixed ?_;refine .inr (.inr (.inr (.inr (.inr (.inl ⟨[0],_,[],_,rfl,xA,rfl,h1,?_⟩)))));rintro _ _ _ ⟨rfl,rfl,rfl⟩;refine⟨fun h=>absurd h (by decide),fun _=>?_⟩;refine⟨fun _=>?_,fun h=>absurd h (by decide)⟩;refine⟨fun h=>absurd (of_decide_eq_true h) (by omega),fun _=>?_⟩;refine .inr (.inr (.inr (.inl ⟨[0],mkH b l1 n,mkH b l2 n,_,rfl,xA,rfl,h2,?_⟩)));refine⟨fun _=>?_,fun h=>absurd h (by decide)⟩;refine .inl ⟨_,xU ⟨#[76]⟩,?_⟩;refine⟨by kernel_rfl,?_⟩;exact⟨rfl,rfl,rfl⟩
theorem zXW {b:Nat} {l l1 l2 l3:List Int} {n:Int} {vars:List ByteArray} {d r:Nat} {t u:Tp} (h1:zKC b l n 8 r l1) (hr:r=4) (hd:d<=2) (h2:zHD b l1 n vars (d+1) t l2) (h3:zHD b l2 n vars (d+1) u l3):zHD b l n vars d (.app (.app (.con arrow) t) u) l3:=by
 have h2:CallsG Tryz.prog (fnv 52) (mkH b l1 n) [pt b 0,.sl (eSs vars),.lit (.int .i64 (IntKind.i64.wrap ((d:Int)+1)))] [] fun r o h=>r=eTy t/\o=0/\h=mkH b l2 n:=by rw[zOE (by omega)];exact h2
 have h3:CallsG Tryz.prog (fnv 52) (mkH b l2 n) [pt b 0,.sl (eSs vars),.lit (.int .i64 (IntKind.i64.wrap ((d:Int)+1)))] [] fun r o h=>r=eTy u/\o=0/\h=mkH b l3 n:=by rw[zOE (by omega)];exact h3
 refine zN (first:=[]) (cap:=[]) ttok mixed Tryz.func52 rfl (by rfl) rfl (Nat.le_of_ble_eq_true rfl) (by kernel_rfl) ?_;refine Wsem.of ttok mixed ?_;refine .inr (.inr (.inr (.inr (.inr (.inl ⟨[0],_,[],_,rfl,xA,rfl,h1,?_⟩)))));rintro _ _ _ ⟨rfl,rfl,rfl⟩;refine⟨fun h=>absurd (of_decide_eq_true h) (by omega),fun _=>?_⟩;refine⟨fun _=>?_,fun h=>absurd (of_decide_eq_true h) (by omega)⟩;refine⟨fun h=>absurd (of_decide_eq_true h) (by omega),fun _=>?_⟩;refine .inr (.inr (.inr (.inl ⟨[0],mkH b l1 n,mkH b l2 n,_,rfl,xA,rfl,h2,?_⟩)));refine⟨fun h=>absurd (of_decide_eq_true h) (by omega),fun _=>?_⟩;refine .inr (.inr (.inr (.inl ⟨[0],mkH b l2 n,mkH b l3 n,_,rfl,xA,rfl,h3,?_⟩)));refine⟨fun _=>?_,fun h=>absurd (of_decide_eq_false h) (by omega)⟩;refine .inl ⟨_,zFW t u,?_⟩;exact⟨rfl,rfl,rfl⟩
theorem z1L {b:Nat} {l l1 l2 l3:List Int} {n:Int} {vars:List ByteArray} {d r:Nat} {t u:Tp} (h1:zKC b l n 8 r l1) (hr:4<r) (h5:¬(5<r/\0<vars.length)) (hd:d<=2) (h2:zHD b l1 n vars (d+1) t l2) (h3:zHD b l2 n vars (d+1) u l3):zHD b l n vars d (.app (.app (.con ⟨#[80]⟩) t) u) l3:=by
 have h2:CallsG Tryz.prog (fnv 52) (mkH b l1 n) [pt b 0,.sl (eSs vars),.lit (.int .i64 (IntKind.i64.wrap ((d:Int)+1)))] [] fun r o h=>r=eTy t/\o=0/\h=mkH b l2 n:=by rw[zOE (by omega)];exact h2
 have h3:CallsG Tryz.prog (fnv 52) (mkH b l2 n) [pt b 0,.sl (eSs vars),.lit (.int .i64 (IntKind.i64.wrap ((d:Int)+1)))] [] fun r o h=>r=eTy u/\o=0/\h=mkH b l3 n:=by rw[zOE (by omega)];exact h3
 refine zN (first:=[]) (cap:=[]) ttok mixed Tryz.func52 rfl (by rfl) rfl (Nat.le_of_ble_eq_true rfl) (by kernel_rfl) ?_;refine Wsem.of ttok mixed ?_;refine .inr (.inr (.inr (.inr (.inr (.inl ⟨[0],_,[],_,rfl,xA,rfl,h1,?_⟩)))));rintro _ _ _ ⟨rfl,rfl,rfl⟩;refine⟨fun h=>?_,fun h=>?_⟩
 ·have h:5<r:=by have h:=of_decide_eq_true h;omega
  refine⟨fun h2=>absurd (of_decide_eq_true h2) (by rw[wC];omega),fun _=>?_⟩;refine⟨fun _=>?_,fun h=>absurd (of_decide_eq_true h) (by omega)⟩;refine⟨fun h=>absurd (of_decide_eq_true h) (by omega),fun _=>?_⟩;refine .inr (.inr (.inr (.inl ⟨[0],mkH b l1 n,mkH b l2 n,_,rfl,xA,rfl,h2,?_⟩)));refine⟨fun h=>absurd (of_decide_eq_true h) (by omega),fun _=>?_⟩;refine .inr (.inr (.inr (.inl ⟨[0],mkH b l2 n,mkH b l3 n,_,rfl,xA,rfl,h3,?_⟩)));refine⟨fun h=>absurd (of_decide_eq_true h) (by omega),fun _=>?_⟩;refine .inl ⟨_,xU ⟨#[80]⟩,?_⟩;refine⟨by kernel_rfl,?_⟩;exact⟨rfl,rfl,rfl⟩
 ·skip
  refine⟨fun _=>?_,fun h=>absurd (of_decide_eq_true h) (by omega)⟩;refine⟨fun h=>absurd (of_decide_eq_true h) (by omega),fun _=>?_⟩;refine .inr (.inr (.inr (.inl ⟨[0],mkH b l1 n,mkH b l2 n,_,rfl,xA,rfl,h2,?_⟩)));refine⟨fun h=>absurd (of_decide_eq_true h) (by omega),fun _=>?_⟩;refine .inr (.inr (.inr (.inl ⟨[0],mkH b l2 n,mkH b l3 n,_,rfl,xA,rfl,h3,?_⟩)));refine⟨fun h=>absurd (of_decide_eq_true h) (by omega),fun _=>?_⟩;refine .inl ⟨_,xU ⟨#[80]⟩,?_⟩;refine⟨by kernel_rfl,?_⟩;exact⟨rfl,rfl,rfl⟩
theorem zYS (vars:List ByteArray) (hv:vars.length<1000) (k:Nat):∀(d:Nat) (l:List Int) (n:Int),d+k=3->Nums l->∃t l',(zEU vars t/\Frm t)/\t.sz<=tz k/\Nums l'/\∀b,zHD b l n vars d t l':=by
 have hcon:∀r,zEU vars (.con (if r % 2=0 then xI else qU)):=fun r=>by
  show _∈zB6;split<;>simp[zB6]
 have tz1:∀k,1<=tz k:=fun k=>by cases k<;>simp[tz]<;>omega
 induction k with
 | zero =>
  intro d l n hd hl;have hd3:d=3:=by omega
  subst hd3;obtain⟨r,hr,hn⟩:=zEN l n hl 8 (by decide);by_cases h5:5<r/\0<vars.length
  ·obtain⟨q,hq,hn2⟩:=zEN (l.drop 1) n hl.drop vars.length ⟨h5.2,hv⟩;exact⟨.var vars[q],(l.drop 1).drop 1,⟨List.getElem_mem hq,.var _⟩,by simp[Tp.sz,tz],hl.drop.drop,fun b=>zOK (hn b) h5.1 hq (hn2 b)⟩
  ·exact⟨_,l.drop 1,⟨hcon r,zR6 r⟩,by simp[Tp.sz,tz],hl.drop,fun b=>zM0 (hn b) h5 (.inr (by omega)) hr⟩
 | succ k ih =>
  intro d l n hd hl;have h1:=tz1 (k+1);obtain⟨r,hr,hn⟩:=zEN l n hl 8 (by decide);by_cases h5:5<r/\0<vars.length
  ·obtain⟨q,hq,hn2⟩:=zEN (l.drop 1) n hl.drop vars.length ⟨h5.2,hv⟩;exact⟨.var vars[q],(l.drop 1).drop 1,⟨List.getElem_mem hq,.var _⟩,by simp only[Tp.sz];omega,hl.drop.drop,fun b=>zOK (hn b) h5.1 hq (hn2 b)⟩
  ·obtain⟨t,l2,s1,s2,s3,s4⟩:=ih (d+1) (l.drop 1) n (by omega) hl.drop;obtain⟨u,l3,u1,u2,u3,u4⟩:=ih (d+1) l2 n (by omega) s3;by_cases r3:r<3
   ·exact⟨_,l.drop 1,⟨hcon r,zR6 r⟩,by simp only[Tp.sz];omega,hl.drop,fun b=>zM0 (hn b) h5 (.inl r3) hr⟩
   ·by_cases r4:r=3
    ·subst r4;exact⟨.app (.con ⟨#[76]⟩) t,l2,⟨⟨by simp[zEU,zB6],s1.1⟩,.ls s1.2⟩,by simp only[Tp.sz,tz];omega,s3,fun b=>z1K (hn b) (by omega) (s4 b)⟩
    ·by_cases r5:r=4
     ·exact⟨.app (.app (.con arrow) t) u,l3,⟨⟨⟨by simp[zEU,zB6],s1.1⟩,u1.1⟩,.fn s1.2 u1.2⟩,by simp only[Tp.sz,tz];omega,u3,fun b=>zXW (hn b) r5 (by omega) (s4 b) (u4 b)⟩
     ·exact⟨.app (.app (.con ⟨#[80]⟩) t) u,l3,⟨⟨⟨by simp[zEU,zB6],s1.1⟩,u1.1⟩,.pr s1.2 u1.2⟩,by simp only[Tp.sz,tz];omega,u3,fun b=>z1L (hn b) (by omega) h5 (by omega) (s4 b) (u4 b)⟩
abbrev zP8 (t:Tp) (r:AV) (o:Nat) (h:List (Nat×HO)):Prop:=o=0/\((zI t=[]/\r = .tup [eTy (xW t),.lit (.slice none 0 0)]/\h=[]) ∨
 ∃b cap rest,(zI t).length<=cap/\rest.length=(cap-(zI t).length)*4/\zI t≠[]/\r = .tup [eTy (xW t),.lit (.slice (some ⟨b,0,none⟩) (zI t).length cap)]/\h=[(b,HO.cells (fl (zI t).reverse rest))])
theorem z2A (l:List Tp) (y:Tp) (rest:List AV):setAt (fl l rest) (l.length*4) ([eTy y].flatMap AV.cells)=fl (l++[y]) (rest.drop 4):=by
 have h:((zJ l).flatMap AV.cells).length=l.length*4:=by
  have:=zGK l [];simpa[fl] using this
 unfold fl setAt;rw[List.take_append_of_le_length (by rw[h];omega),<-h,List.take_length];have h4:([eTy y].flatMap AV.cells).length=4:=rfl;rw[h4,List.drop_length_add_append];simp[zJ]
def z3C (t:Tp) (c:CE):Prop := ∃k l,yA c.vs 2 = .box k (.agg l)/\l.map wk=(eTy t).cells/\yA c.vs 3 = .v .nil
theorem zRL {args:List AV} {t:Tp} (hlen:args.length<=Tryz.f93.ntmps) {c:Code} (hb:Tryz.f93.body=some c) (hk:zS Tryz.f93.ntmps c=true) (hw:Wsem Tryz.prog c (wU args [] []) (fun _=>False) (fun _ _=>False) (z3C t)):zC Tryz.prog 93 args (.tup [eTy t,.lit (.slice none 0 0)]):=by
 refine⟨93,#[],#[],rfl,⟨_,Tryz.func93,by rw[hb];rfl,rfl⟩,fun F w vs hfr hh ha hy=>?_⟩;have hyk:zY vs []=[]:=by cases vs<;>rfl
 rw[show (#[]:Array Value)++vs.toArray ++ #[]=vs.toArray by simp];obtain⟨g,hR⟩:=zAD hfr hh ha hy (n:=Tryz.f93.ntmps) (by rw[ha.len];exact hlen);refine calls_of_wp Tryz.func93 hb (Go.wp_mono (hw _ trivial hk g _ _ (hR.weaken (qJ args [] []) (jA args [] []) (fun _=>rfl) rfl)) fun ex a w' hp=>?_);cases ex with
 | normal=>obtain⟨e,g',h1,h2⟩:=hp;exact h1.elim
 | exit i=>obtain⟨e,g',h1,h2⟩:=hp;exact h1.elim
 | goto l=>exact hp.elim
 | panic ch=>exact hp.elim
 | outgrown=>exact hp.elim
 | ret =>
  obtain⟨c',g',⟨k,l,q1,q4,q3⟩,hR'⟩:=hp;have s2:=hR'.slots 2;have s3:=hR'.slots 3;rw[show (den c').vals 2=_ from q1] at s2;rw[show (den c').vals 3=_ from q3] at s3;obtain⟨b,cs,E,e2,_,_,_,h1,h2⟩:=s2;have e3:=s3.nil_eq;rw[Array.getD_eq_getD_getElem?] at e2 e3;have h2:RepCells g'.F w' cs.toList l:=h2;have h2:=h2.wkM;rw[q4] at h2;have l4:cs.size=4:=by simpa[eTy,AV.cells] using h2.1
  obtain⟨x0,x1,x2,x3,rfl⟩:=zZ5 l4;have d0:=(cellAt h1 0 (by simp)).1;have d1:=(cellAt h1 1 (by simp)).1;have d2:=(cellAt h1 2 (by simp)).1;have d3:=(cellAt h1 3 (by simp)).1;simp only[List.getElem_toArray,List.getElem_cons_zero,List.getElem_cons_succ] at d0 d1 d2 d3;refine⟨hR'.defers,.tuple #[.agg #[x0,x1,x2,x3],.slice none 0 0],?_,_,_,0,[],g'.F,rfl,⟨rfl,rfl,rfl⟩,?_,fun sz h=>by omega,hR'.kept,hR'.fext,hR'.fresh,⟨by simp[keys],fun b hb=>by simp[keys] at hb,fun x hx=>by simp at hx⟩,fun b hb=>by simp[keys] at hb⟩
  ·simp[results,Tryz.f93,go_sem,e2,e3,d0,d1,d2,d3]
  ·refine .tup _ _ rfl fun j u c hu hc=>?_
   match j,hu,hc with
   | 0,hu,hc =>
    cases hu;cases hc
    refine .agg _ _ rfl (fun c hc=>?_) fun j u c hu hc=>(h2.2 j u c (by simpa using hu) hc).1;simp only[List.mem_cons,List.not_mem_nil,or_false] at hc;rcases hc with rfl|rfl|rfl|rfl<;>rfl
   | 1,hu,hc=>cases hu;cases hc;exact .lit _ rfl
theorem zOM {t:Tp} (h4:¬t.form=4):zC Tryz.prog 93 [eTy t] (.tup [eTy t,.lit (.slice none 0 0)]):=by
 refine zRL (Nat.le_of_ble_eq_true rfl) rfl (by kernel_rfl) ?_;refine Wsem.of ttok mixed ?_;refine⟨fun _=>?_,fun h=>absurd (by simpa using h) h4⟩;exact⟨0,_,rfl,rfl,rfl⟩
theorem zRJ (t:Tp):(zI t).length<1000000->CallsG Tryz.prog (fnv 93) [] [eTy t] [] (zP8 t):=by
 have leaf:∀t:Tp,¬t.form=4->zI t=[]->xW t=t->CallsG Tryz.prog (fnv 93) [] [eTy t] [] (zP8 t):=fun t h4 h1 h2 =>
  CallsG.post (zOM h4) fun r o h hp=>⟨hp.2.1,.inl ⟨h1,by rw[h2];exact hp.1,hp.2.2⟩⟩
 induction t with
 | app x y ihx ihy =>
  intro hl;simp only[zI,List.length_cons] at hl;have ihx:=ihx (by omega);refine CallsG.lessS (post:=fun r o h => ∃h1,h1.Sublist h/\zP8 (.app x y) r 0 h1) ?_ (fun r o h hp=>hp);refine zN (first:=[]) (cap:=[]) ttok mixed Tryz.func93 rfl (by rfl) rfl (Nat.le_of_ble_eq_true rfl) (by kernel_rfl) ?_;refine Wsem.seq ttok mixed ?_;refine Wsem.seq ttok mixed ?_;refine⟨fun h=>(by cases h),fun _=>?_⟩;refine Wsem.seq ttok mixed ?_;refine⟨eTy x,by omega,rfl,rfl,?_⟩;refine .inr (.inr (.inr (.inr (.inr (.inl ⟨[],[],[],_,rfl,List.nodup_nil,rfl,ihx,?_⟩)))));rintro r w h ⟨rfl,⟨e1,rfl,rfl⟩|⟨b,cap,rest,q1,q2,q3,rfl,rfl⟩⟩
  ·refine Wsem.seqS (Wsem.regionTA (jL ttok).two ttok mixed [0,1,2,3,4,5,6,7,8,9] [false,false,false,false,false,false,false,true] (by kernel_rfl) ?_);refine⟨eTy y,by omega,rfl,rfl,?_⟩;refine⟨by simp,by simp,zGC [y],rfl,rfl,fun b' cap' zs g1 g2=>?_⟩;refine⟨by kernel_rfl,?_⟩;refine Wsem.of ttok mixed ?_;have e:fl (zI (.app x y)).reverse zs=[]++([eTy y].flatMap AV.cells++zs):=by simp[zI,e1,fl,zJ]
   refine⟨[(b',HO.cells (fl (zI (.app x y)).reverse zs))],by rw[e];exact List.Sublist.refl _,rfl,.inr ⟨b',cap',zs,?_,?_,by simp[zI],?_,rfl⟩⟩
   ·simpa[zI,e1] using g1
   ·simpa[zI,e1] using g2
   ·simp only[zI,e1];exact rfl
  ·refine Wsem.seqS (Wsem.regionTA (jL ttok).two ttok mixed [0,1,2,3,4,5,6,7,8,9] [false,false,false,false,false,false,false,true] (by kernel_rfl) ?_);refine⟨eTy y,by omega,rfl,rfl,?_⟩;refine⟨by simp,by simp;omega,zGC [y],0,_,rfl,q1,?_,fun _ b' cap' zs g1 g2=>?_,fun hin=>?_⟩
   ·show 0+cap*4<=(fl (zI x).reverse rest).length;rw[zGK,q2,List.length_reverse,<-Nat.add_mul];have:(zI x).length+(cap-(zI x).length)=cap:=by omega
    rw[this];omega
   ·refine⟨by kernel_rfl,?_⟩;refine Wsem.of ttok mixed ?_;have e:fl (zI (.app x y)).reverse zs=((fl (zI x).reverse rest).drop 0).take ((zI x).length*4)++([eTy y].flatMap AV.cells++zs):=by
     rw[List.drop_zero,show (zI x).length=(zI x).reverse.length by simp,zVJ];simp[zI]
    refine⟨[(b',HO.cells (fl (zI (.app x y)).reverse zs))],by rw[e];exact List.Sublist.refl _,rfl,.inr ⟨b',cap',zs,by simpa[zI] using g1,by simpa[zI] using g2,by simp[zI],?_,rfl⟩⟩;simp only[zI];exact rfl
   ·refine⟨by kernel_rfl,?_⟩;refine Wsem.of ttok mixed ?_;have hin:(zI x).length+1<=cap:=hin;have e:fl (zI (.app x y)).reverse (rest.drop 4)=setAt (fl (zI x).reverse rest) (0+(zI x).length*4) ([eTy y].flatMap AV.cells):=by
     rw[Nat.zero_add,show (zI x).length=(zI x).reverse.length by simp];rw[z2A];simp[zI]
    refine⟨[(b,HO.cells (fl (zI (.app x y)).reverse (rest.drop 4)))],by rw[e];exact List.Sublist.refl _,rfl,.inr ⟨b,cap,rest.drop 4,by simpa[zI] using hin,?_,by simp[zI],?_,rfl⟩⟩
    ·rw[List.length_drop,q2];simp only[zI,List.length_cons];omega
    ·simp only[zI];exact rfl
 | _=>exact fun _=>leaf _ (by simp[Tp.form]) rfl rfl
theorem zC3 (t:Tp) (hs:(zI t).length<1000000):zC Tryz.prog 93 [eTy t] (.tup [eTy (xW t),.sl (zJ (zI t).reverse)]):=by
 have hl:(zJ (zI t).reverse).length=(zI t).length:=by simp[zJ]
 refine zSE (esz:=4) (zGC _) (fun x hx c hc=>?_) ?_
 ·obtain⟨y,_,rfl⟩:=List.mem_map.1 hx;simp[eTy,AV.cells] at hc;rcases hc with rfl|rfl|rfl|rfl<;>rfl
 refine CallsG.post (zRJ t hs) fun r o h hp=>⟨hp.1,?_⟩
 rcases hp.2 with⟨e,h1,h2⟩|⟨b,cap,rest,q1,q2,q3,rfl,rfl⟩
 ·exact .inl ⟨by rw[e];rfl,h1,h2⟩
 ·exact .inr ⟨b,cap,rest,by rw[hl];exact q1,by rw[hl],rfl⟩
def ht:Tp->Nat
 | .app a b=>max (ht a) (ht b)+1
 | .all _ a=>ht a+1
 | _=>0
theorem zUS {t:Tp}:∀x∈zI t,ht x<=ht t/\dp x<=dp t/\∀s∈fv x,s∈fv t:=by
 induction t with
 | app a b iha _ =>
  intro x hx;simp only[zI,List.mem_cons] at hx;rcases hx with rfl|hx
  ·exact⟨by simp only[ht];omega,by simp only[dp];omega,fun s hs=>mem_fv_app.2 (.inr hs)⟩
  ·obtain⟨h1,h2,h3⟩:=iha x hx;exact⟨by simp only[ht];omega,by simp only[dp];omega,fun s hs=>mem_fv_app.2 (.inl (h3 s hs))⟩
 | _=>intro x hx;simp[zI] at hx
def wd (c:UInt8):Bool:=c != 32 && c != 41 && c != 93
abbrev Wrd (s:ByteArray):Prop := ∀c∈by' s,wd c=true
def CoW (s:ByteArray):Prop:=Wrd s/\∃c l,by' s=c::l/\c≠63/\c≠35/\c≠39/\c≠91/\c≠40
theorem zZ4 {c:UInt8} (h:tk c=true):wd c=true:=by
 unfold tk at h;unfold wd;simp only[Bool.or_eq_true,Bool.and_eq_true,decide_eq_true_eq,bne_iff_ne,ne_eq] at h⊢;refine⟨⟨?_,?_⟩,?_⟩<;>rintro rfl<;>revert h<;>decide
theorem zGA (n:Nat):Wrd (dcm n):=fun c hc=>zZ4 (zVF n c hc)
theorem zR4 (n:Nat):Wrd (lett n):=fun c hc=>zZ4 (zYX n c hc)
theorem zSM {a b:ByteArray} (ha:Wrd a) (hb:Wrd b):Wrd (a++b):=fun c hc=>by
 rw[zCR] at hc;rcases List.mem_append.1 hc with h|h
 ·exact ha c h
 ·exact hb c h
def zKT (r:List UInt8):Prop := ∀c,r[0]? = some c->wd c=false
theorem zKY:zKT []:=fun c h=>by simp at h
theorem qX {c:UInt8} {r:List UInt8} (h:wd c=false):zKT (c::r):=fun d hd=>by simp at hd;subst hd;exact h
theorem zNP:∀{l m r q:List UInt8},(∀c∈l,wd c=true)->(∀c∈m,wd c=true)->zKT r->zKT q->l++r=m++q->l=m/\r=q
 | [],[],r,q,_,_,_,_,h=>⟨rfl,h⟩
 | [],c::m,r,q,_,hm,hr,_,h=>by
  have h:r=c::(m++q):=h;subst h;have:=hr c (by simp);rw[hm c (by simp)] at this;cases this
 | c::l,[],r,q,hl,_,_,hq,h=>by
  have h:c::(l++r)=q:=h;subst h;have:=hq c (by simp);rw[hl c (by simp)] at this;cases this
 | c::l,d::m,r,q,hl,hm,hr,hq,h=>by
  simp only[List.cons_append,List.cons.injEq] at h;obtain⟨rfl,h⟩:=h;obtain⟨rfl,h2⟩:=zNP (fun x hx=>hl x (by simp[hx])) (fun x hx=>hm x (by simp[hx])) hr hq h;exact⟨rfl,h2⟩
def VdX:Db->Prop
 | .mt n => ∃k:Nat,n=(k:Int)/\k<10
 | .bv _=>True
 | .fr s=>Wrd s
 | .con s=>CoW s
 | .all a=>VdX a
 | .app a b=>VdX a/\VdX b
 | .no=>False
theorem zXQ (d:Db):∀(e:Db) (r q:List UInt8),VdX d->VdX e->zKT r->zKT q->ser d++r=ser e++q->d=e/\r=q:=by
 induction d with
 | no=>intro e r q h;exact h.elim
 | mt n =>
  intro e r q hd he hr hq h;obtain⟨k,rfl,_⟩:=hd;cases e with
  | mt m =>
   obtain⟨j,rfl,_⟩:=he;simp only[ser,List.cons_append,List.cons.injEq,true_and,Int.toNat_natCast] at h;obtain⟨h1,h2⟩:=zNP (zGA _) (zGA _) hr hq h;exact⟨by rw[zR2 h1],h2⟩
  | con s=>obtain⟨_,c,l,e,h1,h2,h3,h4,h5⟩:=he;simp only[ser,e,List.cons_append,List.cons.injEq] at h;exact absurd h.1.symm h1
  | no=>exact he.elim
  | _=>simp[ser] at h
 | bv n =>
  intro e r q hd he hr hq h;cases e with
  | bv m =>
   simp only[ser,List.cons_append,List.cons.injEq,true_and] at h;obtain⟨h1,h2⟩:=zNP (zGA _) (zGA _) hr hq h;exact⟨by rw[zR2 h1],h2⟩
  | con s=>obtain⟨_,c,l,e,h1,h2,h3,h4,h5⟩:=he;simp only[ser,e,List.cons_append,List.cons.injEq] at h;exact absurd h.1.symm h2
  | no=>exact he.elim
  | _=>simp[ser] at h
 | fr s =>
  intro e r q hd he hr hq h;cases e with
  | fr u =>
   simp only[ser,List.cons_append,List.cons.injEq,true_and] at h;obtain⟨h1,h2⟩:=zNP hd he hr hq h;exact⟨by rw[zIW h1],h2⟩
  | con s=>obtain⟨_,c,l,e,h1,h2,h3,h4,h5⟩:=he;simp only[ser,e,List.cons_append,List.cons.injEq] at h;exact absurd h.1.symm h3
  | no=>exact he.elim
  | _=>simp[ser] at h
 | con s =>
  intro e r q hd he hr hq h;cases e with
  | con u =>
   obtain⟨h1,h2⟩:=zNP hd.1 he.1 hr hq h;exact⟨by rw[zIW h1],h2⟩
  | no=>exact he.elim
  | _ =>
   obtain⟨_,c,l,e,h1,h2,h3,h4,h5⟩:=hd;simp only[ser,e,List.cons_append,List.cons.injEq] at h
   first
   | exact absurd h.1 h1
   | exact absurd h.1 h2
   | exact absurd h.1 h3
   | exact absurd h.1 h4
   | exact absurd h.1 h5
 | all a ih =>
  intro e r q hd he hr hq h;cases e with
  | all b =>
   simp only[ser,List.cons_append,List.cons.injEq,true_and,List.append_assoc] at h;obtain⟨rfl,h2⟩:=ih b _ _ hd he (qX (by decide)) (qX (by decide)) h;exact⟨rfl,by simpa using h2⟩
  | con s=>obtain⟨_,c,l,e,h1,h2,h3,h4,h5⟩:=he;simp only[ser,e,List.cons_append,List.cons.injEq] at h;exact absurd h.1.symm h4
  | no=>exact he.elim
  | _=>simp[ser] at h
 | app a b iha ihb =>
  intro e r q hd he hr hq h;cases e with
  | app c d =>
   simp only[ser,List.cons_append,List.cons.injEq,true_and,List.append_assoc] at h;obtain⟨rfl,h2⟩:=iha c _ _ hd.1 he.1 (qX (by decide)) (qX (by decide)) h;simp only[List.cons.injEq,true_and] at h2;obtain⟨rfl,h3⟩:=ihb d _ _ hd.2 he.2 (qX (by decide)) (qX (by decide)) h2;exact⟨rfl,by simpa using h3⟩
  | con s=>obtain⟨_,c,l,e,h1,h2,h3,h4,h5⟩:=he;simp only[ser,e,List.cons_append,List.cons.injEq] at h;exact absurd h.1.symm h5
  | no=>exact he.elim
  | _=>simp[ser] at h
def TkX:Tp->Prop
 | .app a b=>TkX a/\TkX b
 | .all s a=>Wrd s/\TkX a
 | .mt n => ∃k:Nat,n=(k:Int)/\k<10
 | .con s=>CoW s
 | .var s=>Wrd s
 | .no=>False
theorem zXT (t:Tp):∀e,TkX t->VdX (db t e):=by
 induction t with
 | no=>exact fun _ h=>h
 | mt n=>exact fun _ h=>h
 | con s=>exact fun _ h=>h
 | var s =>
  intro e h;simp only[db];split
  ·trivial
  ·exact h
 | app a b iha ihb=>exact fun e h=>⟨iha e h.1,ihb e h.2⟩
 | all s a ih=>exact fun e h=>ih _ h.2
theorem zZT {a b:Tp} (ha:TkX a) (hb:TkX b):nl a []=nl b []↔smb a b [] []=true:=by
 rw[zVN a b [] [] rfl];constructor
 ·intro h;have h1:=zB9 a [];have h2:=zB9 b [];rw[h] at h1;rw[h1] at h2;exact (zXQ _ _ [] [] (zXT a _ ha) (zXT b _ hb) zKY zKY (by rw[h2])).1
 ·intro h;refine zIW ?_;rw[zB9,zB9,h]
theorem TkX.nm:∀{t:Tp},TkX t->NmX t
 | .app _ _,h=>⟨TkX.nm h.1,TkX.nm h.2⟩
 | .all _ a,h=>TkX.nm (t:=a) h.2
 | .mt _,h=>h
 | .con _,_=>trivial
 | .var _,_=>trivial
 | .no,h=>h
def Shn (K:Nat):Tp->Prop
 | .app a b=>Shn K a/\Shn K b
 | .all s a=>Shn K a
 | .con s=>s.size<=K
 | .var s=>s.size<=K
 | _=>True
theorem zQ8 {K:Nat} (t:Tp):∀x:List ByteArray,TkX t->Shn K t->x.length+t.sz<=1000000->(nl t x).size+3<=(K+20)*t.sz:=by
 induction t with
 | no=>intro x h;exact h.elim
 | mt n =>
  intro x ⟨k,h1,h2⟩ _ _;subst h1;have:=wO 1 k (by omega) (by decide);simp only[nl,ByteArray.size_append,Tp.sz,Int.toNat_natCast];show 1+_+3<=_;omega
 | con s=>intro x _ h _;simp only[nl,Tp.sz];have h:s.size<=K:=h;omega
 | var s =>
  intro x _ h hl;have h:s.size<=K:=h;simp only[nl,Tp.sz] at hl⊢;split
  ·rename_i hm;have:=zQO (List.mem_reverse.2 (memb_iff.1 hm));rw[List.length_reverse] at this;have:=wO 7 (ixN x.reverse s) (by omega) (by decide);rw[ByteArray.size_append];show 1+_+3<=_;omega
  ·rw[ByteArray.size_append];show 1+_+3<=_;omega
 | app a b iha ihb =>
  intro x h hs hl;simp only[Tp.sz] at hl;have h1:=iha x h.1 hs.1 (by omega);have h2:=ihb x h.2 hs.2 (by omega);simp only[nl,ByteArray.size_append,Tp.sz,Nat.mul_add];show 1+_+1+_+1+3<=_;omega
 | all s a ih =>
  intro x h hs hl;simp only[Tp.sz] at hl;have h1:=ih (x++[s]) h.2 hs (by simp;omega);simp only[nl,ByteArray.size_append,Tp.sz,Nat.mul_add];show 1+_+1+3<=_;omega
theorem zK4 {a b:Tp} {K:Nat} (ha:TkX a) (hb:TkX b) (sa:Shn K a) (sb:Shn K b) (ka:a.sz<=800000) (kb:b.sz<=800000) (hK:K<=1000000000000):zC Tryz.prog yL [eTy a,eTy b] (.sb (smb a b [] [])):=by
 have h1:=zQ8 a [] ha sa (by simp;omega);have h2:=zQ8 b [] hb sb (by simp;omega);have d1:=jJ a;have d2:=jJ b;have m1:(K+20)*a.sz<=1000000000020*800000:=Nat.mul_le_mul (by omega) ka;have m2:(K+20)*b.sz<=1000000000020*800000:=Nat.mul_le_mul (by omega) kb;have h:=zLD ha.nm hb.nm (by omega) (by omega) (by omega) (by omega);have e:decide (nl a []=nl b [])=smb a b [] []:=by
  have:=zZT ha hb;by_cases q:nl a []=nl b []
  ·rw[decide_eq_true q,this.1 q]
  ·rw[decide_eq_false q];cases hs:smb a b [] [] with
   | true=>exact absurd (this.2 hs) q
   | false=>rfl
 rw[e] at h;exact h
def Gs (t:Tp):Prop:=t.sz<=700/\TkX t/\Shn 1000 t
structure WOk (B:Nat) (w:Wd):Prop where
 fl:w.fs.length<=1000
 fo:∀f∈w.fs,FdOk f/\f.t.sz<=500/\f.ar<=100/\Gs f.t
 el:w.env.length<=B
 pl:w.ps.length<=200
 pv:∀p∈w.ps,∃x,p.2 = .var x
 dl:w.deep<100
theorem zX1 (t:Tp):(fv t).length<=t.sz:=zF0 t
theorem qI {t:Tp} {ps:Env'} (h:t.sz+(caught ps).length<=1000) (hp:ps.length<=1000) (hd:∀p∈ps,dp p.2<1000000) (hs:t.sz<=700):FitX 1000 t ps:=by
 have h1:=zX1 t;have h2:=jJ t;refine⟨⟨fv t++caught ps,by rw[List.length_append];omega,fun s hs=>List.mem_append_left _ hs,fun p hp s hs=>List.mem_append_right _ (List.mem_flatMap.2 ⟨p,hp,hs⟩)⟩,by omega,by omega,hd⟩
theorem zFF:∀{ps:Env'},(∀p∈ps,∃x,p.2 = .var x)->(caught ps).length<=ps.length
 | [],_=>Nat.le_refl _
 | p::r,h=>by
  obtain⟨x,e⟩:=h p (by simp);have:=zFF (ps:=r) fun q hq=>h q (by simp[hq]);show (fv p.2++caught r).length<=_;rw[e,List.length_append];simp[fv];omega
theorem WOk.fit {B:Nat} {w:Wd} (h:WOk B w) {t:Tp} (ht:t.sz<=500):FitX 1000 t w.ps:=by
 have h1:=zFF h.pv;have h2:=h.pl;exact qI (by omega) (by omega) (fun p hp=>by obtain⟨x,e⟩:=h.pv p hp;rw[e];simp[dp]) (by omega)
theorem zYG {a u:Tp} {s:ByteArray} (ha:a.sz<=500) (hu:u.sz<=500):FitX 1000 a [(s,u)]:=by
 have h1:=zX1 u;have h2:=jJ u;refine qI ?_ (by simp) (fun p hp=>?_) (by omega)
 ·show a.sz+(fv u++[]).length<=_;rw[List.append_nil];omega
 ·rw[List.mem_singleton.1 hp];show dp u<_;omega
theorem zXL:∀t:Tp,((zI t).map Tp.sz).sum<=t.sz:=by
 intro t;induction t with
 | app x b ih _=>simp only[zI,List.map_cons,List.sum_cons,Tp.sz];omega
 | _=>simp[zI]
theorem zH3:∀(vs:List ByteArray) (l:List Tp),(caught (vs.zip l)).length<=(l.map Tp.sz).sum
 | [],l=>by simp[caught]
 | v::vs,[]=>by simp[caught]
 | v::vs,t::l=>by
  have h1:=zH3 vs l;have h2:=zX1 t;show (fv t++caught (vs.zip l)).length<=_;rw[List.length_append,List.map_cons,List.sum_cons];omega
theorem zSI {x t:Tp} {vs:List ByteArray} (hx:x.sz<=500) (ht:t.sz<=500):FitX 1000 x (bys vs t):=by
 have h1:=zH3 vs (zI t).reverse;have h2:=zXL t;have h3:=zBG t;have h4:((zI t).reverse.map Tp.sz).sum=((zI t).map Tp.sz).sum:=by rw[List.map_reverse,List.sum_reverse]
 refine qI (by show x.sz+(caught (vs.zip (zI t).reverse)).length<=_;omega) ?_ (fun p hp=>?_) (by omega)
 ·show (vs.zip (zI t).reverse).length<=_;rw[List.length_zip,List.length_reverse];omega
 ·have hm:p.2∈(zI t).reverse:=(List.of_mem_zip hp).2;have:=(zUS p.2 (List.mem_reverse.1 hm)).2.1;have:=jJ t;omega
abbrev fnT (a b:Tp):Tp := .app (.app (.con arrow) a) b
inductive TyW (own:Nat->ByteArray) (B:Nat):Wd->Cr->Tp->Prop
 | var {w:Wd} {n:Int} {s:ByteArray} {t0 t:Tp} (hw:WOk B w) (h:zAP w.env s=some t) (hs:Gs t):TyW own B w (.node 1 n s t0 .nil) t
 | con {w:Wd} {n:Int} {s:ByteArray} {t0:Tp} {f:Fd} (hw:WOk B w) (h:wB w.fs s=some f):TyW own B w (.node 2 n s t0 .nil) f.t
 | int {w:Wd} {n:Int} {s:ByteArray} {t0:Tp} (hw:WOk B w):TyW own B w (.node 3 n s t0 .nil) (.con xI)
 | app {w:Wd} {n:Int} {s:ByteArray} {t0 u u' t:Tp} {p q:Cr} (hw:WOk B w) (h1:TyW own B w p (.app (.app (.con arrow) u) t)) (h2:TyW own B w q u') (h:smb u u' [] []=true) (hs:u.sz<=1000):TyW own B w (.node 4 n s t0 (.kid p (.kid q .nil))) t
 | lam {w:Wd} {n:Int} {s:ByteArray} {t u:Tp} {p:Cr} (hw:WOk B w) (ht:t.sz<=500) (h:TyW own B (w.more [(s,w.mean t)]) p u) (hr:Gs (fnT (w.mean t) u)):TyW own B w (.node 5 n s t (.kid p .nil)) (.app (.app (.con arrow) (w.mean t)) u)
 | tapp {w:Wd} {n:Int} {s x:ByteArray} {t a:Tp} {p:Cr} (hw:WOk B w) (ht:t.sz<=500) (hm:(w.mean t).sz<=500) (ha:a.sz<=500) (h:TyW own B w p (.all x a)) (hr:Gs (sub a [(x,w.mean t)])):TyW own B w (.node 6 n s t (.kid p .nil)) (sub a [(x,w.mean t)])
 | tlam {w:Wd} {n:Int} {s:ByteArray} {t u:Tp} {p:Cr} (hw:WOk B w) (h:TyW own B (w.all s (own w.deep)) p u) (hr:Gs (.all (own w.deep) u)):TyW own B w (.node 7 n s t (.kid p .nil)) (.all (own w.deep) u)
 | bind {w:Wd} {n:Int} {s x:ByteArray} {t0 t u v:Tp} {p q:Cr} (hw:WOk B w) (ht:t.sz<=500) (h1:TyW own B (w.more [(x,w.mean t)]) q u) (h:smb u (w.mean t) [] []=true) (hs:u.sz<=1000) (h2:TyW own B (w.more [(x,w.mean t)]) p v):TyW own B w (.node 8 n s t0 (.kid p (.bind x t q .nil))) v
 | case {w:Wd} {n:Int} {s:ByteArray} {t u:Tp} {p g:Cr} (fW:Al->Wd) (fu:Al->Tp) (hw:WOk B w) (ht:t.sz<=500) (hu:u.sz<=500) (hk:g.kids=[]) (hl:g.alts.length<=1000) (h1:TyW own B w p u) (h2:∀a∈g.alts,zQ3 w u a=some (fW a)/\a.2.1.length<=100) (h3:∀a∈g.alts,TyW own B (fW a) a.2.2 (fu a)) (h4:∀a∈g.alts,smb (fu a) (w.mean t) [] []=true/\(fu a).sz<=1000) (hr:Gs (w.mean t)):TyW own B w (.node 9 n s t (.kid p g)) (w.mean t)
 | prim {w:Wd} {n:Int} {s:ByteArray} {t0 u v r:Tp} {p q:Cr} (hw:WOk B w) (h1:TyW own B w p u) (h2:TyW own B w q v) (hu:smb u (.con xI) [] []=true/\u.sz<=1000) (hv:smb v (.con xI) [] []=true/\v.sz<=1000) (hr:zN7 s=some r):TyW own B w (.node 10 n s t0 (.kid p (.kid q .nil))) r
 | fail {w:Wd} {n:Int} {s:ByteArray} {t:Tp} (hw:WOk B w) (ht:t.sz<=500) (hr:Gs (w.mean t)):TyW own B w (.node 11 n s t .nil) (w.mean t)
theorem gs_int:Gs (.con xI):=⟨by decide,⟨by decide,_,_,rfl,by decide⟩,Nat.le_of_ble_eq_true rfl⟩
theorem zVU {w:Wd} {u t:Tp} {p:Cr} (h1:OfS w p t) (h2:smb t u [] []=true) (h3:t.sz<=1000):IsT w u p:=⟨t,h1,h2,by have:=jJ t;omega⟩
theorem z0K {B:Nat} (hB:B<=60000) {w w':Wd} {t:Tp} {a:Al} (hw:WOk B w) (ht:t.sz<=500) (ha:a.2.1.length<=100) (h:zQ3 w t a=some w'):TkS w t a w':=by
 have hd:dp t<1000000000:=by have:=jJ t;omega
 have hsp:=zBG t;unfold zQ3 at h;split at h
 ·rename_i h3;cases h;exact zSO w t h3
 ·split at h
  ·rename_i h2;split at h
   ·rename_i hs;cases h;exact z0R h2 hd hs
   ·cases h
  ·split at h
   ·rename_i h1;split at h
    ·cases h
    ·rename_i f hf;have hfm:f∈w.fs:=List.mem_of_find?_eq_some hf;split at h
     ·cases h
     ·rename_i l n vs hsh;split at h
      ·rename_i hc;cases h
       have hfo:=hw.fo f hfm;refine zXM (K:=1000) h1 (by have:=hw.fl;omega) hf hsh hfo.1.dp hfo.1.ar (by omega) hc (fun x hx=>?_) (by have:=hw.el;omega);refine zSI ?_ ht;unfold yQ at hsh;split at hsh
       ·cases hsh
       ·rename_i vs' t0 hA;split at hsh
        ·cases hsh
        ·rename_i l' u hF;split at hsh
         ·cases hsh
          have h1:=zCZ _ _ _ _ hA;have h2:=(zBH _ _ _ _ hF).2.2 x hx;omega
         ·cases hsh
      ·cases h
   ·cases h
theorem zLW {B:Nat} (hB:B<=60000) {w:Wd} {c:Cr} {t:Tp} (h:TyW zG7 B w c t):OfS w c t:=by
 induction h with
 | var hw h hs=>exact jQ (j:=0) (f:=116) rfl rfl rfl ((zFL (by have:=hw.el;omega)).1 _ h)
 | con hw h =>
  obtain⟨i,h1,h2,h3⟩:=zCB h;rw[<-h2];exact jQ (j:=1) (f:=117) rfl rfl rfl (zZF _ _ (by have:=hw.fl;omega) h1 h3)
 | int hw=>exact jQ (j:=2) (f:=118) rfl rfl rfl (zLG _ _)
 | @app w n s t0 u u' t p q hw h1 h2 h hs i1 i2 =>
  exact jQ (j:=3) (f:=119) rfl rfl rfl (zYN (tp := .app (.app (.con arrow) u) t) rfl i1 i2 rfl h (by show dp u<_;have:=jJ u;omega))
 | lam hw ht h hr ih=>exact jQ (j:=4) (f:=120) rfl rfl rfl (zZR rfl (hw.fit ht) (by have:=hw.el;omega) ih)
 | tapp hw ht hm ha h hr ih=>exact jQ (j:=5) (f:=121) rfl rfl rfl (zWD rfl (hw.fit ht) ih (zYG ha hm))
 | tlam hw h hr ih=>exact jQ (j:=6) (f:=122) rfl rfl rfl (zXA rfl hw.dl (by have:=hw.pl;omega) ih)
 | @bind w n s x t0 t u v p q hw ht h1 h hs h2 i1 i2 =>
  refine jQ (j:=7) (f:=123) rfl rfl rfl (zYF (w':=w.more [(x,w.mean t)]) rfl ?_ i2);exact zUN (w:=w) (l:=[(x,t,q)]) (by have:=hw.el;simp;omega) (by simp) (K:=1000) (fun b hb=>by rw[List.mem_singleton.1 hb];exact hw.fit ht) (fun b hb=>by rw[List.mem_singleton.1 hb];exact zVU i1 h hs)
 | @case w n s t u p g fW fu hw ht hu hk hl h1 h2 h3 h4 hr i1 i3 =>
  refine jQ (j:=8) (f:=124) rfl rfl (by simp[Cr.kids,hk]) (zNB (c := .node 9 n s t (.kid p g)) (K:=1000) (by simp[Cr.kids,hk]) i1 (hw.fit ht) (by show g.alts.length<=_;omega) fun a ha=>?_);exact⟨fW a,z0K hB hw hu (h2 a ha).2 (h2 a ha).1,zVU (i3 a ha) (h4 a ha).1 (h4 a ha).2⟩
 | @prim w n s t0 u v r p q hw h1 h2 hu hv hr i1 i2 =>
  refine jQ (j:=9) (f:=125) rfl rfl rfl (zX9 (c := .node 10 n s t0 (.kid p (.kid q .nil))) (by simp[Cr.kids]) (fun x hx=>?_) hr);simp only[Cr.kids,List.mem_cons,List.not_mem_nil,or_false] at hx;rcases hx with rfl|rfl
  ·exact⟨u,i1,hu.1,by have:=jJ u;omega⟩
  ·exact⟨v,i2,hv.1,by have:=jJ v;omega⟩
 | fail hw ht hr=>exact jQ (j:=10) (f:=126) rfl rfl rfl (zR1 _ _ (hw.fit ht))
abbrev sL:ByteArray:=⟨#[76]⟩
abbrev sP:ByteArray:=⟨#[80]⟩
abbrev sN:ByteArray:=⟨#[78]⟩
abbrev sC:ByteArray:=⟨#[67]⟩
abbrev sa:ByteArray:=⟨#[97]⟩
abbrev sb9:ByteArray:=⟨#[98]⟩
abbrev sK:ByteArray:=⟨#[75,64]⟩
abbrev z0M:ByteArray:=⟨#[70,97,108,115,101]⟩
abbrev z1X:ByteArray:=⟨#[84,114,117,101]⟩
abbrev lsT (a:Tp):Tp := .app (.con sL) a
abbrev prT (a b:Tp):Tp := .app (.app (.con sP) a) b
def zX2:List Fd:=[
 ⟨sN,0,2,0,.all sa (lsT (.var sa))⟩,
 ⟨sC,1,2,2,.all sa (fnT (.var sa) (fnT (lsT (.var sa)) (lsT (.var sa))))⟩,
 ⟨sP,0,1,2,.all sa (.all sb9 (fnT (.var sa) (fnT (.var sb9) (prT (.var sa) (.var sb9)))))⟩,
 ⟨z0M,0,2,0,.con qU⟩,
 ⟨z1X,1,2,0,.con qU⟩,
 ⟨sK,0,1,2,.all sa (fnT (.var sa) (fnT (.all sb9 (fnT (.var sb9) (.var sb9))) (.app (.con sK) (.var sa))))⟩]
theorem zDB {t:Tp} (h:t.sz<=500):TyS t :=
 ⟨jZ t.sz t (Nat.le_refl _) 1000 [] (qI (by show t.sz+0<=_;omega) (by simp) (fun p hp=>by cases hp) (by omega))⟩
theorem zPC:TyS .no:=zDB (by decide)
theorem zYP (a:Tp):smb a a [] []=true:=zOA rfl
structure z2X (own:Nat->ByteArray):Prop where
 inj:∀i j,own i=own j->i=j
 nb:∀i,own i≠sb9
 wd:∀k,k<100->Wrd (own k)/\(own k).size<=10
structure VOk (N:Nat) (v:V9):Prop where
 tL:∀p∈v.L,zEU v.vars p.2/\p.2.sz<=300
 ll:v.L.length<=N
 dd:v.deep<=N
 vl:v.vars.length<=20
 vn:∀x∈v.vars,Wrd x/\x.size<=10
theorem zEJ {vars:List ByteArray} (hv:∀x∈vars,Wrd x/\x.size<=10):∀{t:Tp},zEU vars t->TkX t/\Shn 10 t
 | .app a b,h=>⟨⟨(zEJ hv h.1).1,(zEJ hv h.2).1⟩,(zEJ hv h.1).2,(zEJ hv h.2).2⟩
 | .var s,h=>hv s h
 | .con s,h=>by
  have h:s∈zB6:=h;simp only[zB6,List.mem_cons,List.not_mem_nil,or_false] at h;rcases h with rfl|rfl|rfl|rfl|rfl<;>exact⟨⟨by decide,_,_,rfl,by decide⟩,Nat.le_of_ble_eq_true rfl⟩
structure Cmp (own:Nat->ByteArray) (v:V9) (w:Wd):Prop where
 fs:w.fs=zX2
 env:∀s t,s≠.empty->zAP v.L s=some t->zAP w.env s=some (w.mean t)
 el:w.env.length<=10+v.L.length
 pl:w.ps.length<=10+v.vars.length
 dl:w.deep<=10+v.vars.length
 pv:∀p∈w.ps,∃k,p.2 = .var (own k)/\k<w.deep
 vars:∀x∈v.vars,∃k,look x w.ps=some (.var (own k))/\k<w.deep
theorem zA3 {K L:Nat} (h:K<=L):∀{t:Tp},Shn K t->Shn L t
 | .app a b,q=>⟨zA3 h q.1,zA3 h q.2⟩
 | .all s a,q=>zA3 (t:=a) h q
 | .con _,q=>Nat.le_trans q h
 | .var _,q=>Nat.le_trans q h
 | .mt _,_=>trivial
 | .no,_=>trivial
theorem zSQ {u t:Tp} (hu:Gs u) (ht:Gs t) (h:(fnT u t).sz<=700):Gs (fnT u t):=⟨h,⟨⟨⟨by decide,_,_,rfl,by decide⟩,hu.2.1⟩,ht.2.1⟩,⟨Nat.le_of_ble_eq_true rfl,hu.2.2⟩,ht.2.2⟩
structure Mkd (v:V9) (t:Tp) (c:Cr):Prop where
 ty:∀own,z2X own->∀w,Cmp own v w->TyW own 50000 w c (w.mean t)
 gd:Gd c
theorem zVT (s:ByteArray):Gd (vr s):=⟨rfl,by simp[Cr.Ok,Cr.kids,Cr.binds,Cr.alts,Cr.isN,Cr.nk],trivial,zPC,trivial⟩
theorem zYL {f n:Int} {s:ByteArray} {t:Tp} (hf:f=2∨f=3∨f=11) (ht:TyS t):Gd (.node f n s t .nil) :=
 ⟨rfl,by rcases hf with rfl|rfl|rfl<;>simp[Cr.Ok,Cr.kids,Cr.binds,Cr.alts,Cr.isN,Cr.nk],trivial,ht,trivial⟩
theorem z1Q {f n:Int} {s:ByteArray} {t:Tp} {p:Cr} (hf:f=5∨f=6) (ht:TyS t) (hp:Gd p):Gd (.node f n s t (.kid p .nil)) :=
 ⟨rfl,by rcases hf with rfl|rfl<;>simp[Cr.Ok,Cr.kids,Cr.binds,Cr.alts,Cr.isN,Cr.nk,hp.n,hp.ok]<;>exact hp.n,⟨hp.few,trivial⟩,ht,hp.ty,trivial⟩
theorem z0Z {n:Int} {s:ByteArray} {p:Cr} (hp:Gd p):Gd (.node 7 n s .no (.kid p .nil)) :=
 ⟨rfl,by simp[Cr.Ok,Cr.kids,Cr.binds,Cr.alts,Cr.isN,Cr.nk,hp.n,hp.ok];exact hp.n,⟨hp.few,trivial⟩,zPC,hp.ty,trivial⟩
theorem zSX (w:Wd):w.more []=w:=by cases w;simp[Wd.more]
section
variable {N:Nat} {v:V9} (hv:VOk N v) (hN:N<=10000)
include hv hN
end
end Go.Proofs.YtdmbahepaglcbaaGreatDoor
