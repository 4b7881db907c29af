/- A part of the proof of a given statement: contracts of functions of the program, under no condition but those that each states. -/
import Derived.Test.YtdmbahepaglcbaaGreatDoorS1
import Derived.Test.YtdmbahepaglcbaaGreatDoorFpE
set_option linter.unusedSimpArgs false
set_option linter.unusedVariables false
namespace Go.Proofs.YtdmbahepaglcbaaGreatDoor
open Go Fp
set_option maxRecDepth 10000
theorem zQI {l:List Tp} {k:Nat} (h:k<l.length):(yA l)[k]? = some (eTy l[k]):=by
 simp[yA,h]
theorem zN8 (l:List Tp):Uni 4 (yA l):=fun a ha=>by
 obtain⟨x,_,rfl⟩:=List.mem_map.1 ha;rfl
theorem zd6 {l:List Tp} {k:Nat} (h:k<l.length):yA (l.take k)++[eTy l[k]]=yA (l.take (k+1)):=by
 rw[List.take_succ_eq_append_getElem h];unfold yA;rw[List.map_append];rfl
theorem zK8 (t:Tp):t.args.length<=2:=by cases t<;>simp[Tp.args]
theorem yH {n:Nat} (h:n<9223372036854775808):IntKind.i64.wrap (n:Int)=n:=by
 simp[IntKind.wrap,IntKind.signed,IntKind.bits,Int.bmod];omega
theorem wrap_succ {k:Nat} (h:k+1<9223372036854775808):IntKind.i64.wrap ((k:Int)+1)=((k+1:Nat):Int):=by
 have:=yH h;simpa using this
theorem zLQ (a b:Tp):zF Tryz.prog zIT [eTy a,eTy b] (eTy (.app a b)):=by
 refine zD ttok mixed Tryz.func59 rfl (by rfl) (Nat.le_of_ble_eq_true rfl) (by kernel_rfl) ?_;exact rfl
theorem zNF (t:Tp) (ih:∀a∈t.args,zF Tryz.prog zEP [eTy a] (eTy a)):zF Tryz.prog zEP [eTy t] (eTy t):=by
 refine zD ttok mixed Tryz.func67 rfl (by rfl) (Nat.le_of_ble_eq_true rfl) (by kernel_rfl) ?_;refine⟨{k:Nat // k<=t.args.length},fun k=>{vs:=[(1,.box 0 (eTy t)),(2,.box 0 (eTy .no)),(3,.v (.sl (yA (t.args.take k.1)))),(7,.v (.sl t.eArgs)),(8,.v (.lit (.int .i64 (t.eArgs.length:Nat)))),(9,.v (.lit (.int .i64 (k.1:Nat))))],ow:=[(3,0,5)]},
  fun k=>t.args.length-k.1,⟨0,Nat.zero_le _⟩,⟨⟨rfl,rfl,rfl,rfl,rfl,rfl,trivial⟩,⟨trivial,trivial⟩,rfl⟩,?_⟩
 rintro⟨k,hk⟩;have hlen:t.eArgs.length=t.args.length:=by rw[t.eArgs_eq];simp[yA]
 have h2:=zK8 t;refine⟨fun h=>?_,fun h=>?_⟩
 ·have h:k<t.args.length:=by simp[hlen] at h;omega
  refine⟨eTy t.args[k],by simp,by rw[t.eArgs_eq];exact zQI h,rfl,?_⟩;refine .inl ⟨_,ih _ (List.getElem_mem h),?_⟩;refine⟨by simp[yA];omega,zN8 _,zN8 [_],?_⟩;refine⟨⟨k+1,h⟩,by simp;omega,⟨rfl,rfl,?_,rfl,rfl,?_,trivial⟩,⟨rfl,trivial⟩,rfl⟩
  ·exact congrArg (fun l=>SV.v (AV.sl l)) (zd6 h)
  ·exact congrArg (fun l=>SV.v (AV.lit (Value.int .i64 l))) (wrap_succ (k:=k) (by omega))
 ·have h:k=t.args.length:=by simp[hlen] at h;omega
  subst h;have:yA (t.args.take t.args.length)=t.eArgs:=by rw[List.take_length,t.eArgs_eq]
  show AV.agg [_,_,_,AV.sl (yA (t.args.take t.args.length))]=_;rw[this];rfl
theorem zBE (t:Tp):zF Tryz.prog zEP [eTy t] (eTy t):=by
 induction t with
 | app a b iha ihb=>exact zNF _ (by simp[Tp.args];exact⟨iha,ihb⟩)
 | all s a ih=>exact zNF _ (by simp[Tp.args];exact ih)
 | _=>exact zNF _ (by simp[Tp.args])
theorem wrap_in {n:Int} (h:InR n):IntKind.i64.wrap n=n:=by
 unfold InR at h;simp[IntKind.wrap,IntKind.signed,IntKind.bits];omega
theorem zEK {l:List ByteArray} {k:Nat} (h:k<l.length):(eSs l)[k]? = some (.lit (.string l[k])):=by simp[eSs,h]
theorem zcN (l:List Int):Uni 1 (eIs l):=fun a ha=>by obtain⟨x,_,rfl⟩:=List.mem_map.1 ha;rfl
theorem yP (l:List ByteArray):Uni 1 (eSs l):=fun a ha=>by obtain⟨x,_,rfl⟩:=List.mem_map.1 ha;rfl
theorem jF {x:AV} {n:Nat} (h:x.cells.length=n):Uni n [x]:=fun a ha=>by simp at ha;subst ha;exact h
theorem zRQ (n:Nat):Uni n []:=fun a ha=>by simp at ha
theorem jS {n m:Int} (hn:InR n) (hm:0<m) (hm2:m<9223372036854775808):∃r:Nat,(r:Int)<m/\zF Tryz.prog zFS [.lit (.int .i64 n),.lit (.int .i64 m)] (.lit (.int .i64 (r:Nat))):=by
 have hn':=hn;unfold InR at hn;by_cases h0:n<0
 ·have e1:IntKind.i64.wrap (n+1)=n+1:=wrap_in (by unfold InR;omega);have e2:IntKind.i64.wrap (0-(n+1)) = -(n+1):=by rw[wrap_in (by unfold InR;omega)];omega
  refine⟨((-(n+1)).tmod m).toNat,?_,?_⟩
  ·have:=Int.tmod_nonneg m (show 0<=-(n+1) by omega);have:=Int.tmod_lt_of_pos (-(n+1)) hm;omega
  ·refine zD ttok mixed Tryz.func16 rfl (by rfl) (Nat.le_of_ble_eq_true rfl) (by kernel_rfl) ?_;refine⟨fun h=>?_,fun h=>by simp at h;omega⟩;refine⟨by omega,?_⟩
   conv=>whnf
   have:=Int.tmod_nonneg m (show 0<=-(n+1) by omega);show AV.lit (.int .i64 (Int.tmod (IntKind.i64.wrap (0-IntKind.i64.wrap (n+1))) m))=_;rw[e1,e2]
   congr 2;omega
 ·refine⟨(n.tmod m).toNat,?_,?_⟩
  ·have:=Int.tmod_nonneg m (show 0<=n by omega);have:=Int.tmod_lt_of_pos n hm;omega
  ·refine zD ttok mixed Tryz.func16 rfl (by rfl) (Nat.le_of_ble_eq_true rfl) (by kernel_rfl) ?_;refine⟨fun h=>by simp at h;omega,fun h=>?_⟩;refine⟨by omega,?_⟩
   conv=>whnf
   have:=Int.tmod_nonneg m (show 0<=n by omega);show AV.lit (.int .i64 (Int.tmod n m))=_
   congr 2;omega
def xY:List ByteArray:=[⟨#[97]⟩,⟨#[98]⟩,⟨#[99]⟩,⟨#[120]⟩]
def jD:List ByteArray:=[⟨#[73,110,116]⟩,⟨#[66,111,111,108]⟩,⟨#[76]⟩,⟨#[80]⟩,⟨#[70]⟩,⟨#[45,62]⟩]
def good:Tp->Prop
 | .app a b=>good a/\good b
 | .all s a=>s∈xY/\good a
 | .var s=>s∈xY
 | .con s=>s∈jD
 | .mt n => ∃k:Nat,n=(k:Int)/\k<10
 | .no=>False
theorem zRF {n:Int} (hn:InR n):∃s,s∈xY/\zF Tryz.prog zAE [.lit (.int .i64 n)] (.lit (.string s)):=by
 obtain⟨r,hr,hc⟩:=jS hn (m:=4) (by decide) (by decide);refine⟨[⟨#[97]⟩,⟨#[98]⟩,⟨#[99]⟩,⟨#[120]⟩].getD r .empty,?_,?_⟩
 ·match r,hr with
  | 0,_|1,_|2,_|3,_=>simp[xY]
  | n+4,h=>omega
 ·refine zD ttok mixed Tryz.func23 rfl (by rfl) (Nat.le_of_ble_eq_true rfl) (by kernel_rfl) ?_;refine .inl ⟨_,hc,?_⟩
  match r,hr with
  | 0,_|1,_|2,_|3,_=>exact⟨_,by decide,rfl,rfl,rfl⟩
  | n+4,h=>omega
theorem zc6 {n:Int} (hn:InR n):∃s,s∈jD/\zF Tryz.prog zI7 [.lit (.int .i64 n)] (.lit (.string s)):=by
 obtain⟨r,hr,hc⟩:=jS hn (m:=6) (by decide) (by decide);refine⟨[⟨#[73,110,116]⟩,⟨#[66,111,111,108]⟩,⟨#[76]⟩,⟨#[80]⟩,⟨#[70]⟩,⟨#[45,62]⟩].getD r .empty,?_,?_⟩
 ·match r,hr with
  | 0,_|1,_|2,_|3,_|4,_|5,_=>simp[jD]
  | n+6,h=>omega
 ·refine zD ttok mixed Tryz.func103 rfl (by rfl) (Nat.le_of_ble_eq_true rfl) (by kernel_rfl) ?_;refine .inl ⟨_,hc,?_⟩
  match r,hr with
  | 0,_|1,_|2,_|3,_|4,_|5,_=>exact⟨_,by decide,rfl,rfl,rfl⟩
  | n+6,h=>omega
theorem zXV {l:List Int} {n:Nat} (hl:l.length<9223372036854775808) (hn:n<=4294967296):zF Tryz.prog zHS [.sl (eIs l),.lit (.int .i64 (n:Nat))] (.sl (eIs (l.take n))):=by
 refine zD ttok mixed Tryz.func36 rfl (by rfl) (Nat.le_of_ble_eq_true rfl) (by kernel_rfl) ?_;have e1:((eIs l).length:Int)=l.length:=by simp[eIs]
 refine⟨by decide,?_,?_,.inl rfl,?_⟩
 ·show (0:Int)<=(if ((n:Nat):Int)<((eIs l).length:Int) then _ else _);split<;>omega
 ·show (if ((n:Nat):Int)<((eIs l).length:Int) then _ else _:Int)<=_;split<;>omega
 ·have e2:((eIs l).take (if ((n:Nat):Int)<((eIs l).length:Int) then ((n:Nat):Int) else ((eIs l).length:Int)).toNat).drop (Int.toNat 0)=eIs (l.take n):=by
   rw[e1];unfold eIs;rw[<-List.map_take];split
   ·simp
   ·rw[List.take_of_length_le (by omega),List.take_of_length_le (by omega)];simp
  refine⟨?_,zRQ _,?_,?_⟩
  ·show 0+(List.drop _ _).length<=_;rw[e2];simp[eIs];omega
  ·show Uni 1 (List.drop _ _);rw[e2];exact zcN _
  ·show AV.sl ([]++List.drop _ _)=_;rw[List.nil_append,e2]
theorem jB (a b:Tp):zF Tryz.prog zJI [eTy a,eTy b] (eTy (.app (.app (.con arrow) a) b)):=by
 refine zD ttok mixed Tryz.func28 rfl (by rfl) (Nat.le_of_ble_eq_true rfl) (by kernel_rfl) ?_;refine .inl ⟨_,zLQ (.con arrow) a,?_⟩;refine .inl ⟨_,zLQ (.app (.con arrow) a) b,?_⟩;exact rfl
set_option maxHeartbeats 4000000
def bOut (K:Nat) (al:Bool) (m:Int) (s1 s2:ByteArray) (a b:Tp) (l rest last:List Int):Tp×List Int :=
 if K<2 then (.var s1,l) else if K<3 then (.mt m,l) else if K<5 then (.con s2,l) else if K=9/\al=true then (.all s1 a,rest) else if K<8 then (.app (.app (.con arrow) a) b,last) else (.app a b,last)
theorem z4S (N:Nat):∀(l:List Int) (d:Nat) (al:Bool),l.length=N->N<1000->(∀x∈l,InR x)->d+N<10000 ->
  ∃t rest,zF Tryz.prog zGR [.sl (eIs l),.lit (.int .i64 (d:Nat)),.sb al] (.tup [eTy t,.sl (eIs rest)])/\rest.length<=N/\(∀x∈rest,InR x)/\good t/\t.sz+8*rest.length<=8*N+1:=by
 induction N using Nat.strongRecOn with
 | _ N ih =>
  intro l d al hl hN hr hd;cases l with
  | nil =>
   refine⟨.con ⟨#[73,110,116]⟩,[],?_,by simp,by simp,show _∈jD by simp[jD],by simp at hl⊢;subst hl;decide⟩;refine zD ttok mixed Tryz.func58 rfl (by rfl) (Nat.le_of_ble_eq_true rfl) (by kernel_rfl) ?_;refine⟨fun h=>rfl,fun h=>by simp[eIs] at h⟩
  | cons x l =>
   simp at hl;have hx:=hr x (by simp);have hr':∀y∈l,InR y:=fun y hy=>hr y (by simp[hy]);obtain⟨r,hrlt,hc⟩:=jS hx (m:=40) (by decide) (by decide);obtain⟨a,rest,ha,ha1,ha2,ha3,ha4⟩:=ih l.length (by omega) l (d+1) al rfl (by omega) hr' (by omega);obtain⟨b,last,hb,hb1,hb2,hb3,hb4⟩:=ih rest.length (by omega) rest (d+1) al rfl (by omega) ha2 (by omega);have e10:((r:Int).tdiv 10)=((r / 10:Nat):Int):=by simp
   have e5:((r:Int).tdiv 5)=((r / 5:Nat):Int):=by simp
   have m10:((r:Int).tmod 10)=((r % 10:Nat):Int):=rfl;have m5:((r:Int).tmod 5)=((r % 5:Nat):Int):=rfl;obtain⟨s1,hs1,hn⟩:=zRF (n:=((r / 10:Nat):Int)) (by unfold InR;omega);obtain⟨s2,hs2,hcn⟩:=zc6 (n:=((r / 5:Nat):Int)) (by unfold InR;omega);have w10:IntKind.i64.wrap ((r:Int).tdiv 10)=((r / 10:Nat):Int):=by rw[e10];exact yH (by omega)
   have w5:IntKind.i64.wrap ((r:Int).tdiv 5)=((r / 5:Nat):Int):=by rw[e5];exact yH (by omega)
   have w1:IntKind.i64.wrap (1+IntKind.i64.wrap ((r:Int).tdiv 10))=((1+r / 10:Nat):Int):=by rw[w10,show (1:Int)+((r / 10:Nat):Int)=((1+r / 10:Nat):Int) by omega];exact yH (by omega)
   have wd:IntKind.i64.wrap ((d:Int)+1)=((d+1:Nat):Int):=wrap_succ (by omega);have hdr:(List.drop (Int.toNat 1) (List.take (Int.toNat ((eIs (x::l)).length:Nat)) (eIs (x::l))))=eIs l:=by simp[eIs];exact List.take_of_length_le (by simp)
   rw[<-w10] at hn;rw[<-w5] at hcn;rw[<-wd] at ha hb;rw[<-hdr] at ha;obtain⟨K,hK⟩:∃K,K=if 4<d then r % 5 else r % 10:=⟨_,rfl⟩
   have hK10:K<10:=by rw[hK];split<;>omega
   obtain⟨out,hout⟩:∃out,out=bOut K al ((1+r / 10:Nat):Int) s1 s2 a b l rest last:=⟨_,rfl⟩
   refine⟨out.1,out.2,?_,?_⟩
   ·refine zD ttok mixed Tryz.func58 rfl (by rfl) (Nat.le_of_ble_eq_true rfl) (by kernel_rfl) ?_;refine⟨fun h=>by simp[eIs] at h;omega,fun _=>?_⟩;refine⟨_,by decide,rfl,rfl,?_⟩;refine .inl ⟨_,hc,?_⟩;refine⟨by decide,?_,Int.le_refl _,.inr (zcN _),?_⟩
    ·show (1:Int)<=((eIs (x::l)).length:Nat);simp[eIs];omega
    refine⟨by decide,?_⟩;refine⟨fun h4=>?_,fun h4=>?_⟩
    ·have h4:4<d:=by simp at h4;omega
     rw[if_pos h4] at hK;refine⟨by decide,?_⟩;refine⟨fun h=>?_,fun h=>?_⟩
     ·have h:K<2:=by simp at h;omega
      refine⟨by decide,.inl ⟨_,hn,?_⟩⟩;rw[hout,bOut,if_pos h,<-hdr];exact rfl
     have h2:¬K<2:=by simp at h;omega
     refine⟨fun h=>?_,fun h=>?_⟩
     ·have h:K<3:=by simp at h;omega
      refine⟨by decide,?_⟩;rw[hout,bOut,if_neg h2,if_pos h,<-w1,<-hdr];exact rfl
     have h3:¬K<3:=by simp at h;omega
     refine⟨fun h=>?_,fun h=>?_⟩
     ·have h:K<5:=by simp at h;omega
      refine⟨by decide,.inl ⟨_,hcn,?_⟩⟩;rw[hout,bOut,if_neg h2,if_neg h3,if_pos h,<-hdr];exact rfl
     ·simp at h;omega
    ·have h4:¬4<d:=by simp at h4;omega
     rw[if_neg h4] at hK;refine⟨fun h=>?_,fun h=>?_⟩
     ·have h:K<2:=by simp at h;omega
      refine⟨by decide,.inl ⟨_,hn,?_⟩⟩;rw[hout,bOut,if_pos h,<-hdr];exact rfl
     have h2:¬K<2:=by simp at h;omega
     refine⟨fun h=>?_,fun h=>?_⟩
     ·have h:K<3:=by simp at h;omega
      refine⟨by decide,?_⟩;rw[hout,bOut,if_neg h2,if_pos h,<-w1,<-hdr];exact rfl
     have h3:¬K<3:=by simp at h;omega
     refine⟨fun h=>?_,fun h=>?_⟩
     ·have h:K<5:=by simp at h;omega
      refine⟨by decide,.inl ⟨_,hcn,?_⟩⟩;rw[hout,bOut,if_neg h2,if_neg h3,if_pos h,<-hdr];exact rfl
     have h5:¬K<5:=by simp at h;omega
     refine .inl ⟨_,ha,?_⟩;have fin:(Go.Proofs.YtdmbahepaglcbaaGreatDoor.bOut K al ((1+r / 10:Nat):Int) s1 s2 a b l rest last)=(if K=9/\al=true then (.all s1 a,rest) else if K<8 then (.app (.app (.con arrow) a) b,last) else (.app a b,last)):=by
      rw[bOut,if_neg h2,if_neg h3,if_neg h5]
     refine⟨fun h=>?_,fun h=>?_⟩
     ·have h9:K=9:=by simp at h;omega
      refine⟨fun hal=>?_,fun hal=>?_⟩
      ·refine⟨by decide,.inl ⟨_,hn,?_⟩⟩;rw[hout,fin,if_pos ⟨h9,hal⟩];exact rfl
      ·refine .inl ⟨_,hb,?_⟩;refine⟨fun h=>by simp at h;omega,fun h=>?_⟩;refine .inl ⟨_,zLQ a b,?_⟩;rw[hout,fin,if_neg (by rw[hal];simp),if_neg (by omega)];exact rfl
     ·have h9:¬K=9:=by simp at h;omega
      refine .inl ⟨_,hb,?_⟩;rw[hout,fin,if_neg (fun h=>h9 h.1)];refine⟨fun h=>?_,fun h=>?_⟩
      ·rw[if_pos (by simp at h;omega)];refine .inl ⟨_,jB a b,?_⟩;exact rfl
      ·rw[if_neg (by simp at h;omega)];refine .inl ⟨_,zLQ a b,?_⟩;exact rfl
   ·rw[hout,bOut];split
    ·exact⟨by simp;omega,hr',hs1,by simp[Tp.sz];omega⟩
    split
    ·exact⟨by simp;omega,hr',⟨1+r / 10,rfl,by omega⟩,by simp[Tp.sz];omega⟩
    split
    ·exact⟨by simp;omega,hr',hs2,by simp[Tp.sz];omega⟩
    split
    ·exact⟨by simp;omega,ha2,⟨hs1,ha3⟩,by simp[Tp.sz];omega⟩
    split
    ·exact⟨by simp;omega,hb2,⟨⟨show _∈jD by simp[jD],ha3⟩,hb3⟩,by simp[Tp.sz];omega⟩
    ·exact⟨by simp;omega,hb2,⟨ha3,hb3⟩,by simp[Tp.sz];omega⟩
theorem za5 {l:List Int} (hl:l.length<9223372036854775808) (hr:∀x∈l,InR x):∃t:Tp,zF Tryz.prog zAA [.sl (eIs l)] (eTy t)/\good t/\t.sz<=193:=by
 obtain⟨t,rest,h1,h2,h3,h4,h5⟩:=z4S (l.take 24).length (l.take 24) 0 true rfl (by simp;omega) (fun x hx=>hr x (List.mem_of_mem_take hx)) (by simp;omega);refine⟨t,?_,h4,by simp at h5;omega⟩;refine zD ttok mixed Tryz.func24 rfl (by rfl) (Nat.le_of_ble_eq_true rfl) (by kernel_rfl) ?_;refine .inl ⟨_,zXV (n:=24) hl (by decide),?_⟩;refine .inl ⟨_,h1,?_⟩;exact rfl
def partsOf:Tp->Tp×Tp×Bool
 | .app (.app f a) b=>if f.form=3/\f.nam=arrow then (a,b,true) else (.no,.no,false)
 | _=>(.no,.no,false)
theorem zBX (t:Tp):zF Tryz.prog zN7 [eTy t] (.tup [eTy (partsOf t).1,eTy (partsOf t).2.1,.sb (partsOf t).2.2]):=by
 refine zD ttok mixed Tryz.func133 rfl (by rfl) (Nat.le_of_ble_eq_true rfl) (by kernel_rfl) ?_;refine⟨fun h=>?_,fun h=>?_⟩
 ·obtain⟨x,y,rfl⟩:=Tp.is_app (t:=t) (by simpa using h);refine⟨_,by decide,rfl,rfl,?_⟩;refine⟨fun h=>?_,fun h=>?_⟩
  ·have hx:¬x.form=4:=by simpa using h
   have e:partsOf (.app x y)=(.no,.no,false):=by cases x<;>first|rfl|exact absurd rfl hx
   rw[e];exact rfl
  ·obtain⟨f,z,rfl⟩:=Tp.is_app (t:=x) (by simpa using h);refine⟨_,by decide,rfl,rfl,?_⟩;refine⟨_,by decide,rfl,rfl,?_⟩;refine⟨fun h=>?_,fun h=>?_⟩
   ·have hf:f.form=3:=by simpa using h
    refine⟨fun h=>?_,fun h=>?_⟩
    ·have e:partsOf (.app (.app f z) y)=(.no,.no,false):=by simp at h;simp[partsOf,hf,h]
     rw[e];exact rfl
    ·have e:partsOf (.app (.app f z) y)=(z,y,true):=by simp at h;simp[partsOf,hf,h]
     rw[e];refine⟨_,by decide,rfl,rfl,?_⟩;refine⟨_,by decide,rfl,rfl,?_⟩;refine⟨_,by decide,rfl,rfl,?_⟩;exact rfl
   ·have hf:¬f.form=3:=by simpa using h
    have e:partsOf (.app (.app f z) y)=(.no,.no,false):=by simp[partsOf,hf]
    rw[e];exact rfl
 ·have e:partsOf t=(.no,.no,false):=by cases t<;>first|(simp[Tp.form] at h;done)|rfl
  rw[e];exact rfl
theorem zAT (s:ByteArray):zF Tryz.prog zT9 [.lit (.string s)] (eTy (.con s)):=by
 refine zD ttok mixed Tryz.func13 rfl (by rfl) (Nat.le_of_ble_eq_true rfl) (by kernel_rfl) ?_;exact rfl
theorem zGA (s:ByteArray):zF Tryz.prog zRV [.lit (.string s)] (eTy (.var s)):=by
 refine zD ttok mixed Tryz.func14 rfl (by rfl) (Nat.le_of_ble_eq_true rfl) (by kernel_rfl) ?_;exact rfl
theorem zMV (a b:Tp):zF Tryz.prog zN3 [eTy a,eTy b] (eTy (.app a b)):=by
 refine zD ttok mixed Tryz.func68 rfl (by rfl) (Nat.le_of_ble_eq_true rfl) (by kernel_rfl) ?_;exact rfl
theorem zVX (b:Bool):zF Tryz.prog zKN [.sb b] (.lit (.int .i64 (if b then 1 else 0))):=by
 refine zD ttok mixed Tryz.func134 rfl (by rfl) (Nat.le_of_ble_eq_true rfl) (by kernel_rfl) ?_;refine⟨fun h=>?_,fun h=>?_⟩<;>subst h<;>exact rfl
theorem zcD (t:Tp):t.eArgs.length=t.args.length:=by rw[t.eArgs_eq];simp[yA]
def zUA (to:Tp) (l:List Tp):Tp:=l.foldr (fun a o => .app (.app (.con arrow) a) o) to
def brk (b:Bool) (s:ByteArray):ByteArray:=if b then (⟨#[40]⟩++s)++⟨#[41]⟩ else s
def pr (dec:Int->ByteArray):Tp->Nat->ByteArray
 | .no,_ => .empty
 | .mt n,_=>⟨#[63]⟩++dec n
 | .var s,_=>s
 | .con s,_=>brk (decide (s=arrow)) s
 | .all s a,h=>brk (decide (h≠0)) (((⟨#[102,111,114,97,108,108,32]⟩++s)++⟨#[46,32]⟩)++pr dec a 0)
 | .app (.app f a) b,h=>if f.form=3/\f.nam=arrow then brk (decide (h≠0)) ((pr dec a 1++⟨#[32,45,62,32]⟩)++pr dec b (if b.form=5 then 1 else 0)) else brk (decide (h=3)) ((pr dec (.app f a) 2++⟨#[32]⟩)++pr dec b 3)
 | .app x b,h=>brk (decide (h=3)) ((pr dec x 2++⟨#[32]⟩)++pr dec b 3)
theorem zHB (b:Bool) (s:ByteArray):(brk b s).size<=s.size+2:=by
 have h1:(ByteArray.mk #[40]).size=1:=rfl;have h2:(ByteArray.mk #[41]).size=1:=rfl;unfold brk;split
 ·rw[ByteArray.size_append,ByteArray.size_append,h1,h2];omega
 ·omega
theorem zAF (t:Tp):0<t.sz:=by cases t<;>simp[Tp.sz]<;>omega
theorem zHY {dec:Int->ByteArray} (hd:∀n,(dec n).size<=30) (N:Nat):∀(t:Tp) (h:Nat),t.sz<=N->t.fine->(pr dec t h).size+10<=50*t.sz:=by
 have q1:(ByteArray.mk #[63]).size=1:=rfl;have q2:(ByteArray.mk #[102,111,114,97,108,108,32]).size=7:=rfl;have q3:(ByteArray.mk #[46,32]).size=2:=rfl;have q4:(ByteArray.mk #[32,45,62,32]).size=4:=rfl;have q5:(ByteArray.mk #[32]).size=1:=rfl;induction N with
 | zero=>intro t h hs;have:=zAF t;omega
 | succ N ih =>
  intro t h hs hf;cases t with
  | no=>exact hf.elim
  | mt n=>have:=hd n;simp only[pr,ByteArray.size_append,Tp.sz,q1];omega
  | var s=>simp only[pr,Tp.sz];have:s.size<=4:=hf;omega
  | con s=>simp only[pr,Tp.sz];have:=zHB (decide (s=arrow)) s;have:s.size<=4:=hf;omega
  | all s a =>
   obtain⟨h1,h2⟩:=hf;simp only[Tp.sz] at hs;have:=ih a 0 (by omega) h2;have hb:=zHB (decide (h≠0)) (((⟨#[102,111,114,97,108,108,32]⟩++s)++⟨#[46,32]⟩)++pr dec a 0);simp only[pr,Tp.sz];simp only[ByteArray.size_append,q2,q3] at hb;omega
  | app x b =>
   obtain⟨h1,h2⟩:=hf;simp only[Tp.sz] at hs;have hb0:=zAF b;have hx0:=zAF x;have hx:=ih x 2 (by omega) h1;have hb3:=ih b 3 (by omega) h2;have gen:(brk (decide (h=3)) ((pr dec x 2++⟨#[32]⟩)++pr dec b 3)).size+10<=50*(1+x.sz+b.sz):=by
    have hb:=zHB (decide (h=3)) ((pr dec x 2++⟨#[32]⟩)++pr dec b 3);simp only[ByteArray.size_append,q5] at hb;omega
   cases x with
   | app f a =>
    simp only[Tp.sz] at hs hx0 hx gen;have ha:=ih a 1 (by omega) h1.2;have hbb:=ih b (if b.form=5 then 1 else 0) (by omega) h2;simp only[pr,Tp.sz];split
    ·have hb:=zHB (decide (h≠0)) ((pr dec a 1++⟨#[32,45,62,32]⟩)++pr dec b (if b.form=5 then 1 else 0));simp only[ByteArray.size_append,q4] at hb;omega
    ·exact gen
   | _=>exact gen
def mts:Tp->List Int
 | .mt n=>[n]
 | .app a b=>mts a++mts b
 | .all _ a=>mts a
 | _=>[]
theorem z6Y {dec:Int->ByteArray} (hd:∀n,(dec n).size<=30) (N:Nat) (hN:N<1000000):∀(t:Tp) (h:Nat),t.sz<=N->t.fine->(∀n∈mts t,zF Tryz.prog wM [.lit (.int .i64 n)] (.lit (.string (dec n)))) ->
  zF Tryz.prog zOC [eTy t,.lit (.int .i64 (h:Nat))] (.lit (.string (pr dec t h))):=by
 have q1:(ByteArray.mk #[63]).size=1:=rfl;have q2:(ByteArray.mk #[102,111,114,97,108,108,32]).size=7:=rfl;have q3:(ByteArray.mk #[46,32]).size=2:=rfl;have q4:(ByteArray.mk #[32,45,62,32]).size=4:=rfl;have q5:(ByteArray.mk #[32]).size=1:=rfl;have q6:(ByteArray.mk #[40]).size=1:=rfl;have q7:(ByteArray.mk #[41]).size=1:=rfl;induction N with
 | zero=>intro t h hs;have:=zAF t;omega
 | succ N ih =>
  intro t how hs hf hI;have ih:=ih (by omega);cases t with
  | no=>exact hf.elim
  | mt n =>
   refine zD ttok mixed Tryz.func87 rfl (by rfl) (Nat.le_of_ble_eq_true rfl) (by kernel_rfl) ?_;have:=hd n;refine .inl ⟨_,zBX _,?_⟩;refine⟨fun h=>(by cases h),fun _=>?_⟩;refine⟨fun _=>?_,fun h=>(by cases h)⟩;refine .inl ⟨_,hI n (by simp[mts]),?_⟩;refine⟨by rw[q1];omega,?_⟩;exact rfl
  | var s =>
   refine zD ttok mixed Tryz.func87 rfl (by rfl) (Nat.le_of_ble_eq_true rfl) (by kernel_rfl) ?_;refine .inl ⟨_,zBX _,?_⟩;refine⟨fun h=>(by cases h),fun _=>?_⟩;refine⟨fun h=>(by cases h),fun _=>?_⟩;refine⟨fun h=>(by cases h),fun _=>?_⟩;refine⟨fun h=>(by cases h),fun _=>?_⟩;refine⟨fun h=>(by cases h),fun _=>?_⟩;exact rfl
  | con s =>
   refine zD ttok mixed Tryz.func87 rfl (by rfl) (Nat.le_of_ble_eq_true rfl) (by kernel_rfl) ?_;have hs4:s.size<=4:=hf;have hnm:(Tp.con s).nam.size<=4:=hs4;refine .inl ⟨_,zBX _,?_⟩;refine⟨fun h=>(by cases h),fun _=>?_⟩;refine⟨fun h=>(by cases h),fun _=>?_⟩;refine⟨fun _=>?_,fun h=>(by cases h)⟩;refine⟨fun h=>?_,fun h=>?_⟩
   ·have h:s=arrow:=of_decide_eq_true h;refine⟨by simp only[ByteArray.size_append,q1,q2,q3,q4,q5,q6,q7];omega,?_⟩;refine⟨by simp only[ByteArray.size_append,q1,q2,q3,q4,q5,q6,q7];omega,?_⟩;show _=AV.lit (.string (brk (decide (s=arrow)) s));rw[decide_eq_true h];exact rfl
   ·have h:¬s=arrow:=of_decide_eq_false h;refine⟨fun h=>(by cases h),fun _=>?_⟩;refine⟨fun h=>(by cases h),fun _=>?_⟩;show _=AV.lit (.string (brk (decide (s=arrow)) s));rw[decide_eq_false h];exact rfl
  | all s a =>
   obtain⟨hs4,h2⟩:=hf;simp only[Tp.sz] at hs;refine zD ttok mixed Tryz.func87 rfl (by rfl) (Nat.le_of_ble_eq_true rfl) (by kernel_rfl) ?_;have hp:=zHY hd N a 0 (by omega) h2;have hnm:(Tp.all s a).nam.size<=4:=hs4;refine .inl ⟨_,zBX _,?_⟩;refine⟨fun h=>(by cases h),fun _=>?_⟩;refine⟨fun h=>(by cases h),fun _=>?_⟩;refine⟨fun h=>(by cases h),fun _=>?_⟩;refine⟨fun _=>?_,fun h=>(by cases h)⟩;refine⟨by simp only[ByteArray.size_append,q1,q2,q3,q4,q5,q6,q7];omega,?_⟩;refine⟨by simp only[ByteArray.size_append,q1,q2,q3,q4,q5,q6,q7];omega,?_⟩;refine⟨_,by decide,rfl,rfl,?_⟩;refine .inl ⟨_,ih a 0 (by omega) h2 hI,?_⟩;refine⟨by simp only[ByteArray.size_append,q1,q2,q3,q4,q5,q6,q7];omega,?_⟩;refine⟨fun h=>?_,fun h=>?_⟩
   ·have h:¬how=0:=by simp at h;omega
    refine⟨by simp only[ByteArray.size_append,q1,q2,q3,q4,q5,q6,q7];omega,?_⟩;refine⟨by simp only[ByteArray.size_append,q1,q2,q3,q4,q5,q6,q7];omega,?_⟩;show _=AV.lit (.string (brk (decide (how≠0)) _));rw[decide_eq_true h];exact rfl
   ·have h:how=0:=by simp at h;omega
    show _=AV.lit (.string (brk (decide (how≠0)) _));rw[decide_eq_false (p:=how≠0) (by omega)];exact rfl
  | app x b =>
   obtain⟨h1,h2⟩:=hf;simp only[Tp.sz] at hs;have hb0:=zAF b;have hx0:=zAF x;have hpx:=zHY hd N x 2 (by omega) h1;have hpb:=zHY hd N b 3 (by omega) h2;have hIx:∀n∈mts x,zF Tryz.prog wM [.lit (.int .i64 n)] (.lit (.string (dec n))):=fun n hn=>hI n (by simp[mts,hn]);have hIb:∀n∈mts b,zF Tryz.prog wM [.lit (.int .i64 n)] (.lit (.string (dec n))):=fun n hn=>hI n (by simp[mts,hn]);by_cases hfun:∃f a,x = .app f a/\f.form=3/\f.nam=arrow
   ·obtain⟨f,a,rfl,hf3,hfn⟩:=hfun;simp only[Tp.sz] at hs hx0;have hpa:=zHY hd N a 1 (by omega) h1.2;have hpbb:=zHY hd N b (if b.form=5 then 1 else 0) (by omega) h2;have e:partsOf (.app (.app f a) b)=(a,b,true):=by simp[partsOf,hf3,hfn]
    have hparts:=zBX (.app (.app f a) b);rw[e] at hparts;have hIa:∀n∈mts a,zF Tryz.prog wM [.lit (.int .i64 n)] (.lit (.string (dec n))):=fun n hn=>hIx n (by simp[mts,hn]);refine zD ttok mixed Tryz.func87 rfl (by rfl) (Nat.le_of_ble_eq_true rfl) (by kernel_rfl) ?_;refine .inl ⟨_,hparts,?_⟩;refine⟨fun _=>?_,fun h=>(by cases h)⟩;refine .inl ⟨_,ih a 1 (by omega) h1.2 hIa,?_⟩;refine⟨by simp only[ByteArray.size_append,q1,q2,q3,q4,q5,q6,q7];omega,?_⟩;refine .inl ⟨_,zVX _,?_⟩;have eb:IntKind.i64.wrap (0+(if decide (b.form=5)=true then 1 else 0))=(((if b.form=5 then 1 else 0):Nat):Int):=by
     by_cases hb5:b.form=5
     ·simp[hb5];decide
     ·simp[hb5];decide
    have ihb:=ih b (if b.form=5 then 1 else 0) (by omega) h2 hIb;rw[<-eb] at ihb;refine .inl ⟨_,ihb,?_⟩;refine⟨by simp only[ByteArray.size_append,q1,q2,q3,q4,q5,q6,q7];omega,?_⟩;have epr:pr dec (.app (.app f a) b) how=brk (decide (how≠0)) ((pr dec a 1++⟨#[32,45,62,32]⟩)++pr dec b (if b.form=5 then 1 else 0)):=by
     show (if f.form=3/\f.nam=arrow then _ else _)=_;rw[if_pos ⟨hf3,hfn⟩]
    rw[epr];refine⟨fun h=>?_,fun h=>?_⟩
    ·have h:¬how=0:=by simp at h;omega
     refine⟨by simp only[ByteArray.size_append,q1,q2,q3,q4,q5,q6,q7];omega,?_⟩;refine⟨by simp only[ByteArray.size_append,q1,q2,q3,q4,q5,q6,q7];omega,?_⟩;rw[decide_eq_true h];exact rfl
    ·have h:how=0:=by simp at h;omega
     rw[decide_eq_false (p:=how≠0) (by omega)];exact rfl
   ·have e:partsOf (.app x b)=(.no,.no,false):=by
     cases x with
     | app f a=>exact if_neg (fun h=>hfun ⟨f,a,rfl,h⟩)
     | _=>rfl
    have hparts:=zBX (.app x b);rw[e] at hparts;have epr:pr dec (.app x b) how=brk (decide (how=3)) ((pr dec x 2++⟨#[32]⟩)++pr dec b 3):=by
     cases x with
     | app f a=>exact if_neg (fun h=>hfun ⟨f,a,rfl,h⟩)
     | _=>rfl
    rw[epr];refine zD ttok mixed Tryz.func87 rfl (by rfl) (Nat.le_of_ble_eq_true rfl) (by kernel_rfl) ?_;refine .inl ⟨_,hparts,?_⟩;refine⟨fun h=>(by cases h),fun _=>?_⟩;refine⟨fun h=>(by cases h),fun _=>?_⟩;refine⟨fun h=>(by cases h),fun _=>?_⟩;refine⟨fun h=>(by cases h),fun _=>?_⟩;refine⟨fun _=>?_,fun h=>(by cases h)⟩;refine⟨_,by decide,rfl,rfl,?_⟩;refine .inl ⟨_,ih x 2 (by omega) h1 hIx,?_⟩;refine⟨by simp only[ByteArray.size_append,q1,q2,q3,q4,q5,q6,q7];omega,?_⟩;refine⟨_,by decide,rfl,rfl,?_⟩;refine .inl ⟨_,ih b 3 (by omega) h2 hIb,?_⟩;refine⟨by simp only[ByteArray.size_append,q1,q2,q3,q4,q5,q6,q7];omega,?_⟩;refine⟨fun h=>?_,fun h=>?_⟩
    ·have h:how=3:=by simp at h;omega
     refine⟨by simp only[ByteArray.size_append,q1,q2,q3,q4,q5,q6,q7];omega,?_⟩;refine⟨by simp only[ByteArray.size_append,q1,q2,q3,q4,q5,q6,q7];omega,?_⟩;rw[decide_eq_true h];exact rfl
    ·have h:¬how=3:=by simp at h;omega
     rw[decide_eq_false h];exact rfl
theorem z1G {dec:Int->ByteArray} (hd:∀n,(dec n).size<=30) (t:Tp) (hs:t.sz<1000000) (hf:t.fine) (hI:∀n∈mts t,zF Tryz.prog wM [.lit (.int .i64 n)] (.lit (.string (dec n)))) :
  zF Tryz.prog zFY [eTy t] (.lit (.string (pr dec t 0))):=by
 refine zD ttok mixed Tryz.func51 rfl (by rfl) (Nat.le_of_ble_eq_true rfl) (by kernel_rfl) ?_;refine .inl ⟨_,z6Y hd t.sz hs t 0 (Nat.le_refl _) hf hI,?_⟩;exact rfl
theorem zD4 (t:Tp) (h:(partsOf t).2.2=true):Tp.app (.app (.con arrow) (partsOf t).1) (partsOf t).2.1=t:=by
 cases t with
 | app x b=>cases x with
  | app f a =>
   simp only[partsOf] at h⊢;split at h
   ·rename_i hc;rw[if_pos hc];obtain⟨s,rfl⟩:=Tp.is_con hc.1;have:s=arrow:=hc.2;rw[this]
   ·cases h
  | _=>cases h
 | _=>cases h
theorem zVZ (t:Tp) (h:(partsOf t).2.2=false):partsOf t=(.no,.no,false):=by
 cases t with
 | app x b=>cases x with
  | app f a =>
   simp only[partsOf] at h⊢;split at h
   ·cases h
   ·rename_i hc;rw[if_neg hc]
  | _=>rfl
 | _=>rfl
def ixI {α:Type} [DecidableEq α] (l:List α) (s:α):Int:=if s∈l then (l.idxOf s:Nat) else -1
theorem zML {α:Type} [DecidableEq α] {l:List α} {s:α} {k:Nat} (hk:k<l.length) (h:l[k]=s) (hn:∀j,j<k->l[j]?≠some s):ixI l s=(k:Nat):=by
 have hm:s∈l:=h ▸ List.getElem_mem hk;rw[ixI,if_pos hm];have h1:l.idxOf s<l.length:=List.idxOf_lt_length_iff.2 hm;have h2:l[l.idxOf s]=s:=List.getElem_idxOf h1;rcases Nat.lt_trichotomy (l.idxOf s) k with q|q|q
 ·exact absurd (by rw[List.getElem?_eq_getElem h1,h2]) (hn _ q)
 ·rw[q]
 ·have:=List.not_of_lt_findIdx (p:=(· == s)) (xs:=l) (i:=k) q;simp[h] at this
theorem zAS {α:Type} {l:List α} {s:α} (hn:∀j,j<l.length->l[j]?≠some s):s∉l:=fun hm=>by
 obtain⟨j,hj,he⟩:=List.getElem_of_mem hm;exact hn j hj (by rw[List.getElem?_eq_getElem hj,he])
theorem zGD {α:Type} [DecidableEq α] {l:List α} {s:α} (hn:s∉l):ixI l s = -1:=by rw[ixI,if_neg hn]
def memb {α:Type} [DecidableEq α] (s:α) (l:List α):Bool:=decide (s∈l)
theorem zS {α:Type} [DecidableEq α] {s:α} {l:List α} (h:s∈l):memb s l=true:=decide_eq_true h
theorem yM {α:Type} [DecidableEq α] {s:α} {l:List α} (h:s∉l):memb s l=false:=decide_eq_false h
theorem memb_iff {α:Type} [DecidableEq α] {s:α} {l:List α}:memb s l=true↔s∈l:=decide_eq_true_iff
theorem zdI {α:Type} [DecidableEq α] (l:List α) (s:α):decide (0<=ixI l s)=memb s l:=by
 unfold ixI memb;split<;>rename_i h
 ·rw[decide_eq_true h];exact decide_eq_true (Int.natCast_nonneg _)
 ·rw[decide_eq_false h];rfl
theorem zH1 {α:Type} {l:List α} {s:α} {k:Nat} (hk:k<l.length) (h:l[k]≠s) (hn:∀j,j<k->l[j]?≠some s):∀j,j<k+1->l[j]?≠some s:=fun j hj=>by
 rcases Nat.lt_or_ge j k with q|q
 ·exact hn j q
 ·obtain rfl:j=k:=by omega
  rw[List.getElem?_eq_getElem hk];intro e;injection e with e;exact h e
theorem zTN {l:List ByteArray} {s:ByteArray} (hl:l.length<9223372036854775807):zF Tryz.prog zBM [.sl (eSs l),.lit (.string s)] (.lit (.int .i64 (ixI l s))):=by
 refine zD ttok mixed Tryz.func79 rfl (by rfl) (Nat.le_of_ble_eq_true rfl) (by kernel_rfl) ?_;refine⟨{k:Nat // k<=l.length/\∀j,j<k->l[j]?≠some s},fun k=>{vs:=[(0,.v (.sl (eSs l))),(1,.v (.lit (.string s))),(7,.v (.lit (.int .i64 ((eSs l).length:Nat)))),(8,.v (.lit (.int .i64 (k.1:Nat))))],ow:=[]},
  fun k=>l.length-k.1,⟨0,Nat.zero_le _,fun j hj=>absurd hj (by omega)⟩,⟨⟨rfl,rfl,rfl,rfl,trivial⟩,trivial,rfl⟩,?_⟩
 rintro⟨k,hk,hn⟩;have hlen:(eSs l).length=l.length:=by simp[eSs]
 refine⟨fun h=>?_,fun h=>?_⟩
 ·have h:k<l.length:=by simp[hlen] at h;omega
  refine⟨_,by omega,zEK h,rfl,?_⟩;refine⟨fun h2=>?_,fun h2=>?_⟩
  ·have h2:l[k]=s:=by simpa[eq_comm] using h2
   rw[zML h h2 hn];exact rfl
  ·have h2:l[k]≠s:=by intro e;simp[e] at h2
   refine⟨⟨k+1,h,zH1 h h2 hn⟩,(show l.length-(k+1)<l.length-k by omega),⟨rfl,rfl,rfl,?_,trivial⟩,trivial,rfl⟩;exact congrArg (fun n=>SV.v (AV.lit (Value.int .i64 n))) (wrap_succ (k:=k) (by omega))
 ·have h:k=l.length:=by simp[hlen] at h;omega
  subst h;rw[zGD (zAS hn)];exact rfl
theorem xN {l:List ByteArray} {s:ByteArray} (hl:l.length<9223372036854775807):zF Tryz.prog zAP [.sl (eSs l),.lit (.string s)] (.sb (memb s l)):=by
 refine zD ttok mixed Tryz.func128 rfl (by rfl) (Nat.le_of_ble_eq_true rfl) (by kernel_rfl) ?_;refine .inl ⟨_,zTN hl,?_⟩;rw[<-zdI];exact rfl
theorem wK {l:List ByteArray} {s:ByteArray} (hl:l.length<9223372036854775807):zF Tryz.prog zJP [.sl (eSs l),.lit (.string s)] (.sb (memb s l)):=by
 refine zD ttok mixed Tryz.func62 rfl (by rfl) (Nat.le_of_ble_eq_true rfl) (by kernel_rfl) ?_;refine⟨{k:Nat // k<=l.length/\∀j,j<k->l[j]?≠some s},fun k=>{vs:=[(0,.v (.sl (eSs l))),(1,.v (.lit (.string s))),(5,.v (.lit (.int .i64 (k.1:Nat))))],ow:=[]},
  fun k=>l.length-k.1,⟨0,Nat.zero_le _,fun j hj=>absurd hj (by omega)⟩,⟨⟨rfl,rfl,rfl,trivial⟩,trivial,rfl⟩,?_⟩
 rintro⟨k,hk,hn⟩;have hlen:(eSs l).length=l.length:=by simp[eSs]
 refine⟨fun h=>?_,fun h=>?_⟩
 ·have h:k<l.length:=by simp[hlen] at h;omega
  refine⟨_,by omega,zEK h,rfl,?_⟩;refine⟨fun h2=>?_,fun h2=>?_⟩
  ·have h2:l[k]=s:=by simpa using h2
   rw[zS (h2 ▸ List.getElem_mem h)];exact rfl
  ·have h2:l[k]≠s:=by intro e;simp[e] at h2
   refine⟨⟨k+1,h,zH1 h h2 hn⟩,(show l.length-(k+1)<l.length-k by omega),⟨rfl,rfl,?_,trivial⟩,trivial,rfl⟩;exact congrArg (fun n=>SV.v (AV.lit (Value.int .i64 n))) (wrap_succ (k:=k) (by omega))
 ·have h:k=l.length:=by simp[hlen] at h;omega
  subst h;rw[yM (zAS hn)];exact rfl
theorem zd5 {l:List ByteArray} {s:ByteArray} (hl:l.length<9223372036854775807):zF Tryz.prog zKP [.sl (eSs l),.lit (.string s)] (.lit (.int .i64 (ixI l s))):=by
 refine zD ttok mixed Tryz.func60 rfl (by rfl) (Nat.le_of_ble_eq_true rfl) (by kernel_rfl) ?_;refine⟨{k:Nat // k<=l.length/\∀j,j<k->l[j]?≠some s},fun k=>{vs:=[(0,.v (.sl (eSs l))),(1,.v (.lit (.string s))),(5,.v (.lit (.int .i64 (k.1:Nat))))],ow:=[]},
  fun k=>l.length-k.1,⟨0,Nat.zero_le _,fun j hj=>absurd hj (by omega)⟩,⟨⟨rfl,rfl,rfl,trivial⟩,trivial,rfl⟩,?_⟩
 rintro⟨k,hk,hn⟩;have hlen:(eSs l).length=l.length:=by simp[eSs]
 refine⟨fun h=>?_,fun h=>?_⟩
 ·have h:k<l.length:=by simp[hlen] at h;omega
  refine⟨_,by omega,zEK h,rfl,?_⟩;refine⟨fun h2=>?_,fun h2=>?_⟩
  ·have h2:l[k]=s:=by simpa using h2
   rw[zML h h2 hn];exact rfl
  ·have h2:l[k]≠s:=by intro e;simp[e] at h2
   refine⟨⟨k+1,h,zH1 h h2 hn⟩,(show l.length-(k+1)<l.length-k by omega),⟨rfl,rfl,?_,trivial⟩,trivial,rfl⟩;exact congrArg (fun n=>SV.v (AV.lit (Value.int .i64 n))) (wrap_succ (k:=k) (by omega))
 ·have h:k=l.length:=by simp[hlen] at h;omega
  subst h;rw[zGD (zAS hn)];exact rfl
theorem zQU (s:ByteArray) (t:Tp):zF Tryz.prog zTC [.lit (.string s),eTy t] (eTy (.all s t)):=by
 refine zD ttok mixed Tryz.func49 rfl (by rfl) (Nat.le_of_ble_eq_true rfl) (by kernel_rfl) ?_;refine .inl ⟨_,zBE t,?_⟩;exact rfl
set_option maxRecDepth 100000
def dcm (n:Nat):ByteArray:=if h:n<10 then ⟨#[UInt8.ofNat (48+n)]⟩ else dcm (n / 10)++⟨#[UInt8.ofNat (48+n % 10)]⟩
termination_by n
theorem zAW {n:Nat} (h:n<10):dcm n=⟨#[UInt8.ofNat (48+n)]⟩:=by rw[dcm,dif_pos h]
theorem zFD {n:Nat} (h:¬n<10):dcm n=dcm (n / 10)++⟨#[UInt8.ofNat (48+n % 10)]⟩:=by rw[dcm,dif_neg h]
theorem sz1 (x:UInt8):(ByteArray.mk #[x]).size=1:=rfl
theorem xP:∀(k n:Nat),n<10 ^ k->0<k->(dcm n).size<=k
 | 0,n,h,hk=>by omega
 | k+1,n,h,_=>by
  by_cases h10:n<10
  ·rw[zAW h10,sz1];omega
  ·rw[zFD h10,ByteArray.size_append,sz1];have hk:0<k:=by
    rcases Nat.eq_zero_or_pos k with rfl|h'
    ·simp at h;omega
    ·exact h'
   have:=xP k (n / 10) (by rw[Nat.pow_succ] at h;omega) hk;omega
theorem zbJ {n:Nat} (h:n<256):IntKind.u8.wrap (n:Int)=n:=by
 simp[IntKind.wrap,IntKind.signed,IntKind.bits];omega
theorem zDO (N:Nat):∀n:Nat,n<=N->N<1000000000->zF Tryz.prog zES [.lit (.int .i64 (n:Nat))] (.lit (.string (dcm n))):=by
 induction N using Nat.strongRecOn with
 | _ N ih =>
  intro n hn hN;refine zD ttok mixed Tryz.func44 rfl (by rfl) (Nat.le_of_ble_eq_true rfl) (by kernel_rfl) ?_;have e1:((n:Int).tmod 10)=((n % 10:Nat):Int):=rfl;have e2:IntKind.i64.wrap (48+(n:Int).tmod 10)=((48+n % 10:Nat):Int):=by rw[e1,show (48:Int)+((n % 10:Nat):Int)=((48+n % 10:Nat):Int) by omega];exact yH (by omega)
  have e3:IntKind.u8.wrap (IntKind.i64.wrap (48+(n:Int).tmod 10))=((48+n % 10:Nat):Int):=by rw[e2];exact zbJ (by omega)
  have e4:IntKind.i64.wrap ((n:Int).tdiv 10)=((n / 10:Nat):Int):=by rw[show ((n:Int).tdiv 10)=((n / 10:Nat):Int) by simp];exact yH (by omega)
  have hb:(IntKind.u8.wrap (IntKind.i64.wrap (48+(n:Int).tmod 10))).toNat=48+n % 10:=by rw[e3];rfl
  refine⟨by decide,?_⟩;refine⟨fun h=>by simp at h;omega,fun _=>?_⟩;refine⟨fun _=>?_,fun h=>by simp at h;omega⟩;refine⟨fun h=>?_,fun h=>?_⟩
  ·have h:n<10:=by simp at h;omega
   refine⟨fun h=>by simp at h;omega,fun _=>?_⟩;show AV.lit (.string ⟨[UInt8.ofNat (IntKind.u8.wrap (IntKind.i64.wrap (48+(n:Int).tmod 10))).toNat].toArray⟩)=_;rw[hb,zAW h,Nat.mod_eq_of_lt h]
  ·have h:¬n<10:=by simp at h;omega
   have hc:=ih (n / 10) (by omega) (n / 10) (Nat.le_refl _) (by omega);rw[<-e4] at hc;refine⟨by decide,.inl ⟨_,hc,?_⟩⟩;refine⟨?_,?_⟩
   ·have:=xP 9 (n / 10) (by omega) (by decide);show _+(ByteArray.mk #[_]).size<=_;rw[sz1];omega
   ·show AV.lit (.string (dcm (n / 10)++⟨[UInt8.ofNat (IntKind.u8.wrap (IntKind.i64.wrap (48+(n:Int).tmod 10))).toNat].toArray⟩))=_;rw[hb,zFD h]
theorem zUJ {a:Nat} (h1:¬a<10) (h2:a<100):dcm a=⟨#[UInt8.ofNat (48+a / 10),UInt8.ofNat (48+a % 10)]⟩:=by
 rw[zFD h1,zAW (by omega)];rfl
def sm100:ByteArray:=⟨((List.range 100).flatMap fun i=>[UInt8.ofNat (48+i / 10),UInt8.ofNat (48+i % 10)]).toArray⟩
theorem z3F:∀i:Fin 100,sm100.extract (Int.toNat ((i.val*2:Nat):Int)) (Int.toNat ((i.val*2+2:Nat):Int))=⟨#[UInt8.ofNat (48+i.val / 10),UInt8.ofNat (48+i.val % 10)]⟩:=by decide +kernel
theorem z3B {n:Nat} (hn:n<100):zF Tryz.prog zCQ [.lit (.int .i64 (n:Nat))] (.lit (.string (dcm n))):=by
 refine zD ttok mixed Tryz.func158 rfl (by rfl) (Nat.le_of_ble_eq_true rfl) (by kernel_rfl) ?_;have e1:IntKind.i64.wrap ((n:Int)+1)=((n+1:Nat):Int):=wrap_succ (by omega);have e2:IntKind.i64.wrap ((n:Int)*2)=((n*2:Nat):Int):=by rw[show (n:Int)*2=((n*2:Nat):Int) by omega];exact yH (by omega)
 have e3:IntKind.i64.wrap (IntKind.i64.wrap ((n:Int)*2)+2)=((n*2+2:Nat):Int):=by rw[e2,show ((n*2:Nat):Int)+2=((n*2+2:Nat):Int) by omega];exact yH (by omega)
 refine⟨fun h=>?_,fun h=>?_⟩
 ·have h:n<10:=by simp at h;omega
  refine⟨by omega,by rw[e1];omega,?_,?_⟩
  ·rw[e1];show ((n+1:Nat):Int)<=((36:Nat):Int);omega
  ·rw[e1];have:∀i:Fin 10,(ByteArray.mk #[48,49,50,51,52,53,54,55,56,57,97,98,99,100,101,102,103,104,105,106,107,108,109,110,111,112,113,114,115,116,117,118,119,120,121,122]).extract (Int.toNat (i.val:Int)) (Int.toNat ((i.val+1:Nat):Int))=⟨#[UInt8.ofNat (48+i.val)]⟩:=by decide +kernel
   have:=this ⟨n,h⟩;rw[zAW h,<-this];exact rfl
 ·have h:¬n<10:=by simp at h;omega
  refine⟨by rw[e2];omega,by rw[e3,e2];omega,?_,?_⟩
  ·rw[e3];show ((n*2+2:Nat):Int)<=((200:Nat):Int);omega
  ·rw[e3,e2];have hf:AV.lit (.string (sm100.extract (Int.toNat ((n*2:Nat):Int)) (Int.toNat ((n*2+2:Nat):Int))))=AV.lit (.string (dcm n)):=by
    rw[zUJ h hn];exact congrArg (fun s=>AV.lit (.string s)) (z3F ⟨n,hn⟩)
   refine Eq.trans (congrArg (fun s:ByteArray=>AV.lit (.string (s.extract (Int.toNat ((n*2:Nat):Int)) (Int.toNat ((n*2+2:Nat):Int))))) (?_:_=sm100)) hf
   kernel_rfl
theorem zQL {n:Nat} (hn:n<100):zF Tryz.prog wM [.lit (.int .i64 (n:Nat))] (.lit (.string (dcm n))):=by
 refine zD ttok mixed Tryz.func135 rfl (by rfl) (Nat.le_of_ble_eq_true rfl) (by kernel_rfl) ?_;refine .inl ⟨.lit (.string (dcm n)),?_,rfl⟩;refine zD ttok mixed Tryz.func147 rfl (by rfl) (Nat.le_of_ble_eq_true rfl) (by kernel_rfl) ?_;refine .inl ⟨.lit (.string (dcm n)),?_,rfl⟩;refine zD ttok mixed Tryz.func156 rfl (by rfl) (Nat.le_of_ble_eq_true rfl) (by kernel_rfl) ?_;refine⟨fun _=>?_,fun h=>(by simp at h)⟩;refine⟨fun _=>?_,fun h=>(by simp at h)⟩;refine⟨fun _=>?_,fun h=>(by simp at h;omega)⟩;refine .inl ⟨_,z3B hn,?_⟩;exact rfl
def lett (n:Nat):ByteArray:=if n<26 then ⟨#[UInt8.ofNat (97+n % 26)]⟩ else ⟨#[UInt8.ofNat (97+n % 26)]⟩++dcm (n / 26)
theorem zeA:∀i:Fin 26,Utf8.encode ((97+i.val:Nat):Int)=⟨#[UInt8.ofNat (97+i.val)]⟩:=by decide +kernel
theorem wrap32 {n:Nat} (h:n<256):IntKind.i32.wrap (n:Int)=n:=by
 simp[IntKind.wrap,IntKind.signed,IntKind.bits];omega
theorem zW1 {n:Nat} (hn:n<2600):zF Tryz.prog zKO [.lit (.int .i64 (n:Nat))] (.lit (.string (lett n))):=by
 refine zD ttok mixed Tryz.func145 rfl (by rfl) (Nat.le_of_ble_eq_true rfl) (by kernel_rfl) ?_;have e1:((n:Int).tmod 26)=((n % 26:Nat):Int):=rfl;have e2:IntKind.i64.wrap (97+(n:Int).tmod 26)=((97+n % 26:Nat):Int):=by rw[e1,show (97:Int)+((n % 26:Nat):Int)=((97+n % 26:Nat):Int) by omega];exact yH (by omega)
 have e3:Utf8.encode (IntKind.i32.wrap (IntKind.i64.wrap (97+(n:Int).tmod 26)))=⟨#[UInt8.ofNat (97+n % 26)]⟩:=by rw[e2,wrap32 (by omega)];exact zeA ⟨n % 26,by omega⟩
 have e4:IntKind.i64.wrap ((n:Int).tdiv 26)=((n / 26:Nat):Int):=by rw[show ((n:Int).tdiv 26)=((n / 26:Nat):Int) by simp];exact yH (by omega)
 refine⟨by decide,?_⟩;refine⟨fun h=>?_,fun h=>?_⟩
 ·have h:n<26:=by simp at h;omega
  show AV.lit (.string (Utf8.encode (IntKind.i32.wrap (IntKind.i64.wrap (97+(n:Int).tmod 26)))))=_;rw[e3,lett,if_pos h]
 ·have h:¬n<26:=by simp at h;omega
  have hc:=zQL (n:=n / 26) (by omega);rw[<-e4] at hc;refine⟨by decide,.inl ⟨_,hc,?_,?_⟩⟩
  ·have:=xP 9 (n / 26) (by omega) (by decide);rw[e3,sz1];omega
  ·show AV.lit (.string (Utf8.encode (IntKind.i32.wrap (IntKind.i64.wrap (97+(n:Int).tmod 26)))++dcm (n / 26)))=_;rw[e3,lett,if_neg h]
theorem zA0 {n:Nat} (hn:n<2600):zF Tryz.prog zE5 [.lit (.int .i64 (n:Nat))] (.lit (.string (lett n))):=by
 refine zD ttok mixed Tryz.func63 rfl (by rfl) (Nat.le_of_ble_eq_true rfl) (by kernel_rfl) ?_;have e1:((n:Int).tmod 26)=((n % 26:Nat):Int):=rfl;have e2:IntKind.i64.wrap (97+(n:Int).tmod 26)=((97+n % 26:Nat):Int):=by rw[e1,show (97:Int)+((n % 26:Nat):Int)=((97+n % 26:Nat):Int) by omega];exact yH (by omega)
 have e3:(IntKind.u8.wrap (IntKind.i64.wrap (97+(n:Int).tmod 26))).toNat=97+n % 26:=by rw[e2,zbJ (by omega)];rfl
 have e4:IntKind.i64.wrap ((n:Int).tdiv 26)=((n / 26:Nat):Int):=by rw[show ((n:Int).tdiv 26)=((n / 26:Nat):Int) by simp];exact yH (by omega)
 refine⟨by decide,?_⟩;refine⟨fun h=>?_,fun h=>?_⟩
 ·have h:n<26:=by simp at h;omega
  show AV.lit (.string ⟨[UInt8.ofNat (IntKind.u8.wrap (IntKind.i64.wrap (97+(n:Int).tmod 26))).toNat].toArray⟩)=_;rw[e3,lett,if_pos h]
 ·have h:¬n<26:=by simp at h;omega
  have hc:=zDO (n / 26) (n / 26) (Nat.le_refl _) (by omega);rw[<-e4] at hc;refine⟨by decide,.inl ⟨_,hc,?_,?_⟩⟩
  ·have:=xP 9 (n / 26) (by omega) (by decide);show (ByteArray.mk #[_]).size+_<=_;rw[sz1];omega
  ·show AV.lit (.string (⟨[UInt8.ofNat (IntKind.u8.wrap (IntKind.i64.wrap (97+(n:Int).tmod 26))).toNat].toArray⟩++dcm (n / 26)))=_;rw[e3,lett,if_neg h]
section
variable {α:Type} [DecidableEq α]
def ins (p:α->Bool) (out:List α) (s:α):List α:=if s∈out∨p s=true then out else out++[s]
def zC (p:α->Bool) (out l:List α):List α:=l.foldl (ins p) out
theorem zGE (p:α->Bool) (out:List α):zC p out []=out:=rfl
theorem wQ (p:α->Bool) (out l:List α) (s:α):zC p out (s::l)=zC p (ins p out s) l:=rfl
theorem yB (p:α->Bool) (out l m:List α):zC p out (l++m)=zC p (zC p out l) m:=by simp[zC]
theorem zKD {p:α->Bool} {out l:List α} {k:Nat} (h:k<l.length):zC p out (l.take (k+1))=ins p (zC p out (l.take k)) l[k]:=by
 rw[List.take_succ_eq_append_getElem h,yB];rfl
theorem z9E (p:α->Bool) (out:List α) (s x:α) (h:x∈out):x∈ins p out s:=by
 unfold ins;split
 ·exact h
 ·exact List.mem_append_left _ h
theorem zME (p:α->Bool) (l:List α):∀(out:List α) (x:α),x∈out->x∈zC p out l:=by
 induction l with
 | nil=>exact fun _ _ h=>h
 | cons s l ih=>exact fun out x h=>ih _ x (z9E p out s x h)
theorem z9U {p:α->Bool} {out:List α} {s x:α}:x∈ins p out s↔x∈out∨(x=s/\p s=false):=by
 unfold ins;split<;>rename_i h
 ·constructor
  ·exact .inl
  ·rintro (h1|⟨rfl,h2⟩)
   ·exact h1
   ·rcases h with h|h
    ·exact h
    ·rw[h2] at h;cases h
 ·simp only[not_or,Bool.not_eq_true] at h;simp only[List.mem_append,List.mem_singleton];constructor
  ·rintro (h1|rfl)
   ·exact .inl h1
   ·exact .inr ⟨rfl,h.2⟩
  ·rintro (h1|⟨rfl,_⟩)
   ·exact .inl h1
   ·exact .inr rfl
theorem mem_insAll {p:α->Bool} {l:List α}:∀{out:List α} {x:α},x∈zC p out l↔x∈out∨(x∈l/\p x=false):=by
 induction l with
 | nil=>simp[zGE]
 | cons s l ih =>
  intro out x;rw[wQ,ih,z9U];simp only[List.mem_cons];constructor
  ·rintro ((h|⟨rfl,h⟩)|⟨h1,h2⟩)
   ·exact .inl h
   ·exact .inr ⟨.inl rfl,h⟩
   ·exact .inr ⟨.inr h1,h2⟩
  ·rintro (h|⟨rfl|h1,h2⟩)
   ·exact .inl (.inl h)
   ·exact .inl (.inr ⟨rfl,h2⟩)
   ·exact .inr ⟨h1,h2⟩
theorem zVM (p:α->Bool) (out:List α) (s:α):(ins p out s).length<=out.length+1:=by
 unfold ins;split<;>simp
theorem zM (p:α->Bool) (l:List α):∀out:List α,(zC p out l).length<=out.length+l.length:=by
 induction l with
 | nil=>intro out;simp[zGE]
 | cons s l ih=>intro out;rw[wQ];have:=ih (ins p out s);have:=zVM p out s;simp only[List.length_cons];omega
theorem zYZ {p:α->Bool} {out:List α} {s:α} (h:out.Nodup):(ins p out s).Nodup:=by
 unfold ins;split<;>rename_i q
 ·exact h
 ·simp only[not_or] at q;exact List.nodup_append.2 ⟨h,by simp,by rintro a ha b hb rfl;simp at hb;subst hb;exact q.1 ha⟩
theorem yE {p:α->Bool} {l:List α}:∀{out:List α},out.Nodup->(zC p out l).Nodup:=by
 induction l with
 | nil=>exact id
 | cons s l ih=>exact fun h=>ih (zYZ h)
def no:α->Bool:=fun _=>false
theorem yL (p q r:α->Bool) (hr:∀s,r s=(p s || q s)) (l:List α):∀(out acc:List α),zC p out (zC q acc l)=zC r (zC p out acc) l:=by
 induction l with
 | nil=>exact fun _ _=>rfl
 | cons s l ih =>
  intro out acc;rw[wQ,ih,wQ]
  congr 1
  unfold ins;by_cases h1:s∈acc
  ·rw[if_pos (.inl h1)];cases hp:p s
   ·rw[if_pos (.inl (mem_insAll.2 (.inr ⟨h1,hp⟩)))]
   ·rw[if_pos (.inr (by rw[hr,hp];rfl))]
  ·cases hq:q s
   ·rw[if_neg (by simp[h1]),yB];show ins p _ s=_;unfold ins;rw[hr,hq,Bool.or_false]
   ·rw[if_pos (.inr rfl),if_pos (.inr (by rw[hr,hq];simp))]
theorem zRW {l:List α}:∀{out:List α},(out++l).Nodup->zC no out l=out++l:=by
 induction l with
 | nil=>intro out _;simp[zGE]
 | cons s l ih =>
  intro out h;have hs:s∉out:=fun hm=>by
   have:=(List.nodup_append.1 h).2.2 s hm s (by simp);exact this rfl
  rw[wQ,ins,if_neg (by simp[hs,no]),ih (by simpa using h)];simp
end
def fv:Tp->List ByteArray
 | .var s=>[s]
 | .app a b=>zC no (zC no [] (fv a)) (fv b)
 | .all s a=>zC (fun x=>decide (x=s)) [] (fv a)
 | _=>[]
theorem zBW (t:Tp):(fv t).Nodup:=by
 cases t with
 | var s=>simp[fv]
 | app a b=>exact yE (yE List.nodup_nil)
 | all s a=>exact yE List.nodup_nil
 | _=>exact List.nodup_nil
theorem qU (t:Tp):(fv t).length<=t.sz:=by
 induction t with
 | app a b iha ihb =>
  have h1:=zM no (fv b) (zC no [] (fv a));have h2:=zM no (fv a) [];simp only[fv,Tp.sz];simp at h2;omega
 | all s a ih=>have h2:=zM (fun x=>decide (x=s)) (fv a) [];simp only[fv,Tp.sz];simp at h2;omega
 | _=>simp[fv,Tp.sz]
def mv:Tp->List Int
 | .mt n=>[n]
 | .app a b=>zC no (zC no [] (mv a)) (mv b)
 | .all _ a=>zC no [] (mv a)
 | _=>[]
def fr:Tp->List ByteArray->List ByteArray->List ByteArray
 | .var s,g,out=>if memb s g || memb s out then out else out++[s]
 | .app a b,g,out=>fr b g (fr a g out)
 | .all s a,g,out=>fr a (g++[s]) out
 | _,_,out=>out
theorem z3D (t:Tp):∀g out,fr t g out=zC (fun s=>memb s g) out (fv t):=by
 induction t with
 | var s =>
  intro g out;show fr (.var s) g out=ins (fun x=>memb x g) out s;by_cases h1:s∈g<;>by_cases h2:s∈out<;>simp[fr,ins,memb,h1,h2]
 | app a b iha ihb =>
  intro g out;simp only[fr,fv];rw[iha,ihb,yL _ no (fun s=>memb s g) (by simp[no]),yL _ no (fun s=>memb s g) (by simp[no])]
  rfl
 | all s a ih =>
  intro g out;simp only[fr,fv];rw[ih,yL _ _ (fun x=>memb x (g++[s])) (fun x=>by unfold memb;by_cases h1:x∈g<;>by_cases h2:x=s<;>simp[h1,h2])]
  rfl
 | _=>exact fun _ _=>rfl
theorem z5D (t:Tp):fr t [] []=fv t:=by
 rw[z3D];exact zRW (l:=fv t) (out:=[]) (by simpa using zBW t)
def zAN (t:Tp):ByteArray->Bool:=fun x=>decide (t.form=5) && decide (x=t.nam)
def zKL (p:ByteArray->Bool) (l:List Tp):List ByteArray:=l.foldl (fun out a=>zC p out (fv a)) []
theorem z0L {p:ByteArray->Bool} {l:List Tp} {k:Nat} (h:k<l.length):zKL p (l.take (k+1))=zC p (zKL p (l.take k)) (fv l[k]):=by
 simp only[zKL,List.take_succ_eq_append_getElem h,List.foldl_append,List.foldl_cons,List.foldl_nil]
theorem z4N (t:Tp) (h:¬t.form=2):fv t=zKL (zAN t) t.args:=by
 cases t with
 | var s=>exact absurd rfl h
 | app a b =>
  have:zAN (.app a b)=no:=by funext x;simp[zAN,Tp.form,no]
  rw[this];rfl
 | all s a =>
  have:zAN (.all s a)=fun x=>decide (x=s):=by funext x;by_cases h:x=s<;>simp[zAN,Tp.form,Tp.nam,h]
  rw[this];rfl
 | _=>rfl
theorem z2Q {t:Tp} {N:Nat} (h:t.sz<=N+1):∀a∈t.args,a.sz<=N:=by
 cases t<;>simp[Tp.args,Tp.sz] at h⊢<;>omega
theorem zDA (l:List ByteArray) (s:ByteArray):eSs l++[.lit (.string s)]=eSs (l++[s]):=by simp[eSs]
theorem zKT {p:ByteArray->Bool} {out:List ByteArray} {s:ByteArray} (h1:memb s out=false) (h2:p s=false):ins p out s=out++[s]:=by
 unfold ins;rw[if_neg];simp[h2];intro h;rw[zS h] at h1;cases h1
theorem zIH {p:ByteArray->Bool} {out:List ByteArray} {s:ByteArray} (h:memb s out=true∨p s=true):ins p out s=out:=by
 unfold ins;rw[if_pos];exact h.imp memb_iff.1 id
end Go.Proofs.YtdmbahepaglcbaaGreatDoor
