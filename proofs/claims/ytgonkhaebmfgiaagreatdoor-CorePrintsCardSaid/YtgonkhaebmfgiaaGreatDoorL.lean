/- The maker of core: the next number. No condition but that the numbers are such. -/
import Derived.Test.YtgonkhaebmfgiaaGreatDoorK
set_option linter.unusedSimpArgs false
set_option linter.unusedVariables false
namespace Go.Proofs.YtgonkhaebmfgiaaGreatDoor
open Go Fp
set_option maxRecDepth 10000
set_option maxHeartbeats 8000000
set_option linter.unusedVariables false
abbrev mkH (b:Nat) (l:List Int) (n:Int):List (Nat×HO):=[(b,HO.cells [.sl (eIs l),.lit (.int .i64 n)])]
structure Nums (l:List Int):Prop where
 len:l.length<=1000
 inR:∀i∈l,InR i
theorem Nums.drop {l:List Int} (h:Nums l):Nums (l.drop 1):=⟨by have:=h.len;rw[List.length_drop];omega,fun i hi=>h.inR i (List.mem_of_mem_drop hi)⟩
theorem zBY (l:List Int) (n:Int) (hl:Nums l):∃r:Nat,r<1000/\(l=[]->r=0)/\∀b,CallsG Tryz.prog (fnv 94) (mkH b l n) [pt b 0] [] fun r' o h=>r' = .lit (.int .i64 (r:Nat))/\o=0/\h=mkH b (l.drop 1) n:=by
 have hlen:=hl.len;cases l with
 | nil =>
  refine⟨0,by decide,fun _=>rfl,fun b=>?_⟩;refine zM (first:=[]) (cap:=[]) ttok mixed Tryz.func94 rfl (by rfl) rfl (Nat.le_of_ble_eq_true rfl) (by kernel_rfl) ?_;refine Wsem.of ttok mixed ?_;refine⟨0,_,_,rfl,rfl,?_⟩;exact⟨fun _=>⟨rfl,rfl,rfl⟩,fun h=>absurd rfl (of_decide_eq_false h)⟩
 | cons i l =>
  obtain⟨r,h1,h2⟩:=zBS (n:=i) (m:=1000) (hl.inR i List.mem_cons_self) (by decide) (by decide);refine⟨r,by omega,(fun h=>by cases h),fun b=>?_⟩;refine zM (first:=[]) (cap:=[]) ttok mixed Tryz.func94 rfl (by rfl) rfl (Nat.le_of_ble_eq_true rfl) (by kernel_rfl) ?_;refine Wsem.of ttok mixed ?_;refine⟨0,_,_,rfl,rfl,?_⟩;refine⟨fun h=>?_,fun h=>?_⟩
  ·have h:=of_decide_eq_true h;simp[eIs] at h;omega
  ·refine⟨0,_,_,rfl,rfl,?_⟩;refine⟨_,Int.le_refl _,rfl,rfl,?_⟩;refine .inl ⟨_,h2,?_⟩;refine⟨0,_,_,rfl,rfl,?_⟩;refine⟨by decide,by simp[eIs];omega,Int.le_refl _,.inr (z5H _),?_⟩;refine⟨rfl,0,_,rfl,Nat.le_of_ble_eq_true rfl,?_⟩;refine⟨rfl,rfl,?_⟩;show [(b,HO.cells (setAt [AV.sl (eIs (i::l)),.lit (.int .i64 n)] (0+0) [AV.sl (((eIs (i::l)).take (eIs (i::l)).length).drop 1)]))]=_;rw[List.take_length];rfl
def nm18:List ByteArray:=[⟨#[120]⟩,⟨#[121]⟩,⟨#[97]⟩,⟨#[98]⟩,⟨#[122,64,49]⟩]
def cn18:List ByteArray:=[⟨#[78]⟩,⟨#[67]⟩,⟨#[84,114,117,101]⟩,⟨#[75,64]⟩]
def pm18:List ByteArray:=[⟨#[97,100,100]⟩,⟨#[115,117,98]⟩,⟨#[109,117,108]⟩,⟨#[100,105,118]⟩,⟨#[101,113]⟩,⟨#[108,116]⟩]
theorem zZ2:∀r:Nat,r<5->nm18.getD r .empty∈nm18:=fun r hr=>by
 match r,hr with
 | 0,_|1,_|2,_|3,_|4,_=>simp[nm18]
 | n+5,h=>omega
theorem z0L:∀r:Nat,r<4->cn18.getD r .empty∈cn18:=fun r hr=>by
 match r,hr with
 | 0,_|1,_|2,_|3,_=>simp[cn18]
 | n+4,h=>omega
theorem zZD:∀r:Nat,r<6->pm18.getD r .empty∈pm18:=fun r hr=>by
 match r,hr with
 | 0,_|1,_|2,_|3,_|4,_|5,_=>simp[pm18]
 | n+6,h=>omega
theorem zA3 {n:Int} (hn:InR n):∃s,s∈nm18/\zF Tryz.prog 95 [.lit (.int .i64 n)] (.lit (.string s)):=by
 obtain⟨r,hr,hc⟩:=zBS hn (m:=5) (by decide) (by decide);refine⟨nm18.getD r .empty,zZ2 r (by omega),?_⟩;refine zD ttok mixed Tryz.func95 rfl (by rfl) (Nat.le_of_ble_eq_true rfl) (by kernel_rfl) ?_;refine .inl ⟨_,hc,?_⟩
 match r,hr with
 | 0,_|1,_|2,_|3,_|4,_=>exact⟨_,by decide,rfl,rfl,rfl⟩
 | n+5,h=>omega
theorem zCN {n:Int} (hn:InR n):∃s,s∈cn18/\zF Tryz.prog 96 [.lit (.int .i64 n)] (.lit (.string s)):=by
 obtain⟨r,hr,hc⟩:=zBS hn (m:=4) (by decide) (by decide);refine⟨cn18.getD r .empty,z0L r (by omega),?_⟩;refine zD ttok mixed Tryz.func96 rfl (by rfl) (Nat.le_of_ble_eq_true rfl) (by kernel_rfl) ?_;refine .inl ⟨_,hc,?_⟩
 match r,hr with
 | 0,_|1,_|2,_|3,_=>exact⟨_,by decide,rfl,rfl,rfl⟩
 | n+4,h=>omega
theorem zPI {n:Int} (hn:InR n):∃s,s∈pm18/\zF Tryz.prog 99 [.lit (.int .i64 n)] (.lit (.string s)):=by
 obtain⟨r,hr,hc⟩:=zBS hn (m:=6) (by decide) (by decide);refine⟨pm18.getD r .empty,zZD r (by omega),?_⟩;refine zD ttok mixed Tryz.func99 rfl (by rfl) (Nat.le_of_ble_eq_true rfl) (by kernel_rfl) ?_;refine .inl ⟨_,hc,?_⟩
 match r,hr with
 | 0,_|1,_|2,_|3,_|4,_|5,_=>exact⟨_,by decide,rfl,rfl,rfl⟩
 | n+6,h=>omega
def tyZ:AV := .agg [.lit (.int .i64 0),.lit (.int .i64 0),.lit (.string ByteArray.empty),.sl []]
def zG3 (b:Nat) (l:List Int) (n:Int) (r d K:Nat) (t:Tp) (l':List Int):Prop :=
 Wsem Tryz.prog (sn4 (bodyC Tryz.f97)) (mkC {vs:=[(0,.v (pt b 0)),(1,sv (d:Nat)),(4,.box 0 tyZ),(5,sv (r:Nat)),(6,sv (K:Nat))],hp:=mkH b l n})
   (fun c2=>yP tt Tryz.f97.results.toList (fun r o h=>r=eTy t/\o=0/\h=mkH b l' n) (den c2)) (fun _ _=>False) (fun c2=>yP tt Tryz.f97.results.toList (fun r o h=>r=eTy t/\o=0/\h=mkH b l' n) (den c2))
theorem x8 (b:Nat) (l:List Int) (n:Int) (d r:Nat) (hnext:CallsG Tryz.prog (fnv 94) (mkH b l n) [pt b 0] [] fun r' o h=>r' = .lit (.int .i64 (r:Nat))/\o=0/\h=mkH b (l.drop 1) n) (t:Tp) (l':List Int)
  (h:zG3 b (l.drop 1) n r d (if 2<d then r % 3 else r % 6) t l'):CallsG Tryz.prog (fnv 97) (mkH b l n) [pt b 0,.lit (.int .i64 (d:Nat))] [] fun r o h=>r=eTy t/\o=0/\h=mkH b l' n:=by
 refine zM (first:=[]) (cap:=[]) ttok mixed Tryz.func97 rfl (by rfl) rfl (Nat.le_of_ble_eq_true rfl) (by kernel_rfl) ?_;refine Wsem.seq ttok mixed ?_;refine Wsem.seq ttok mixed ?_;refine .inr (.inr (.inr (.inr (.inr (.inl ⟨[0],_,[],_,rfl,List.nodup_cons.2 ⟨by simp,List.nodup_nil⟩,rfl,hnext,?_⟩)))));rintro _ _ _ ⟨rfl,rfl,rfl⟩;refine Wsem.cut {vs:=[(0,.v (pt b 0)),(1,sv (d:Nat)),(4,.box 0 tyZ),(5,sv (r:Nat))],hp:=mkH b (l.drop 1) n} ⟨⟨rfl,rfl,rfl,rfl,trivial⟩,trivial,rfl⟩ ?_;refine Wsem.seq ttok mixed ?_;refine⟨by decide,?_⟩;refine Wsem.cut {vs:=[(0,.v (pt b 0)),(1,sv (d:Nat)),(4,.box 0 tyZ),(5,sv (r:Nat)),(6,sv ((r % 6:Nat):Int))],hp:=mkH b (l.drop 1) n} ⟨⟨rfl,rfl,rfl,rfl,rfl,trivial⟩,trivial,rfl⟩ ?_;refine Wsem.seq ttok mixed ?_;refine⟨fun h2=>?_,fun h2=>?_⟩
 ·have h2:2<d:=by have h:=of_decide_eq_true h2;omega
  rw[if_pos h2] at h;refine⟨by decide,?_⟩;refine Wsem.cut _ ?_ h;exact⟨⟨rfl,rfl,rfl,rfl,rfl,trivial⟩,trivial,rfl⟩
 ·have h2:¬2<d:=by have h:=of_decide_eq_false h2;omega
  rw[if_neg h2] at h;refine Wsem.cut _ ?_ h;exact⟨⟨rfl,rfl,rfl,rfl,rfl,trivial⟩,trivial,rfl⟩
theorem zRX (r m:Nat) (hr:r<1000) (hm:m=6∨m=14):IntKind.i64.wrap ((r:Int).tdiv (m:Int))=((r / m:Nat):Int):=by
 rw[show ((r:Int).tdiv (m:Int))=((r / m:Nat):Int) by simp];exact xC (by have:=Nat.div_le_self r m;omega)
theorem zSO {k:Nat} (h:k<1000):InR ((k:Nat):Int):=by unfold InR;omega
theorem zKD {r:Nat} (hr:r<1000):∃s,s∈wF/\zF Tryz.prog qR [.lit (.int .i64 (IntKind.i64.wrap ((r:Int).tdiv 6)))] (str s):=by
 obtain⟨s,hs,hc⟩:=zRY (zSO (k:=r / 6) (by have:=Nat.div_le_self r 6;omega));refine⟨s,hs,?_⟩;rw[show IntKind.i64.wrap ((r:Int).tdiv 6)=((r / 6:Nat):Int) from zRX r 6 hr (.inl rfl)];exact hc
theorem zXH (l:List Int) (n:Int) (r d:Nat) (hr:r<1000):∃s,s∈wF/\∀b,zG3 b l n r d 0 (.var s) l:=by
 obtain⟨s,hs,hc⟩:=zKD hr;refine⟨s,hs,fun b=>?_⟩;unfold zG3;refine Wsem.of ttok mixed ?_;refine⟨fun _=>?_,fun h=>absurd h (by decide)⟩;refine⟨by decide,?_⟩;refine .inl ⟨_,hc,?_⟩;exact⟨rfl,rfl,rfl⟩
theorem zY4 (l:List Int) (n:Int) (r d:Nat) (hr:r<1000):∃s,s∈wF/\∀b,zG3 b l n r d 1 (.var s) l:=by
 obtain⟨s,hs,hc⟩:=zKD hr;refine⟨s,hs,fun b=>?_⟩;unfold zG3;refine Wsem.of ttok mixed ?_;refine⟨fun h=>absurd h (by decide),fun _=>?_⟩;refine⟨fun _=>?_,fun h=>absurd h (by decide)⟩;refine⟨by decide,?_⟩;refine .inl ⟨_,hc,?_⟩;exact⟨rfl,rfl,rfl⟩
theorem zXE (b:Nat) (l:List Int) (n:Int) (r d:Nat):zG3 b l n r d 2 (.con ⟨#[73,110,116]⟩) l:=by
 unfold zG3;refine Wsem.of ttok mixed ?_;refine⟨fun h=>absurd h (by decide),fun _=>?_⟩;refine⟨fun h=>absurd h (by decide),fun _=>?_⟩;refine⟨fun _=>?_,fun h=>absurd h (by decide)⟩;exact⟨rfl,rfl,rfl⟩
abbrev zFO (b:Nat) (l:List Int) (n:Int) (d:Nat) (t:Tp) (l':List Int):Prop:=CallsG Tryz.prog (fnv 97) (mkH b l n) [pt b 0,.lit (.int .i64 (d:Nat))] [] fun r o h=>r=eTy t/\o=0/\h=mkH b l' n
theorem zDX {b:Nat} {l:List Int} {n:Int} {d:Nat} {t:Tp} {l':List Int} (hd:d<1000) (h:zFO b l n (d+1) t l'):CallsG Tryz.prog (fnv 97) (mkH b l n) [pt b 0,.lit (.int .i64 (IntKind.i64.wrap ((d:Int)+1)))] [] fun r o h=>r=eTy t/\o=0/\h=mkH b l' n:=by
 rw[wrap_succ (by omega)];exact h
theorem z3I (l:List Int) (n:Int) (r d:Nat) (hr:r<1000) (hd:d<1000) {t:Tp} {l':List Int} (h:∀b,zFO b l n (d+1) t l'):∃s,s∈wF/\∀b,zG3 b l n r d 5 (.all s t) l':=by
 obtain⟨s,hs,hc⟩:=zKD hr;refine⟨s,hs,fun b=>?_⟩;have h:=h b;unfold zG3;refine Wsem.of ttok mixed ?_;refine⟨fun h=>absurd h (by decide),fun _=>?_⟩;refine⟨fun h=>absurd h (by decide),fun _=>?_⟩;refine⟨fun h=>absurd h (by decide),fun _=>?_⟩;refine⟨fun h=>absurd h (by decide),fun _=>?_⟩;refine⟨fun h=>absurd h (by decide),fun _=>?_⟩;refine⟨by decide,?_⟩;refine .inl ⟨_,hc,?_⟩;refine .inr (.inr (.inr (.inr (.inr (.inl ⟨[0],_,[],_,rfl,List.nodup_cons.2 ⟨by simp,List.nodup_nil⟩,rfl,zDX hd h,?_⟩)))));rintro _ _ _ ⟨rfl,rfl,rfl⟩;exact⟨rfl,rfl,rfl⟩
theorem z4E (b:Nat) (l:List Int) (n:Int) (r d:Nat) (hd:d<1000) {t:Tp} {l':List Int} (h:zFO b l n (d+1) t l'):zG3 b l n r d 4 (.app (.con ⟨#[76]⟩) t) l':=by
 unfold zG3;refine Wsem.of ttok mixed ?_;refine⟨fun h=>absurd h (by decide),fun _=>?_⟩;refine⟨fun h=>absurd h (by decide),fun _=>?_⟩;refine⟨fun h=>absurd h (by decide),fun _=>?_⟩;refine⟨fun h=>absurd h (by decide),fun _=>?_⟩;refine⟨fun _=>?_,fun h=>absurd h (by decide)⟩;refine .inr (.inr (.inr (.inr (.inr (.inl ⟨[0],_,[],_,rfl,List.nodup_cons.2 ⟨by simp,List.nodup_nil⟩,rfl,zDX hd h,?_⟩)))));rintro _ _ _ ⟨rfl,rfl,rfl⟩;exact⟨rfl,rfl,rfl⟩
theorem z2I (b:Nat) (l:List Int) (n:Int) (r d:Nat) (hd:d<1000) {t u:Tp} {l' l'':List Int} (h:zFO b l n (d+1) t l') (h2:zFO b l' n (d+1) u l''):zG3 b l n r d 3 (.app (.app (.con arrow) t) u) l'':=by
 unfold zG3;refine Wsem.of ttok mixed ?_;refine⟨fun h=>absurd h (by decide),fun _=>?_⟩;refine⟨fun h=>absurd h (by decide),fun _=>?_⟩;refine⟨fun h=>absurd h (by decide),fun _=>?_⟩;refine⟨fun _=>?_,fun h=>absurd h (by decide)⟩;refine .inr (.inr (.inr (.inr (.inr (.inl ⟨[0],_,[],_,rfl,List.nodup_cons.2 ⟨by simp,List.nodup_nil⟩,rfl,zDX hd h,?_⟩)))));rintro _ _ _ ⟨rfl,rfl,rfl⟩;refine .inr (.inr (.inr ⟨[0],mkH b l' n,mkH b l'' n,eTy u,rfl,List.nodup_cons.2 ⟨by simp,List.nodup_nil⟩,rfl,zDX hd h2,?_⟩));refine .inl ⟨_,zT7 t u,?_⟩;refine⟨by kernel_rfl,?_⟩;exact⟨rfl,rfl,rfl⟩
theorem low4 {s:ByteArray} (h:s∈wF):Low 2000 s:=(zRK s h).mono (by decide)
theorem z5R:(⟨#[73,110,116]⟩:ByteArray)∈zCT:=by simp[zCT]
theorem l6:(⟨#[76]⟩:ByteArray)∈zCT:=by simp[zCT]
theorem z6B:arrow∈zCT:=by simp[zCT,arrow]
abbrev z3W (t:Tp):Prop:=good t
structure zXI (l l':List Int) (t:Tp):Prop where
 low:LowT 2000 t
 le:l'.length<=l.length
 gd:z3W t
 sz:t.sz<=5*(l.length-l'.length)+1
 nums:Nums l'
theorem zGB (k:Nat):∀(d:Nat) (l:List Int) (n:Int),d+k=3->Nums l->∃t l',zXI l l' t/\∀b,zFO b l n d t l':=by
 induction k with
 | zero =>
  intro d l n hd hl;obtain⟨r,hr,hr0,hnext⟩:=zBY l n hl;have hle:(l.drop 1).length<=l.length:=by simp
  have hd3:d=3:=by omega
  subst hd3;have mk:∀t,LowT 2000 t->z3W t->t.sz<=1->zXI l (l.drop 1) t:=fun t h1 h3 h2=>⟨h1,hle,h3,by omega,hl.drop⟩
  have h3:=Nat.mod_lt r (show 0<3 by decide)
  match hK:r % 3,h3 with
  | 0,_ =>
   obtain⟨s,hs,hT⟩:=zXH (l.drop 1) n r 3 hr;exact⟨.var s,l.drop 1,mk _ (low4 hs) hs (by simp[Tp.sz]),fun b=>x8 b l n 3 r (hnext b) _ _ (by rw[if_pos (by decide),hK];exact hT b)⟩
  | 1,_ =>
   obtain⟨s,hs,hT⟩:=zY4 (l.drop 1) n r 3 hr;exact⟨.var s,l.drop 1,mk _ (low4 hs) hs (by simp[Tp.sz]),fun b=>x8 b l n 3 r (hnext b) _ _ (by rw[if_pos (by decide),hK];exact hT b)⟩
  | 2,_=>exact⟨.con ⟨#[73,110,116]⟩,l.drop 1,mk _ trivial z5R (by simp[Tp.sz]),fun b=>x8 b l n 3 r (hnext b) _ _ (by rw[if_pos (by decide),hK];exact zXE b (l.drop 1) n r 3)⟩
  | j+3,h=>omega
 | succ k ih =>
  intro d l n hd hl;obtain⟨r,hr,hr0,hnext⟩:=zBY l n hl;have hle:(l.drop 1).length<=l.length:=by simp
  have hd3:¬2<d:=by omega
  have mk:∀t,LowT 2000 t->z3W t->t.sz<=1->zXI l (l.drop 1) t:=fun t h1 h3 h2=>⟨h1,hle,h3,by omega,hl.drop⟩
  have hne:¬r % 6=0->(l.drop 1).length+1=l.length:=fun h=>by
   cases l with
   | nil=>exact absurd (by rw[hr0 rfl]) h
   | cons i l=>simp
  have h6:=Nat.mod_lt r (show 0<6 by decide);obtain⟨t1,l1,ok1,hR1⟩:=ih (d+1) (l.drop 1) n (by omega) hl.drop;obtain⟨t2,l2,ok2,hR2⟩:=ih (d+1) l1 n (by omega) ok1.nums;obtain⟨a1,a2,ag,a3,a4⟩:=ok1;obtain⟨b1,b2,bg,b3,b4⟩:=ok2
  match hK:r % 6,h6 with
  | 0,_ =>
   obtain⟨s,hs,hT⟩:=zXH (l.drop 1) n r d hr;exact⟨.var s,l.drop 1,mk _ (low4 hs) hs (by simp[Tp.sz]),fun b=>x8 b l n d r (hnext b) _ _ (by rw[if_neg hd3,hK];exact hT b)⟩
  | 1,_ =>
   obtain⟨s,hs,hT⟩:=zY4 (l.drop 1) n r d hr;exact⟨.var s,l.drop 1,mk _ (low4 hs) hs (by simp[Tp.sz]),fun b=>x8 b l n d r (hnext b) _ _ (by rw[if_neg hd3,hK];exact hT b)⟩
  | 2,_=>exact⟨.con ⟨#[73,110,116]⟩,l.drop 1,mk _ trivial z5R (by simp[Tp.sz]),fun b=>x8 b l n d r (hnext b) _ _ (by rw[if_neg hd3,hK];exact zXE b (l.drop 1) n r d)⟩
  | 3,_ =>
   have:=hne (by omega);exact⟨.app (.app (.con arrow) t1) t2,l2,⟨⟨⟨trivial,a1⟩,b1⟩,by omega,⟨⟨z6B,ag⟩,bg⟩,by simp only[Tp.sz];omega,b4⟩,fun b=>x8 b l n d r (hnext b) _ _ (by rw[if_neg hd3,hK];exact z2I b (l.drop 1) n r d (by omega) (hR1 b) (hR2 b))⟩
  | 4,_ =>
   have:=hne (by omega);exact⟨.app (.con ⟨#[76]⟩) t1,l1,⟨⟨trivial,a1⟩,by omega,⟨l6,ag⟩,by simp only[Tp.sz];omega,a4⟩,fun b=>x8 b l n d r (hnext b) _ _ (by rw[if_neg hd3,hK];exact z4E b (l.drop 1) n r d (by omega) (hR1 b))⟩
  | 5,_ =>
   have:=hne (by omega);obtain⟨s,hs,hT⟩:=z3I (l.drop 1) n r d hr (by omega) hR1;exact⟨.all s t1,l1,⟨⟨low4 hs,a1⟩,by omega,⟨hs,ag⟩,by simp only[Tp.sz];omega,a4⟩,fun b=>x8 b l n d r (hnext b) _ _ (by rw[if_neg hd3,hK];exact hT b)⟩
  | j+6,h=>omega
open Classical in
noncomputable def nmF (n:Nat):ByteArray:=if h:InR (n:Int) then (zA3 h).choose else .empty
theorem z3G {n:Nat} (h:n<100000):zF Tryz.prog 95 [.lit (.int .i64 (n:Nat))] (str (nmF n)):=by
 have hr:InR (n:Int):=by unfold InR;omega
 unfold nmF;rw[dif_pos hr];exact (zA3 hr).choose_spec.2
theorem z3S {n:Nat} (h:n<100000):nmF n∈nm18:=by
 have hr:InR (n:Int):=by unfold InR;omega
 unfold nmF;rw[dif_pos hr];exact (zA3 hr).choose_spec.1
noncomputable def vsF (r:Nat):Nat->List ByteArray
 | 0=>[]
 | k+1=>if nmF (r / 4+k*(1+r % 2))∈vsF r k then vsF r k else vsF r k++[nmF (r / 4+k*(1+r % 2))]
theorem zM6 (r:Nat):∀k,(vsF r k).Nodup/\(vsF r k).length<=k
 | 0=>⟨List.nodup_nil,Nat.le_refl _⟩
 | k+1=>by
  obtain⟨h1,h2⟩:=zM6 r k;unfold vsF;split
  ·exact⟨h1,by omega⟩
  ·rename_i h;exact⟨List.nodup_append.2 ⟨h1,by simp,fun a ha b hb e=>by simp at hb;subst hb;subst e;exact h ha⟩,by simp;omega⟩
theorem zQE {r:Nat} (hr:r<1000):∀k,k<=4->∀v∈vsF r k,v∈nm18
 | 0,_=>fun v hv=>absurd hv List.not_mem_nil
 | k+1,hk=>fun v hv=>by
  unfold vsF at hv;split at hv
  ·exact zQE hr k (by omega) v hv
  ·rcases List.mem_append.1 hv with h|h
   ·exact zQE hr k (by omega) v h
   ·rw[List.mem_singleton.1 h];have h1:r % 2<=1:=by omega
    have h2:k*(1+r % 2)<=4*2:=Nat.mul_le_mul (by omega) (by omega);exact z3S (by omega)
theorem zKG (l:List Int) (n:Int) (hl:Nums l):∃vs,(vs.Nodup/\∀v∈vs,v∈nm18)/\vs.length<=3*(l.length-(l.drop 1).length)/\∀b,CallsG Tryz.prog (fnv 98) (mkH b l n) [pt b 0] [] fun r o h=>r = .sl (eSs vs)/\o=0/\h=mkH b (l.drop 1) n:=by
 obtain⟨r,hr,hr0,hnext⟩:=zBY l n hl;have h4:=Nat.mod_lt r (show 0<4 by decide);refine⟨vsF r (r % 4),⟨(zM6 r _).1,zQE hr _ (by omega)⟩,?_,fun b=>?_⟩
 ·have:=(zM6 r (r % 4)).2;cases l with
  | nil=>rw[hr0 rfl] at this⊢;simpa using this
  | cons i l=>simp;omega
 refine zM (first:=[]) (cap:=[]) ttok mixed Tryz.func98 rfl (by rfl) rfl (Nat.le_of_ble_eq_true rfl) (by kernel_rfl) ?_;refine Wsem.seq ttok mixed ?_;refine Wsem.seq ttok mixed ?_;refine .inr (.inr (.inr (.inr (.inr (.inl ⟨[0],_,[],_,rfl,List.nodup_cons.2 ⟨by simp,List.nodup_nil⟩,rfl,hnext b,?_⟩)))));rintro _ _ _ ⟨rfl,rfl,rfl⟩;refine Wsem.seq ttok mixed ?_;refine Wsem.seq ttok mixed ?_;refine⟨{k:Nat // k<=r % 4},fun k=>{vs:=[(3,sv (r:Nat)),(4,.v (.sl (eSs (vsF r k.1)))),(5,sv (k.1:Nat))],ow:=[(4,0,2)],hp:=mkH b (l.drop 1) n},fun k=>r % 4-k.1,⟨0,Nat.zero_le _⟩,⟨⟨rfl,rfl,rfl,trivial⟩,⟨trivial,trivial⟩,rfl⟩,?_⟩;rintro⟨k,hk⟩;refine⟨by decide,?_⟩;refine⟨fun h=>?_,fun h=>?_⟩
 ·have h:k<r % 4:=by
   have h:=of_decide_eq_true h;have e:((r:Int).tmod 4)=((r % 4:Nat):Int):=rfl;rw[e] at h;simp only at h;omega
  have hm2:=Nat.mod_lt r (show 0<2 by decide);have hd4:=Nat.div_le_self r 4;have hmul:k*(1+r % 2)<=8:=Nat.le_trans (Nat.mul_le_mul (show k<=4 by omega) (show 1+r % 2<=2 by omega)) (by decide);have ev:IntKind.i64.wrap (IntKind.i64.wrap ((r:Int).tdiv 4)+IntKind.i64.wrap ((k:Int)*IntKind.i64.wrap (1+(r:Int).tmod 2)))=((r / 4+k*(1+r % 2):Nat):Int):=by
   have e0:((r:Int).tmod 2)=((r % 2:Nat):Int):=rfl;have e1:IntKind.i64.wrap (1+(r:Int).tmod 2)=((1+r % 2:Nat):Int):=by rw[e0,show (1:Int)+((r % 2:Nat):Int)=((1+r % 2:Nat):Int) by omega];exact xC (by omega)
   have e2:IntKind.i64.wrap ((k:Int)*((1+r % 2:Nat):Int))=((k*(1+r % 2):Nat):Int):=by rw[show (k:Int)*((1+r % 2:Nat):Int)=((k*(1+r % 2):Nat):Int) from (Int.natCast_mul _ _).symm];exact xC (by omega)
   have e3:IntKind.i64.wrap ((r:Int).tdiv 4)=((r / 4:Nat):Int):=by rw[show ((r:Int).tdiv 4)=((r / 4:Nat):Int) by simp];exact xC (by omega)
   rw[e1,e2,e3,show ((r / 4:Nat):Int)+((k*(1+r % 2):Nat):Int)=((r / 4+k*(1+r % 2):Nat):Int) by omega];exact xC (by omega)
  have hcall:zF Tryz.prog 95 [.lit (.int .i64 (IntKind.i64.wrap (IntKind.i64.wrap ((r:Int).tdiv 4)+IntKind.i64.wrap ((k:Int)*IntKind.i64.wrap (1+(r:Int).tmod 2)))))] (str (nmF (r / 4+k*(1+r % 2)))):=by rw[ev];exact z3G (by omega)
  have hvl:=(zM6 r k).2;refine⟨by decide,?_⟩;refine⟨by decide,?_⟩;refine .inl ⟨_,hcall,?_⟩;refine .inl ⟨_,z3H (l:=vsF r k) (s:=nmF (r / 4+k*(1+r % 2))) (by omega),?_⟩;refine⟨fun h2=>?_,fun h2=>?_⟩
  ·have h2:nmF (r / 4+k*(1+r % 2))∉vsF r k:=fun hm=>by rw[memb_iff.2 hm] at h2;cases h2
   refine⟨by show (eSs (vsF r k)).length+1<=_;simp[eSs];omega,xU _,xU [_],?_⟩;refine⟨⟨k+1,h⟩,by simp;omega,⟨rfl,?_,svc (wrap_succ (k:=k) (by omega)),trivial⟩,⟨rfl,trivial⟩,rfl⟩;show SV.v (.sl (eSs (vsF r k)++[str (nmF (r / 4+k*(1+r % 2)))]))=SV.v (.sl (eSs (vsF r (k+1))));rw[vsF,if_neg h2];simp[eSs]
  ·have h2:nmF (r / 4+k*(1+r % 2))∈vsF r k:=memb_iff.1 (by cases hm:memb (nmF (r / 4+k*(1+r % 2))) (vsF r k) with|true=>rfl|false=>rw[hm] at h2;cases h2);refine⟨⟨k+1,h⟩,by simp;omega,⟨rfl,?_,svc (wrap_succ (k:=k) (by omega)),trivial⟩,⟨rfl,trivial⟩,rfl⟩;show SV.v (.sl (eSs (vsF r k)))=SV.v (.sl (eSs (vsF r (k+1))));rw[vsF,if_pos h2]
 ·have h:k=r % 4:=by
   have h:=of_decide_eq_false h;have e:((r:Int).tmod 4)=((r % 4:Nat):Int):=rfl;rw[e] at h;simp only at h;omega
  subst h;refine Wsem.cut {vs:=[(4,.v (.sl (eSs (vsF r (r % 4)))))],hp:=mkH b (l.drop 1) n} ⟨⟨rfl,trivial⟩,trivial,rfl⟩ ?_;refine Wsem.of ttok mixed ?_;exact⟨rfl,rfl,rfl⟩
def wH (b:Nat) (l:List Int) (n:Int) (r d K:Nat) (c:Cr) (l':List Int) (n':Int):Prop :=
 Wsem Tryz.prog (zAX (sn4 (bodyC Tryz.f52))) (mkC {vs:=[(0,.v (pt b 0)),(1,sv (d:Nat)),(4,.box 0 eZ),(5,sv (r:Nat)),(6,sv (K:Nat))],hp:=mkH b l n})
   (fun c2=>yP tt Tryz.f52.results.toList (fun r o h=>r=eC c/\o=0/\h=mkH b l' n') (den c2)) (fun _ _=>False) (fun c2=>yP tt Tryz.f52.results.toList (fun r o h=>r=eC c/\o=0/\h=mkH b l' n') (den c2))
abbrev qW (b:Nat) (l:List Int) (n:Int) (d:Nat) (c:Cr) (l':List Int) (n':Int):Prop:=CallsG Tryz.prog (fnv 52) (mkH b l n) [pt b 0,.lit (.int .i64 (d:Nat))] [] fun r o h=>r=eC c/\o=0/\h=mkH b l' n'
theorem zBQ (b:Nat) (l:List Int) (n:Int) (d r:Nat) (hn : -100000<n/\n<100000) (hnext:CallsG Tryz.prog (fnv 94) (mkH b l n) [pt b 0] [] fun r' o h=>r' = .lit (.int .i64 (r:Nat))/\o=0/\h=mkH b (l.drop 1) n) (c:Cr) (l':List Int) (n':Int)
  (h:wH b (l.drop 1) (n-1) r d (if 5<d∨n-1<1 then r % 4 else r % 14) c l' n'):qW b l n d c l' n':=by
 have hw:IntKind.i64.wrap (n-1)=n-1:=wrap_in (by unfold InR;omega);refine zM (first:=[]) (cap:=[]) ttok mixed Tryz.func52 rfl (by rfl) rfl (Nat.le_of_ble_eq_true rfl) (by kernel_rfl) ?_;refine Wsem.seq ttok mixed ?_;refine Wsem.seq ttok mixed ?_;refine .inr (.inr (.inr (.inr (.inr (.inl ⟨[0],_,[],_,rfl,List.nodup_cons.2 ⟨by simp,List.nodup_nil⟩,rfl,hnext,?_⟩)))));rintro _ _ _ ⟨rfl,rfl,rfl⟩;refine Wsem.seq ttok mixed ?_;refine⟨by decide,?_⟩;refine Wsem.cut {vs:=[(0,.v (pt b 0)),(1,sv (d:Nat)),(4,.box 0 eZ),(5,sv (r:Nat)),(6,sv ((r % 14:Nat):Int))],hp:=mkH b (l.drop 1) n} ⟨⟨rfl,rfl,rfl,rfl,rfl,trivial⟩,trivial,rfl⟩ ?_;refine Wsem.seq ttok mixed ?_;refine⟨0,_,_,rfl,rfl,?_⟩;refine⟨rfl,0,_,rfl,Nat.le_of_ble_eq_true rfl,?_⟩;refine Wsem.cut {vs:=[(0,.v (pt b 0)),(1,sv (d:Nat)),(4,.box 0 eZ),(5,sv (r:Nat)),(6,sv ((r % 14:Nat):Int))],hp:=mkH b (l.drop 1) (n-1)} ⟨⟨rfl,rfl,rfl,rfl,rfl,trivial⟩,trivial,by show mkH b (l.drop 1) (IntKind.i64.wrap (n-1))=_;rw[hw]⟩ ?_;refine Wsem.seq ttok mixed ?_;have yes:(5<d∨n-1<1)->wH b (l.drop 1) (n-1) r d (r % 4) c l' n':=fun hh=>by rw[if_pos hh] at h;exact h
 have no:¬(5<d∨n-1<1)->wH b (l.drop 1) (n-1) r d (r % 14) c l' n':=fun hh=>by rw[if_neg hh] at h;exact h
 clear h;refine⟨fun h1=>?_,fun h1=>?_⟩
 ·have h1:¬5<d:=by have h:=of_decide_eq_false h1;omega
  refine⟨0,_,_,rfl,rfl,?_⟩;refine⟨fun h2=>?_,fun h2=>?_⟩
  ·have h2:n-1<1:=of_decide_eq_true h2;refine⟨by decide,?_⟩;refine Wsem.cut _ ?_ (yes (.inr h2));exact⟨⟨rfl,rfl,rfl,rfl,rfl,trivial⟩,trivial,rfl⟩
  ·have h2:¬n-1<1:=of_decide_eq_false h2;refine Wsem.cut _ ?_ (no fun h=>h.elim h1 h2);exact⟨⟨rfl,rfl,rfl,rfl,rfl,trivial⟩,trivial,rfl⟩
 ·have h1:5<d:=by have h:=of_decide_eq_true h1;omega
  refine⟨by decide,?_⟩;refine Wsem.cut _ ?_ (yes (.inl h1));exact⟨⟨rfl,rfl,rfl,rfl,rfl,trivial⟩,trivial,rfl⟩
theorem zC3 {r:Nat} (hr:r<1000):IntKind.i64.wrap ((r:Int).tdiv 14)=((r / 14:Nat):Int):=zRX r 14 hr (.inr rfl)
theorem zZL {r:Nat} (hr:r<1000):InR ((r / 14:Nat):Int):=zSO (by have:=Nat.div_le_self r 14;omega)
theorem zNW {r:Nat} (hr:r<1000):∃s,s∈nm18/\zF Tryz.prog 95 [.lit (.int .i64 (IntKind.i64.wrap ((r:Int).tdiv 14)))] (str s):=by
 rw[zC3 hr];exact zA3 (zZL hr)
theorem z5Q {r:Nat} (hr:r<1000):∃s,s∈cn18/\zF Tryz.prog 96 [.lit (.int .i64 (IntKind.i64.wrap ((r:Int).tdiv 14)))] (str s):=by
 rw[zC3 hr];exact zCN (zZL hr)
theorem z3F {r:Nat} (hr:r<1000):∃s,s∈pm18/\zF Tryz.prog 99 [.lit (.int .i64 (IntKind.i64.wrap ((r:Int).tdiv 14)))] (str s):=by
 rw[zC3 hr];exact zPI (zZL hr)
theorem z02 {r:Nat} (hr:r<1000):∃s,s∈wF/\zF Tryz.prog qR [.lit (.int .i64 (IntKind.i64.wrap ((r:Int).tdiv 14)))] (str s):=by
 rw[zC3 hr];exact zRY (zZL hr)
theorem zX0 (l:List Int) (n:Int) (r d:Nat) (hr:r<1000):∃s,s∈nm18/\∀b,wH b l n r d 0 (vr s) l n:=by
 obtain⟨s,hs,hc⟩:=zNW hr;refine⟨s,hs,fun b=>?_⟩;unfold wH;refine Wsem.of ttok mixed ?_;refine⟨fun _=>?_,fun h=>absurd h (by decide)⟩;refine⟨by decide,?_⟩;refine .inl ⟨_,hc,?_⟩;exact⟨rfl,rfl,rfl⟩
theorem zX5 (l:List Int) (n:Int) (r d:Nat) (hr:r<1000):∃s,s∈nm18/\∀b,wH b l n r d 1 (vr s) l n:=by
 obtain⟨s,hs,hc⟩:=zNW hr;refine⟨s,hs,fun b=>?_⟩;unfold wH;refine Wsem.of ttok mixed ?_;refine⟨fun h=>absurd h (by decide),fun _=>?_⟩;refine⟨fun _=>?_,fun h=>absurd h (by decide)⟩;refine⟨by decide,?_⟩;refine .inl ⟨_,hc,?_⟩;exact⟨rfl,rfl,rfl⟩
theorem zWB (l:List Int) (n:Int) (r d:Nat) (hr:r<1000):∃s,s∈cn18/\∀b,wH b l n r d 2 (.node 2 0 s .no .nil) l n:=by
 obtain⟨s,hs,hc⟩:=z5Q hr;refine⟨s,hs,fun b=>?_⟩;unfold wH;refine Wsem.of ttok mixed ?_;refine⟨fun h=>absurd h (by decide),fun _=>?_⟩;refine⟨fun h=>absurd h (by decide),fun _=>?_⟩;refine⟨fun _=>?_,fun h=>absurd h (by decide)⟩;refine⟨by decide,?_⟩;refine .inl ⟨_,hc,?_⟩;exact⟨rfl,rfl,rfl⟩
theorem zWY (l:List Int) (n:Int) (r d:Nat) (hr:r<1000):∃i:Int,(-3<=i/\i<100)/\∀b,wH b l n r d 3 (.node 3 i .empty .no .nil) l n:=by
 refine⟨IntKind.i64.wrap (IntKind.i64.wrap ((r:Int).tdiv 14)-3),by rw[zC3 hr,wrap_in (by unfold InR;omega)];omega,fun b=>?_⟩;unfold wH;refine Wsem.of ttok mixed ?_;refine⟨fun h=>absurd h (by decide),fun _=>?_⟩;refine⟨fun h=>absurd h (by decide),fun _=>?_⟩;refine⟨fun h=>absurd h (by decide),fun _=>?_⟩;refine⟨fun _=>?_,fun h=>absurd h (by decide)⟩;refine⟨by decide,?_⟩;exact⟨rfl,rfl,rfl⟩
theorem yO {b:Nat} {l:List Int} {n:Int} {d:Nat} {c:Cr} {l':List Int} {n':Int} (hd:d<1000) (h:qW b l n (d+1) c l' n'):CallsG Tryz.prog (fnv 52) (mkH b l n) [pt b 0,.lit (.int .i64 (IntKind.i64.wrap ((d:Int)+1)))] [] fun r o h=>r=eC c/\o=0/\h=mkH b l' n':=by
 rw[wrap_succ (by omega)];exact h
theorem z3U (b:Nat) (l:List Int) (n:Int) (r d:Nat) (hr:r<1000) (hd:d<1000) {p q:Cr} {l1 l2:List Int} {n1 n2:Int} (h1:qW b l n (d+1) p l1 n1) (h2:qW b l1 n1 (d+1) q l2 n2):wH b l n r d 4 (.node 4 0 .empty .no (.kid p (.kid q .nil))) l2 n2:=by
 unfold wH;refine Wsem.of ttok mixed ?_;refine⟨fun h=>absurd h (by decide),fun _=>?_⟩;refine⟨fun h=>absurd h (by decide),fun _=>?_⟩;refine⟨fun h=>absurd h (by decide),fun _=>?_⟩;refine⟨fun h=>absurd h (by decide),fun _=>?_⟩;refine⟨fun _=>?_,fun h=>absurd h (by decide)⟩;refine .inr (.inr (.inr (.inr (.inr (.inl ⟨[0],_,[],_,rfl,List.nodup_cons.2 ⟨by simp,List.nodup_nil⟩,rfl,yO hd h1,?_⟩)))));rintro _ _ _ ⟨rfl,rfl,rfl⟩;refine .inr (.inr (.inr ⟨[0],mkH b l1 n1,mkH b l2 n2,eC q,rfl,List.nodup_cons.2 ⟨by simp,List.nodup_nil⟩,rfl,yO hd h2,?_⟩));refine⟨by kernel_rfl,?_⟩;exact⟨rfl,rfl,rfl⟩
theorem z2N (b:Nat) (l:List Int) (n:Int) (r d:Nat) (hr:r<1000) (hd:d<1000) {p q:Cr} {l1 l2:List Int} {n1 n2:Int} (h1:qW b l n (d+1) p l1 n1) (h2:qW b l1 n1 (d+1) q l2 n2):wH b l n r d 5 (.node 4 0 .empty .no (.kid p (.kid q .nil))) l2 n2:=by
 unfold wH;refine Wsem.of ttok mixed ?_;refine⟨fun h=>absurd h (by decide),fun _=>?_⟩;refine⟨fun h=>absurd h (by decide),fun _=>?_⟩;refine⟨fun h=>absurd h (by decide),fun _=>?_⟩;refine⟨fun h=>absurd h (by decide),fun _=>?_⟩;refine⟨fun h=>absurd h (by decide),fun _=>?_⟩;refine⟨fun _=>?_,fun h=>absurd h (by decide)⟩;refine .inr (.inr (.inr (.inr (.inr (.inl ⟨[0],_,[],_,rfl,List.nodup_cons.2 ⟨by simp,List.nodup_nil⟩,rfl,yO hd h1,?_⟩)))));rintro _ _ _ ⟨rfl,rfl,rfl⟩;refine .inr (.inr (.inr ⟨[0],mkH b l1 n1,mkH b l2 n2,eC q,rfl,List.nodup_cons.2 ⟨by simp,List.nodup_nil⟩,rfl,yO hd h2,?_⟩));refine⟨by kernel_rfl,?_⟩;exact⟨rfl,rfl,rfl⟩
theorem z0W (l:List Int) (n:Int) (r d:Nat) (hr:r<1000) (hd:d<1000) {p q:Cr} {l1 l2:List Int} {n1 n2:Int} (h1:∀b,qW b l n (d+1) p l1 n1) (h2:∀b,qW b l1 n1 (d+1) q l2 n2):∃s,s∈pm18/\∀b,wH b l n r d 12 (.node 10 0 s .no (.kid p (.kid q .nil))) l2 n2:=by
 obtain⟨s,hs,hc⟩:=z3F hr;refine⟨s,hs,fun b=>?_⟩;have h1:=h1 b;have h2:=h2 b;unfold wH;refine Wsem.of ttok mixed ?_;refine⟨fun h=>absurd h (by decide),fun _=>?_⟩;refine⟨fun h=>absurd h (by decide),fun _=>?_⟩;refine⟨fun h=>absurd h (by decide),fun _=>?_⟩;refine⟨fun h=>absurd h (by decide),fun _=>?_⟩;refine⟨fun h=>absurd h (by decide),fun _=>?_⟩;refine⟨fun h=>absurd h (by decide),fun _=>?_⟩;refine⟨fun h=>absurd h (by decide),fun _=>?_⟩;refine⟨fun h=>absurd h (by decide),fun _=>?_⟩;refine⟨fun h=>absurd h (by decide),fun _=>?_⟩;refine⟨fun h=>absurd h (by decide),fun _=>?_⟩;refine⟨fun h=>absurd h (by decide),fun _=>?_⟩;refine⟨fun h=>absurd h (by decide),fun _=>?_⟩;refine⟨fun _=>?_,fun h=>absurd h (by decide)⟩;refine .inr (.inr (.inr (.inr (.inr (.inl ⟨[0],_,[],_,rfl,List.nodup_cons.2 ⟨by simp,List.nodup_nil⟩,rfl,yO hd h1,?_⟩)))));rintro _ _ _ ⟨rfl,rfl,rfl⟩;refine⟨by decide,?_⟩;refine .inl ⟨_,hc,?_⟩;refine .inr (.inr (.inr ⟨[0],mkH b l1 n1,mkH b l2 n2,eC q,rfl,List.nodup_cons.2 ⟨by simp,List.nodup_nil⟩,rfl,yO hd h2,?_⟩));refine⟨by kernel_rfl,?_⟩;exact⟨rfl,rfl,rfl⟩
theorem z2S (l:List Int) (n:Int) (r d:Nat) (hr:r<1000) (hd:d<1000) {t:Tp} {p:Cr} {l1 l2:List Int} {n2:Int} (h1:∀b,zFO b l n 1 t l1) (h2:∀b,qW b l1 n (d+1) p l2 n2):∃s,s∈nm18/\∀b,wH b l n r d 6 (.node 5 0 s t (.kid p .nil)) l2 n2:=by
 obtain⟨s,hs,hc⟩:=zNW hr;refine⟨s,hs,fun b=>?_⟩;have h1:=h1 b;have h2:=h2 b;unfold wH;refine Wsem.of ttok mixed ?_;refine⟨fun h=>absurd h (by decide),fun _=>?_⟩;refine⟨fun h=>absurd h (by decide),fun _=>?_⟩;refine⟨fun h=>absurd h (by decide),fun _=>?_⟩;refine⟨fun h=>absurd h (by decide),fun _=>?_⟩;refine⟨fun h=>absurd h (by decide),fun _=>?_⟩;refine⟨fun h=>absurd h (by decide),fun _=>?_⟩;refine⟨fun _=>?_,fun h=>absurd h (by decide)⟩;refine .inr (.inr (.inr (.inr (.inr (.inl ⟨[0],_,[],_,rfl,List.nodup_cons.2 ⟨by simp,List.nodup_nil⟩,rfl,h1,?_⟩)))));rintro _ _ _ ⟨rfl,rfl,rfl⟩;refine⟨by decide,?_⟩;refine .inl ⟨_,hc,?_⟩;refine .inr (.inr (.inr ⟨[0],mkH b l1 n,mkH b l2 n2,eC p,rfl,List.nodup_cons.2 ⟨by simp,List.nodup_nil⟩,rfl,yO hd h2,?_⟩));refine⟨by kernel_rfl,?_⟩;exact⟨rfl,rfl,rfl⟩
theorem z15 (l:List Int) (n:Int) (r d:Nat) (hr:r<1000) (hd:d<1000) {t:Tp} {p:Cr} {l1 l2:List Int} {n2:Int} (h1:∀b,zFO b l n 1 t l1) (h2:∀b,qW b l1 n (d+1) p l2 n2):∃s,s∈nm18/\∀b,wH b l n r d 7 (.node 5 0 s t (.kid p .nil)) l2 n2:=by
 obtain⟨s,hs,hc⟩:=zNW hr;refine⟨s,hs,fun b=>?_⟩;have h1:=h1 b;have h2:=h2 b;unfold wH;refine Wsem.of ttok mixed ?_;refine⟨fun h=>absurd h (by decide),fun _=>?_⟩;refine⟨fun h=>absurd h (by decide),fun _=>?_⟩;refine⟨fun h=>absurd h (by decide),fun _=>?_⟩;refine⟨fun h=>absurd h (by decide),fun _=>?_⟩;refine⟨fun h=>absurd h (by decide),fun _=>?_⟩;refine⟨fun h=>absurd h (by decide),fun _=>?_⟩;refine⟨fun h=>absurd h (by decide),fun _=>?_⟩;refine⟨fun _=>?_,fun h=>absurd h (by decide)⟩;refine .inr (.inr (.inr (.inr (.inr (.inl ⟨[0],_,[],_,rfl,List.nodup_cons.2 ⟨by simp,List.nodup_nil⟩,rfl,h1,?_⟩)))));rintro _ _ _ ⟨rfl,rfl,rfl⟩;refine⟨by decide,?_⟩;refine .inl ⟨_,hc,?_⟩;refine .inr (.inr (.inr ⟨[0],mkH b l1 n,mkH b l2 n2,eC p,rfl,List.nodup_cons.2 ⟨by simp,List.nodup_nil⟩,rfl,yO hd h2,?_⟩));refine⟨by kernel_rfl,?_⟩;exact⟨rfl,rfl,rfl⟩
theorem z4B (b:Nat) (l:List Int) (n:Int) (r d:Nat) (hr:r<1000) (hd:d<1000) {t:Tp} {p:Cr} {l1 l2:List Int} {n2:Int} (h1:zFO b l n 1 t l1) (h2:qW b l1 n (d+1) p l2 n2):wH b l n r d 8 (.node 6 0 .empty t (.kid p .nil)) l2 n2:=by
 unfold wH;refine Wsem.of ttok mixed ?_;refine⟨fun h=>absurd h (by decide),fun _=>?_⟩;refine⟨fun h=>absurd h (by decide),fun _=>?_⟩;refine⟨fun h=>absurd h (by decide),fun _=>?_⟩;refine⟨fun h=>absurd h (by decide),fun _=>?_⟩;refine⟨fun h=>absurd h (by decide),fun _=>?_⟩;refine⟨fun h=>absurd h (by decide),fun _=>?_⟩;refine⟨fun h=>absurd h (by decide),fun _=>?_⟩;refine⟨fun h=>absurd h (by decide),fun _=>?_⟩;refine⟨fun _=>?_,fun h=>absurd h (by decide)⟩;refine .inr (.inr (.inr (.inr (.inr (.inl ⟨[0],_,[],_,rfl,List.nodup_cons.2 ⟨by simp,List.nodup_nil⟩,rfl,h1,?_⟩)))));rintro _ _ _ ⟨rfl,rfl,rfl⟩;refine .inr (.inr (.inr ⟨[0],mkH b l1 n,mkH b l2 n2,eC p,rfl,List.nodup_cons.2 ⟨by simp,List.nodup_nil⟩,rfl,yO hd h2,?_⟩));refine⟨by kernel_rfl,?_⟩;exact⟨rfl,rfl,rfl⟩
theorem z3O (l:List Int) (n:Int) (r d:Nat) (hr:r<1000) (hd:d<1000) {p:Cr} {l2:List Int} {n2:Int} (h2:∀b,qW b l n (d+1) p l2 n2):∃s,s∈wF/\∀b,wH b l n r d 9 (.node 7 0 s .no (.kid p .nil)) l2 n2:=by
 obtain⟨s,hs,hc⟩:=z02 hr;refine⟨s,hs,fun b=>?_⟩;have h2:=h2 b;unfold wH;refine Wsem.of ttok mixed ?_;refine⟨fun h=>absurd h (by decide),fun _=>?_⟩;refine⟨fun h=>absurd h (by decide),fun _=>?_⟩;refine⟨fun h=>absurd h (by decide),fun _=>?_⟩;refine⟨fun h=>absurd h (by decide),fun _=>?_⟩;refine⟨fun h=>absurd h (by decide),fun _=>?_⟩;refine⟨fun h=>absurd h (by decide),fun _=>?_⟩;refine⟨fun h=>absurd h (by decide),fun _=>?_⟩;refine⟨fun h=>absurd h (by decide),fun _=>?_⟩;refine⟨fun h=>absurd h (by decide),fun _=>?_⟩;refine⟨fun _=>?_,fun h=>absurd h (by decide)⟩;refine⟨by decide,?_⟩;refine .inl ⟨_,hc,?_⟩;refine .inr (.inr (.inr (.inr (.inr (.inl ⟨[0],_,[],_,rfl,List.nodup_cons.2 ⟨by simp,List.nodup_nil⟩,rfl,yO hd h2,?_⟩)))));rintro _ _ _ ⟨rfl,rfl,rfl⟩;exact⟨rfl,rfl,rfl⟩
theorem zZI (b:Nat) (l:List Int) (n:Int) (r d:Nat) (hr:r<1000) (hd:d<1000) {t:Tp} {l1:List Int} (h1:zFO b l n 1 t l1):wH b l n r d 13 (.node 11 0 .empty t .nil) l1 n:=by
 unfold wH;refine Wsem.of ttok mixed ?_;refine⟨fun h=>absurd h (by decide),fun _=>?_⟩;refine⟨fun h=>absurd h (by decide),fun _=>?_⟩;refine⟨fun h=>absurd h (by decide),fun _=>?_⟩;refine⟨fun h=>absurd h (by decide),fun _=>?_⟩;refine⟨fun h=>absurd h (by decide),fun _=>?_⟩;refine⟨fun h=>absurd h (by decide),fun _=>?_⟩;refine⟨fun h=>absurd h (by decide),fun _=>?_⟩;refine⟨fun h=>absurd h (by decide),fun _=>?_⟩;refine⟨fun h=>absurd h (by decide),fun _=>?_⟩;refine⟨fun h=>absurd h (by decide),fun _=>?_⟩;refine⟨fun h=>absurd h (by decide),fun _=>?_⟩;refine⟨fun h=>absurd h (by decide),fun _=>?_⟩;refine⟨fun h=>absurd h (by decide),fun _=>?_⟩;refine .inr (.inr (.inr (.inr (.inr (.inl ⟨[0],_,[],_,rfl,List.nodup_cons.2 ⟨by simp,List.nodup_nil⟩,rfl,h1,?_⟩)))));rintro _ _ _ ⟨rfl,rfl,rfl⟩;exact⟨rfl,rfl,rfl⟩
def zOY (bs:List Bdg) (ks:List AV):AV := .agg [.lit (.int .i64 8),.lit (.int .i64 0),.lit (.string ByteArray.empty),.lit (.int .i64 0),.lit (.int .i64 0),.lit (.string ByteArray.empty),.sl [],.sl ks,.sl (yM bs),.sl []]
theorem z0T (b:Nat) (l:List Int) (n:Int) (r d:Nat) (hd:d<1000) {vs:List ByteArray} {l0 l1 l2:List Int} {n1 n2:Int} {p:Cr} (hv:vs.length<=1000) (hnm:CallsG Tryz.prog (fnv 98) (mkH b l n) [pt b 0] [] fun r o h=>r = .sl (eSs vs)/\o=0/\h=mkH b l0 n)
  (st:Nat->List Bdg×List Int×Int) (h0:st 0=([],l0,n)) (hst:∀k (hk:k<vs.length),∃t p lm,zFO b (st k).2.1 (st k).2.2 1 t lm/\qW b lm (st k).2.2 (d+1) p (st (k+1)).2.1 (st (k+1)).2.2/\(st (k+1)).1=(st k).1++[(vs[k],t,p)])
  (hlen:∀k,k<=vs.length->(st k).1.length=k) (h2:qW b (st vs.length).2.1 (st vs.length).2.2 (d+1) p l2 n2):wH b l n r d 10 (.node 8 0 .empty .no (lst [p] (st vs.length).1 [])) l2 n2:=by
 unfold wH;refine Wsem.of ttok mixed ?_;refine⟨fun h=>absurd h (by decide),fun _=>?_⟩;refine⟨fun h=>absurd h (by decide),fun _=>?_⟩;refine⟨fun h=>absurd h (by decide),fun _=>?_⟩;refine⟨fun h=>absurd h (by decide),fun _=>?_⟩;refine⟨fun h=>absurd h (by decide),fun _=>?_⟩;refine⟨fun h=>absurd h (by decide),fun _=>?_⟩;refine⟨fun h=>absurd h (by decide),fun _=>?_⟩;refine⟨fun h=>absurd h (by decide),fun _=>?_⟩;refine⟨fun h=>absurd h (by decide),fun _=>?_⟩;refine⟨fun h=>absurd h (by decide),fun _=>?_⟩;refine⟨fun _=>?_,fun h=>absurd h (by decide)⟩;refine .inr (.inr (.inr (.inr (.inr (.inl ⟨[0],_,[],_,rfl,List.nodup_cons.2 ⟨by simp,List.nodup_nil⟩,rfl,hnm,?_⟩)))));rintro _ _ _ ⟨rfl,rfl,rfl⟩;refine⟨{k:Nat // k<=vs.length},fun k=>{vs:=[(0,.v (pt b 0)),(1,sv (d:Nat)),(4,.box 0 eZ),(10,.v (.sl (eSs vs))),(11,.box 0 (zOY (st k.1).1 [])),(12,sv (k.1:Nat))],ow:=[(11,8,16)],hp:=mkH b (st k.1).2.1 (st k.1).2.2},fun k=>vs.length-k.1,⟨0,Nat.zero_le _⟩,⟨⟨rfl,rfl,rfl,rfl,?_,rfl,trivial⟩,⟨trivial,trivial⟩,?_⟩,?_⟩
 ·rw[h0];rfl
 ·show mkH b l0 n=mkH b (st 0).2.1 (st 0).2.2;rw[h0]
 rintro⟨k,hk⟩;refine⟨fun h=>?_,fun h=>?_⟩
 ·have h:k<vs.length:=by have h:=of_decide_eq_true h;simp[eSs] at h;omega
  obtain⟨t,p',lm,g1,g2,g3⟩:=hst k h;have hl:=hlen k hk;obtain⟨⟨bs,la,na⟩,hs⟩:∃s,s=st k:=⟨_,rfl⟩
  obtain⟨⟨bs',lb,nb⟩,hs'⟩:∃s,s=st (k+1):=⟨_,rfl⟩
  rw[<-hs] at g1 g2 g3 hl;rw[<-hs'] at g2 g3;simp only at g1 g2 g3 hl;have hx:(eSs vs)[k]? = some (str vs[k]):=by simp[eSs,h]
  generalize vs[k]=x at g3 hx;simp only[<-hs];refine .inr (.inr (.inr (.inr (.inr (.inl ⟨[0],_,[],_,rfl,List.nodup_cons.2 ⟨by simp,List.nodup_nil⟩,rfl,g1,?_⟩)))));rintro _ _ _ ⟨rfl,rfl,rfl⟩;refine⟨_,by omega,hx,rfl,?_⟩;refine .inr (.inr (.inr ⟨[0],mkH b lm na,mkH b lb nb,eC p',rfl,List.nodup_cons.2 ⟨by simp,List.nodup_nil⟩,rfl,yO hd g2,?_⟩));refine⟨by show (yM bs).length+1<=_;simp[yM];omega,jZ _,jZ [(x,t,p')],?_⟩;refine⟨by kernel_rfl,?_⟩;refine⟨⟨k+1,h⟩,by simp;omega,⟨rfl,rfl,rfl,rfl,?_,svc (wrap_succ (k:=k) (by omega)),trivial⟩,⟨rfl,trivial⟩,?_⟩
  ·have e:yM (st (k+1)).1=yM bs++[eBd (x,t,p')]:=by rw[<-hs',g3];simp[yM]
   show SV.box 0 (AV.agg [.lit (.int .i64 8),.lit (.int .i64 0),.lit (.string ByteArray.empty),.lit (.int .i64 0),.lit (.int .i64 0),.lit (.string ByteArray.empty),.sl [],.sl [],.sl (yM bs++[eBd (x,t,p')]),.sl []])=SV.box 0 (zOY (st (k+1)).1 []);unfold zOY;rw[e]
  ·show mkH b lb nb=mkH b (st (k+1)).2.1 (st (k+1)).2.2;rw[<-hs']
 ·have h:k=vs.length:=by have h:=of_decide_eq_false h;simp[eSs] at h;omega
  subst h;have ec:zOY (st vs.length).1 [eC p]=eC (.node 8 0 .empty .no (lst [p] (st vs.length).1 [])):=by
   obtain⟨e0,e1,e2⟩:=zX8 (⟨8,0,.empty,.no,[p],(st vs.length).1,[]⟩:Nd);have e0:(Cr.node 8 0 .empty .no (lst [p] (st vs.length).1 [])).e3 0=eCs [p]:=e0;have e1:(Cr.node 8 0 .empty .no (lst [p] (st vs.length).1 [])).e3 1=yM (st vs.length).1:=e1;have e2:(Cr.node 8 0 .empty .no (lst [p] (st vs.length).1 [])).e3 2=xO []:=e2;unfold eC zOY;rw[e0,e1,e2]
   rfl
  refine .inr (.inr (.inr (.inr (.inr (.inl ⟨[0],_,[],_,rfl,List.nodup_cons.2 ⟨by simp,List.nodup_nil⟩,rfl,yO hd h2,?_⟩)))));rintro _ _ _ ⟨rfl,rfl,rfl⟩;exact⟨ec,rfl,rfl⟩
end Go.Proofs.YtgonkhaebmfgiaaGreatDoor
