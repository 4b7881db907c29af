/- The maker's names. No condition but that the number is such. -/
import Derived.Test.YtdmbahepaglcbaaGreatDoorF
set_option linter.unusedSimpArgs false
set_option linter.unusedVariables false
namespace Go.Proofs.YtdmbahepaglcbaaGreatDoor
open Go Fp
set_option maxRecDepth 10000
set_option maxHeartbeats 8000000
set_option linter.unusedVariables false
def nm18:List ByteArray:=[⟨#[120]⟩,⟨#[121]⟩,⟨#[97]⟩,⟨#[98]⟩,⟨#[122,64,49]⟩]
def cn18:List ByteArray:=[⟨#[78]⟩,⟨#[67]⟩,⟨#[84,114,117,101]⟩,⟨#[75,64]⟩]
def pm18:List ByteArray:=[⟨#[97,100,100]⟩,⟨#[115,117,98]⟩,⟨#[109,117,108]⟩,⟨#[100,105,118]⟩,⟨#[101,113]⟩,⟨#[108,116]⟩]
theorem z8V:∀r:Nat,r<5->nm18.getD r .empty∈nm18:=fun r hr=>by
 match r,hr with
 | 0,_|1,_|2,_|3,_|4,_=>simp[nm18]
 | n+5,h=>omega
theorem z9O:∀r:Nat,r<4->cn18.getD r .empty∈cn18:=fun r hr=>by
 match r,hr with
 | 0,_|1,_|2,_|3,_=>simp[cn18]
 | n+4,h=>omega
theorem z8N:∀r:Nat,r<6->pm18.getD r .empty∈pm18:=fun r hr=>by
 match r,hr with
 | 0,_|1,_|2,_|3,_|4,_|5,_=>simp[pm18]
 | n+6,h=>omega
theorem zCH {n:Int} (hn:InR n):∃s,s∈nm18/\zF Tryz.prog 71 [.lit (.int .i64 n)] (.lit (.string s)):=by
 obtain⟨r,hr,hc⟩:=jS hn (m:=5) (by decide) (by decide);refine⟨nm18.getD r .empty,z8V r (by omega),?_⟩;refine zG ttok mixed Tryz.func71 rfl (by rfl) (Nat.le_of_ble_eq_true rfl) (by kernel_rfl) ?_;refine .inl ⟨_,hc,?_⟩
 match r,hr with
 | 0,_|1,_|2,_|3,_|4,_=>exact⟨_,by decide,rfl,rfl,rfl⟩
 | n+5,h=>omega
theorem zDQ {n:Int} (hn:InR n):∃s,s∈cn18/\zF Tryz.prog 72 [.lit (.int .i64 n)] (.lit (.string s)):=by
 obtain⟨r,hr,hc⟩:=jS hn (m:=4) (by decide) (by decide);refine⟨cn18.getD r .empty,z9O r (by omega),?_⟩;refine zG ttok mixed Tryz.func72 rfl (by rfl) (Nat.le_of_ble_eq_true rfl) (by kernel_rfl) ?_;refine .inl ⟨_,hc,?_⟩
 match r,hr with
 | 0,_|1,_|2,_|3,_=>exact⟨_,by decide,rfl,rfl,rfl⟩
 | n+4,h=>omega
theorem zSF {n:Int} (hn:InR n):∃s,s∈pm18/\zF Tryz.prog 75 [.lit (.int .i64 n)] (.lit (.string s)):=by
 obtain⟨r,hr,hc⟩:=jS hn (m:=6) (by decide) (by decide);refine⟨pm18.getD r .empty,z8N r (by omega),?_⟩;refine zG ttok mixed Tryz.func75 rfl (by rfl) (Nat.le_of_ble_eq_true rfl) (by kernel_rfl) ?_;refine .inl ⟨_,hc,?_⟩
 match r,hr with
 | 0,_|1,_|2,_|3,_|4,_|5,_=>exact⟨_,by decide,rfl,rfl,rfl⟩
 | n+6,h=>omega
def tyZ:AV := .agg [.lit (.int .i64 0),.lit (.int .i64 0),.lit (.string ByteArray.empty),.sl []]
def zI6 (b:Nat) (l:List Int) (n:Int) (r d K:Nat) (t:Tp) (l':List Int):Prop :=
 Wsem Tryz.prog (sn4 (bodyC Tryz.f73)) (mkC {vs:=[(0,.v (pt b 0)),(1,sv (d:Nat)),(4,.box 0 tyZ),(5,sv (r:Nat)),(6,sv (K:Nat))],hp:=mkH b l n})
   (fun c2=>wZ tt Tryz.f73.results.toList (fun r o h=>r=eTy t/\o=0/\h=mkH b l' n) (den c2)) (fun _ _=>False) (fun c2=>wZ tt Tryz.f73.results.toList (fun r o h=>r=eTy t/\o=0/\h=mkH b l' n) (den c2))
theorem wU (b:Nat) (l:List Int) (n:Int) (d r:Nat) (hnext:CallsG Tryz.prog (fnv 70) (mkH b l n) [pt b 0] [] fun r' o h=>r' = .lit (.int .i64 (r:Nat))/\o=0/\h=mkH b (l.drop 1) n) (t:Tp) (l':List Int)
  (h:zI6 b (l.drop 1) n r d (if 2<d then r % 3 else r % 6) t l'):CallsG Tryz.prog (fnv 73) (mkH b l n) [pt b 0,.lit (.int .i64 (d:Nat))] [] fun r o h=>r=eTy t/\o=0/\h=mkH b l' n:=by
 refine yF (first:=[]) (cap:=[]) ttok mixed Tryz.func73 rfl (by rfl) rfl (Nat.le_of_ble_eq_true rfl) (by kernel_rfl) ?_;refine Wsem.seq ttok mixed ?_;refine Wsem.seq ttok mixed ?_;refine .inr (.inr (.inr (.inr (.inr (.inl ⟨[0],_,[],_,rfl,List.nodup_cons.2 ⟨by simp,List.nodup_nil⟩,rfl,hnext,?_⟩)))));rintro _ _ _ ⟨rfl,rfl,rfl⟩;refine Wsem.cut {vs:=[(0,.v (pt b 0)),(1,sv (d:Nat)),(4,.box 0 tyZ),(5,sv (r:Nat))],hp:=mkH b (l.drop 1) n} ⟨⟨rfl,rfl,rfl,rfl,trivial⟩,trivial,rfl⟩ ?_;refine Wsem.seq ttok mixed ?_;refine⟨by decide,?_⟩;refine Wsem.cut {vs:=[(0,.v (pt b 0)),(1,sv (d:Nat)),(4,.box 0 tyZ),(5,sv (r:Nat)),(6,sv ((r % 6:Nat):Int))],hp:=mkH b (l.drop 1) n} ⟨⟨rfl,rfl,rfl,rfl,rfl,trivial⟩,trivial,rfl⟩ ?_;refine Wsem.seq ttok mixed ?_;refine⟨fun h2=>?_,fun h2=>?_⟩
 ·have h2:2<d:=by have h:=of_decide_eq_true h2;omega
  rw[if_pos h2] at h;refine⟨by decide,?_⟩;refine Wsem.cut _ ?_ h;exact⟨⟨rfl,rfl,rfl,rfl,rfl,trivial⟩,trivial,rfl⟩
 ·have h2:¬2<d:=by have h:=of_decide_eq_false h2;omega
  rw[if_neg h2] at h;refine Wsem.cut _ ?_ h;exact⟨⟨rfl,rfl,rfl,rfl,rfl,trivial⟩,trivial,rfl⟩
theorem zYT (r m:Nat) (hr:r<1000) (hm:m=6∨m=14):IntKind.i64.wrap ((r:Int).tdiv (m:Int))=((r / m:Nat):Int):=by
 rw[show ((r:Int).tdiv (m:Int))=((r / m:Nat):Int) by simp];exact yH (by have:=Nat.div_le_self r m;omega)
theorem zYO {k:Nat} (h:k<1000):InR ((k:Nat):Int):=by unfold InR;omega
theorem zL2 {r:Nat} (hr:r<1000):∃s,s∈xY/\zF Tryz.prog zAE [.lit (.int .i64 (IntKind.i64.wrap ((r:Int).tdiv 6)))] (str s):=by
 obtain⟨s,hs,hc⟩:=zRF (zYO (k:=r / 6) (by have:=Nat.div_le_self r 6;omega));refine⟨s,hs,?_⟩;rw[show IntKind.i64.wrap ((r:Int).tdiv 6)=((r / 6:Nat):Int) from zYT r 6 hr (.inl rfl)];exact hc
theorem z7S (l:List Int) (n:Int) (r d:Nat) (hr:r<1000):∃s,s∈xY/\∀b,zI6 b l n r d 0 (.var s) l:=by
 obtain⟨s,hs,hc⟩:=zL2 hr;refine⟨s,hs,fun b=>?_⟩;unfold zI6;refine Wsem.of ttok mixed ?_;refine⟨fun _=>?_,fun h=>absurd h (by decide)⟩;refine⟨by decide,?_⟩;refine .inl ⟨_,hc,?_⟩;exact⟨rfl,rfl,rfl⟩
theorem z3G (l:List Int) (n:Int) (r d:Nat) (hr:r<1000):∃s,s∈xY/\∀b,zI6 b l n r d 1 (.var s) l:=by
 obtain⟨s,hs,hc⟩:=zL2 hr;refine⟨s,hs,fun b=>?_⟩;unfold zI6;refine Wsem.of ttok mixed ?_;refine⟨fun h=>absurd h (by decide),fun _=>?_⟩;refine⟨fun _=>?_,fun h=>absurd h (by decide)⟩;refine⟨by decide,?_⟩;refine .inl ⟨_,hc,?_⟩;exact⟨rfl,rfl,rfl⟩
theorem z4H (b:Nat) (l:List Int) (n:Int) (r d:Nat):zI6 b l n r d 2 (.con ⟨#[73,110,116]⟩) l:=by
 unfold zI6;refine Wsem.of ttok mixed ?_;refine⟨fun h=>absurd h (by decide),fun _=>?_⟩;refine⟨fun h=>absurd h (by decide),fun _=>?_⟩;refine⟨fun _=>?_,fun h=>absurd h (by decide)⟩;exact⟨rfl,rfl,rfl⟩
abbrev zH6 (b:Nat) (l:List Int) (n:Int) (d:Nat) (t:Tp) (l':List Int):Prop:=CallsG Tryz.prog (fnv 73) (mkH b l n) [pt b 0,.lit (.int .i64 (d:Nat))] [] fun r o h=>r=eTy t/\o=0/\h=mkH b l' n
theorem zFL {b:Nat} {l:List Int} {n:Int} {d:Nat} {t:Tp} {l':List Int} (hd:d<1000) (h:zH6 b l n (d+1) t l'):CallsG Tryz.prog (fnv 73) (mkH b l n) [pt b 0,.lit (.int .i64 (IntKind.i64.wrap ((d:Int)+1)))] [] fun r o h=>r=eTy t/\o=0/\h=mkH b l' n:=by
 rw[wrap_succ (by omega)];exact h
theorem zbT (l:List Int) (n:Int) (r d:Nat) (hr:r<1000) (hd:d<1000) {t:Tp} {l':List Int} (h:∀b,zH6 b l n (d+1) t l'):∃s,s∈xY/\∀b,zI6 b l n r d 5 (.all s t) l':=by
 obtain⟨s,hs,hc⟩:=zL2 hr;refine⟨s,hs,fun b=>?_⟩;have h:=h b;unfold zI6;refine Wsem.of ttok mixed ?_;refine⟨fun h=>absurd h (by decide),fun _=>?_⟩;refine⟨fun h=>absurd h (by decide),fun _=>?_⟩;refine⟨fun h=>absurd h (by decide),fun _=>?_⟩;refine⟨fun h=>absurd h (by decide),fun _=>?_⟩;refine⟨fun h=>absurd h (by decide),fun _=>?_⟩;refine⟨by decide,?_⟩;refine .inl ⟨_,hc,?_⟩;refine .inr (.inr (.inr (.inr (.inr (.inl ⟨[0],_,[],_,rfl,List.nodup_cons.2 ⟨by simp,List.nodup_nil⟩,rfl,zFL hd h,?_⟩)))));rintro _ _ _ ⟨rfl,rfl,rfl⟩;exact⟨rfl,rfl,rfl⟩
theorem zdL (b:Nat) (l:List Int) (n:Int) (r d:Nat) (hd:d<1000) {t:Tp} {l':List Int} (h:zH6 b l n (d+1) t l'):zI6 b l n r d 4 (.app (.con ⟨#[76]⟩) t) l':=by
 unfold zI6;refine Wsem.of ttok mixed ?_;refine⟨fun h=>absurd h (by decide),fun _=>?_⟩;refine⟨fun h=>absurd h (by decide),fun _=>?_⟩;refine⟨fun h=>absurd h (by decide),fun _=>?_⟩;refine⟨fun h=>absurd h (by decide),fun _=>?_⟩;refine⟨fun _=>?_,fun h=>absurd h (by decide)⟩;refine .inr (.inr (.inr (.inr (.inr (.inl ⟨[0],_,[],_,rfl,List.nodup_cons.2 ⟨by simp,List.nodup_nil⟩,rfl,zFL hd h,?_⟩)))));rintro _ _ _ ⟨rfl,rfl,rfl⟩;exact⟨rfl,rfl,rfl⟩
theorem zdP (b:Nat) (l:List Int) (n:Int) (r d:Nat) (hd:d<1000) {t u:Tp} {l' l'':List Int} (h:zH6 b l n (d+1) t l') (h2:zH6 b l' n (d+1) u l''):zI6 b l n r d 3 (.app (.app (.con arrow) t) u) l'':=by
 unfold zI6;refine Wsem.of ttok mixed ?_;refine⟨fun h=>absurd h (by decide),fun _=>?_⟩;refine⟨fun h=>absurd h (by decide),fun _=>?_⟩;refine⟨fun h=>absurd h (by decide),fun _=>?_⟩;refine⟨fun _=>?_,fun h=>absurd h (by decide)⟩;refine .inr (.inr (.inr (.inr (.inr (.inl ⟨[0],_,[],_,rfl,List.nodup_cons.2 ⟨by simp,List.nodup_nil⟩,rfl,zFL hd h,?_⟩)))));rintro _ _ _ ⟨rfl,rfl,rfl⟩;refine .inr (.inr (.inr ⟨[0],mkH b l' n,mkH b l'' n,eTy u,rfl,List.nodup_cons.2 ⟨by simp,List.nodup_nil⟩,rfl,zFL hd h2,?_⟩));refine .inl ⟨_,jB t u,?_⟩;refine⟨by kernel_rfl,?_⟩;exact⟨rfl,rfl,rfl⟩
theorem low4 {s:ByteArray} (h:s∈xY):Low 2000 s:=(zUL s h).mono (by decide)
theorem zd0:(⟨#[73,110,116]⟩:ByteArray)∈jD:=by simp[jD]
theorem l6:(⟨#[76]⟩:ByteArray)∈jD:=by simp[jD]
theorem zeX:arrow∈jD:=by simp[jD,arrow]
abbrev zcY (t:Tp):Prop:=good t
structure z5X (l l':List Int) (t:Tp):Prop where
 low:zGG 2000 t
 le:l'.length<=l.length
 gd:zcY t
 sz:t.sz<=5*(l.length-l'.length)+1
 nums:Nums l'
theorem zHD (k:Nat):∀(d:Nat) (l:List Int) (n:Int),d+k=3->Nums l->∃t l',z5X l l' t/\∀b,zH6 b l n d t l':=by
 induction k with
 | zero =>
  intro d l n hd hl;obtain⟨r,hr,hr0,hnext⟩:=zDE l n hl;have hle:(l.drop 1).length<=l.length:=by simp
  have hd3:d=3:=by omega
  subst hd3;have mk:∀t,zGG 2000 t->zcY t->t.sz<=1->z5X l (l.drop 1) t:=fun t h1 h3 h2=>⟨h1,hle,h3,by omega,hl.drop⟩
  have h3:=Nat.mod_lt r (show 0<3 by decide)
  match hK:r % 3,h3 with
  | 0,_ =>
   obtain⟨s,hs,hT⟩:=z7S (l.drop 1) n r 3 hr;exact⟨.var s,l.drop 1,mk _ (low4 hs) hs (by simp[Tp.sz]),fun b=>wU b l n 3 r (hnext b) _ _ (by rw[if_pos (by decide),hK];exact hT b)⟩
  | 1,_ =>
   obtain⟨s,hs,hT⟩:=z3G (l.drop 1) n r 3 hr;exact⟨.var s,l.drop 1,mk _ (low4 hs) hs (by simp[Tp.sz]),fun b=>wU b l n 3 r (hnext b) _ _ (by rw[if_pos (by decide),hK];exact hT b)⟩
  | 2,_=>exact⟨.con ⟨#[73,110,116]⟩,l.drop 1,mk _ trivial zd0 (by simp[Tp.sz]),fun b=>wU b l n 3 r (hnext b) _ _ (by rw[if_pos (by decide),hK];exact z4H b (l.drop 1) n r 3)⟩
  | j+3,h=>omega
 | succ k ih =>
  intro d l n hd hl;obtain⟨r,hr,hr0,hnext⟩:=zDE l n hl;have hle:(l.drop 1).length<=l.length:=by simp
  have hd3:¬2<d:=by omega
  have mk:∀t,zGG 2000 t->zcY t->t.sz<=1->z5X l (l.drop 1) t:=fun t h1 h3 h2=>⟨h1,hle,h3,by omega,hl.drop⟩
  have hne:¬r % 6=0->(l.drop 1).length+1=l.length:=fun h=>by
   cases l with
   | nil=>exact absurd (by rw[hr0 rfl]) h
   | cons i l=>simp
  have h6:=Nat.mod_lt r (show 0<6 by decide);obtain⟨t1,l1,ok1,hR1⟩:=ih (d+1) (l.drop 1) n (by omega) hl.drop;obtain⟨t2,l2,ok2,hR2⟩:=ih (d+1) l1 n (by omega) ok1.nums;obtain⟨a1,a2,ag,a3,a4⟩:=ok1;obtain⟨b1,b2,bg,b3,b4⟩:=ok2
  match hK:r % 6,h6 with
  | 0,_ =>
   obtain⟨s,hs,hT⟩:=z7S (l.drop 1) n r d hr;exact⟨.var s,l.drop 1,mk _ (low4 hs) hs (by simp[Tp.sz]),fun b=>wU b l n d r (hnext b) _ _ (by rw[if_neg hd3,hK];exact hT b)⟩
  | 1,_ =>
   obtain⟨s,hs,hT⟩:=z3G (l.drop 1) n r d hr;exact⟨.var s,l.drop 1,mk _ (low4 hs) hs (by simp[Tp.sz]),fun b=>wU b l n d r (hnext b) _ _ (by rw[if_neg hd3,hK];exact hT b)⟩
  | 2,_=>exact⟨.con ⟨#[73,110,116]⟩,l.drop 1,mk _ trivial zd0 (by simp[Tp.sz]),fun b=>wU b l n d r (hnext b) _ _ (by rw[if_neg hd3,hK];exact z4H b (l.drop 1) n r d)⟩
  | 3,_ =>
   have:=hne (by omega);exact⟨.app (.app (.con arrow) t1) t2,l2,⟨⟨⟨trivial,a1⟩,b1⟩,by omega,⟨⟨zeX,ag⟩,bg⟩,by simp only[Tp.sz];omega,b4⟩,fun b=>wU b l n d r (hnext b) _ _ (by rw[if_neg hd3,hK];exact zdP b (l.drop 1) n r d (by omega) (hR1 b) (hR2 b))⟩
  | 4,_ =>
   have:=hne (by omega);exact⟨.app (.con ⟨#[76]⟩) t1,l1,⟨⟨trivial,a1⟩,by omega,⟨l6,ag⟩,by simp only[Tp.sz];omega,a4⟩,fun b=>wU b l n d r (hnext b) _ _ (by rw[if_neg hd3,hK];exact zdL b (l.drop 1) n r d (by omega) (hR1 b))⟩
  | 5,_ =>
   have:=hne (by omega);obtain⟨s,hs,hT⟩:=zbT (l.drop 1) n r d hr (by omega) hR1;exact⟨.all s t1,l1,⟨⟨low4 hs,a1⟩,by omega,⟨hs,ag⟩,by simp only[Tp.sz];omega,a4⟩,fun b=>wU b l n d r (hnext b) _ _ (by rw[if_neg hd3,hK];exact hT b)⟩
  | j+6,h=>omega
end Go.Proofs.YtdmbahepaglcbaaGreatDoor
