/- The least core of a type, by its form. No condition but that the numbers are such. -/
import Derived.Test.YtdmbahepaglcbaaGreatDoorU
set_option linter.unusedSimpArgs false
set_option linter.unusedVariables false
namespace Go.Proofs.YtdmbahepaglcbaaGreatDoor
open Go Fp
set_option maxRecDepth 10000
set_option maxHeartbeats 8000000
set_option linter.unusedVariables false
abbrev zTP (b:Nat) (l:List Int) (n:Int) (v:V9) (s:ByteArray) (l':List Int):Prop:=CallsG Tryz.prog (fnv 89) (mkH b l n) [pt b 0,eV v] [] fun r' o h=>r' = .lit (.string s)/\o=0/\h=mkH b l' n
theorem z1B {b:Nat} {l:List Int} {n:Int} {v:V9} {r:Nat} {l1:List Int} (h1:yX b l n 7 r l1):LfT b l n v (.con yE) (zYF (IntKind.i64.wrap ((r:Int)-2))) l1:=by
 unfold LfT;refine Wsem.of ttok mixed ?_;refine .inl ⟨_,yU _,?_⟩;refine⟨fun h=>absurd h (by decide),fun _=>?_⟩;have hsp:zC Tryz.prog 93 [eTy (.con yE)] (.tup [eTy (.con yE),.sl []]):=yY (.con yE) (by decide);refine .inl ⟨_,hsp,?_⟩;refine⟨fun _=>?_,fun h=>absurd h (by decide)⟩;refine⟨fun _=>?_,fun h=>absurd h (by decide)⟩;refine .inr (.inr (.inr (.inl ⟨[0],mkH b l n,mkH b l1 n,_,rfl,zD,rfl,h1,?_⟩)));exact⟨rfl,rfl,rfl⟩
theorem z5Q (r:Nat) (hr:r<2):[AV.lit (.string zBR),.lit (.string zEV)][((r:Nat):Int).toNat]? = some (.lit (.string (if r=0 then zBR else zEV))):=by
 match r,hr with
 | 0,_=>rfl
 | 1,_=>rfl
theorem zXE {b:Nat} {l:List Int} {n:Int} {v:V9} {r:Nat} {l1:List Int} (hr:r<2) (h1:yX b l n 2 r l1):LfT b l n v (.con yC) (zEN (if r=0 then zBR else zEV)) l1:=by
 unfold LfT;refine Wsem.of ttok mixed ?_;refine .inl ⟨_,yU _,?_⟩;refine⟨fun h=>Bool.noConfusion (show false=true from h),fun _=>?_⟩;have hsp:zC Tryz.prog 93 [eTy (.con yC)] (.tup [eTy (.con yC),.sl []]):=yY (.con yC) (by decide);refine .inl ⟨_,hsp,?_⟩;refine⟨fun _=>?_,fun h=>Bool.noConfusion (show true=false from h)⟩;refine⟨fun h=>Bool.noConfusion (show false=true from h),fun _=>?_⟩;refine⟨fun _=>?_,fun h=>Bool.noConfusion (show true=false from h)⟩;refine⟨fun _=>?_,fun h=>Bool.noConfusion (show true=false from h)⟩;refine .inr (.inr (.inr (.inl ⟨[0],mkH b l n,mkH b l1 n,_,rfl,zD,rfl,h1,?_⟩)));refine⟨_,by omega,z5Q r hr,rfl,?_⟩;exact⟨rfl,rfl,rfl⟩
theorem z4G {b:Nat} {l:List Int} {n:Int} {v:V9} {a:Tp}:LfT b l n v (lsT a) (xR a (zEN sN)) l:=by
 unfold LfT;refine Wsem.of ttok mixed ?_;refine .inl ⟨_,yU _,?_⟩;refine⟨fun h=>Bool.noConfusion (show false=true from h),fun _=>?_⟩;have hsp:zC Tryz.prog 93 [eTy (lsT a)] (.tup [eTy (.con sL),.sl (zO [a])]):=yY (lsT a) (Nat.le_of_ble_eq_true rfl);refine .inl ⟨_,hsp,?_⟩;refine⟨fun _=>?_,fun h=>Bool.noConfusion (show true=false from h)⟩;refine⟨fun h=>Bool.noConfusion (show false=true from h),fun _=>?_⟩;refine⟨fun _=>?_,fun h=>Bool.noConfusion (show true=false from h)⟩;refine⟨fun h=>Bool.noConfusion (show false=true from h),fun _=>?_⟩;refine⟨fun _=>?_,fun h=>Bool.noConfusion (show true=false from h)⟩;refine⟨fun _=>?_,fun h=>Bool.noConfusion (show true=false from h)⟩;refine⟨fun _=>?_,fun h=>Bool.noConfusion (show true=false from h)⟩;refine .inl ⟨_,zCV sN [a] (Nat.le_of_ble_eq_true rfl),?_⟩;exact⟨rfl,rfl,rfl⟩
theorem z2S {b:Nat} {l:List Int} {n:Int} {v:V9} {x:ByteArray}:LfT b l n v (.var x) (.node 11 0 .empty (.var x) .nil) l:=by
 unfold LfT;refine Wsem.of ttok mixed ?_;refine .inl ⟨_,yU _,?_⟩;refine⟨fun h=>Bool.noConfusion (show false=true from h),fun _=>?_⟩;have hsp:zC Tryz.prog 93 [eTy (.var x)] (.tup [eTy (.var x),.sl []]):=yY (.var x) (Nat.le_of_ble_eq_true rfl);refine .inl ⟨_,hsp,?_⟩;refine⟨fun h=>Bool.noConfusion (show false=true from h),fun _=>?_⟩;refine⟨fun h=>Bool.noConfusion (show false=true from h),fun _=>?_⟩;refine⟨fun h=>Bool.noConfusion (show false=true from h),fun _=>?_⟩;refine⟨fun h=>Bool.noConfusion (show false=true from h),fun _=>?_⟩;exact⟨rfl,rfl,rfl⟩
theorem z4Y {b:Nat} {l l1 l2:List Int} {n:Int} {v:V9} {x y:Tp} {p q:Cr} (h1:zEX b l n v x p l1) (h2:zEX b l1 n v y q l2):LfT b l n v (prT x y) (zBJ (zBJ (xR y (xR x (zEN sP))) p) q) l2:=by
 unfold LfT;refine Wsem.of ttok mixed ?_;refine .inl ⟨_,yU _,?_⟩;refine⟨fun h=>Bool.noConfusion (show false=true from h),fun _=>?_⟩;have hsp:zC Tryz.prog 93 [eTy (prT x y)] (.tup [eTy (.con sP),.sl (zO [x,y])]):=yY (prT x y) (Nat.le_of_ble_eq_true rfl);refine .inl ⟨_,hsp,?_⟩;refine⟨fun _=>?_,fun h=>Bool.noConfusion (show true=false from h)⟩;refine⟨fun h=>Bool.noConfusion (show false=true from h),fun _=>?_⟩;refine⟨fun _=>?_,fun h=>Bool.noConfusion (show true=false from h)⟩;refine⟨fun h=>Bool.noConfusion (show false=true from h),fun _=>?_⟩;refine⟨fun _=>?_,fun h=>Bool.noConfusion (show true=false from h)⟩;refine⟨fun h=>Bool.noConfusion (show false=true from h),fun _=>?_⟩;refine⟨fun _=>?_,fun h=>Bool.noConfusion (show true=false from h)⟩;refine⟨fun _=>?_,fun h=>Bool.noConfusion (show true=false from h)⟩;refine⟨fun _=>?_,fun h=>Bool.noConfusion (show true=false from h)⟩;refine .inl ⟨_,zCV sP [x,y] (Nat.le_of_ble_eq_true rfl),?_⟩;refine⟨_,by decide,rfl,rfl,?_⟩;refine .inr (.inr (.inr ⟨[0],mkH b l n,mkH b l1 n,_,rfl,zD,rfl,h1,?_⟩));refine .inl ⟨_,wE _ _,?_⟩;refine⟨_,by decide,rfl,rfl,?_⟩;refine .inr (.inr (.inr ⟨[0],mkH b l1 n,mkH b l2 n,_,rfl,zD,rfl,h2,?_⟩));refine .inl ⟨_,wE _ _,?_⟩;refine⟨by kernel_rfl,?_⟩;exact⟨rfl,rfl,rfl⟩
theorem z5M {b:Nat} {l l1 l2:List Int} {n:Int} {v:V9} {a r:Tp} {s:ByteArray} {p:Cr} (hv:v.L.length<=100000/\v.deep<=100000) (h1:zTP b l n v s l1) (h2:zEX b l1 n (v.more s a) r p l2):LfT b l n v (fnT a r) (zKF s a p) l2:=by
 unfold LfT;refine Wsem.of ttok mixed ?_;refine .inl ⟨_,yU _,?_⟩;refine⟨fun _=>?_,fun h=>Bool.noConfusion (show true=false from h)⟩;refine .inr (.inr (.inr (.inl ⟨[0],mkH b l n,mkH b l1 n,_,rfl,zD,rfl,h1,?_⟩)));refine⟨_,by decide,rfl,rfl,?_⟩;refine⟨_,by decide,rfl,rfl,?_⟩;refine⟨_,by decide,rfl,rfl,?_⟩;refine⟨_,by decide,rfl,rfl,?_⟩;refine .inl ⟨_,zQ v s a hv.1 hv.2,?_⟩;refine⟨_,by decide,rfl,rfl,?_⟩;refine .inr (.inr (.inr ⟨[0],mkH b l1 n,mkH b l2 n,_,rfl,zD,rfl,h2,?_⟩));refine⟨by kernel_rfl,?_⟩;exact⟨rfl,rfl,rfl⟩
theorem zZW (t:Tp):1<=t.sz:=by cases t<;>simp only[Tp.sz]<;>omega
theorem zZQ {N:Nat} {v:V9} {t:Tp} (hv:VOk N v) (hN:N<=10000) (ht:SimT v.vars t) {i:Nat} (hi:i<v.L.length) (h:okP v t i=true):Mkd v t (vr v.L[i].1):=by
 unfold okP at h;rw[List.getElem?_eq_getElem hi] at h;simp only[Bool.and_eq_true,decide_eq_true_eq] at h;have h1:=z4W hv hN hi h.1.1 h.2;have e:=z5Y (hv.tL _ (List.getElem_mem hi)).1.no ht.no h.1.2;rw[e] at h1;exact h1
theorem zD7 {N:Nat} {v:V9} {t:Tp} {l:List Int} (hv:VOk N v) (hN:N<=10000) (ht:SimT v.vars t) (hts:t.sz<=300) (hl:Nums l) (h:∀l2,Nums l2->∃c l',Mkd v t c/\c.sz<=3*t.sz/\Nums l'/\∀(n:Int) b,LfT b l2 n v t c l'):∃c l',Mkd v t c/\c.sz<=3*t.sz/\Nums l'/\∀(n:Int) b,zEX b l n v t c l':=by
 obtain⟨h1,h2⟩:=zHF (v:=v) (t:=t) v.L.length l hl;cases hp:(qE v t v.L.length l).1 with
 | some i =>
  obtain⟨hi,hok⟩:=h2 i hp;refine⟨vr v.L[i].1,(qE v t v.L.length l).2,zZQ hv hN ht hi hok,?_,h1,fun n b=>zL2 hv hN ht hts hl (fun j hj e=>?_) fun e=>?_⟩
  ·have:=zZW t;show 1+0<=_;omega
  ·rw[hp] at e;cases e;exact⟨rfl,rfl⟩
  ·rw[hp] at e;cases e
 | none =>
  obtain⟨c,l',m1,m2,m3,m4⟩:=h _ h1;refine⟨c,l',m1,m2,m3,fun n b=>zL2 hv hN ht hts hl (fun j hj e=>?_) fun e=>m4 n b⟩;rw[hp] at e;cases e
theorem zIP {t:Tp} (hf:Frm t):∀(N:Nat) (v:V9) (l:List Int),VOk N v->N+t.sz<=9000->SimT v.vars t->t.sz<=240->Nums l->∃c l',Mkd v t c/\c.sz<=3*t.sz/\Nums l'/\∀(n:Int) b,zEX b l n v t c l':=by
 induction hf with
 | int =>
  intro N v l hv hN ht hs hl;refine zD7 hv (by omega) ht (by omega) hl fun l2 hl2=>?_;obtain⟨h1,h2⟩:=zC7 hl2 (m:=7) (by decide);exact⟨_,_,z4C hv (by omega) _,by simp[Cr.sz,Tp.sz],hl2.drop,fun n b=>z1B (h2 n b)⟩
 | bool =>
  intro N v l hv hN ht hs hl;refine zD7 hv (by omega) ht (by omega) hl fun l2 hl2=>?_;obtain⟨h1,h2⟩:=zC7 hl2 (m:=2) (by decide);refine⟨_,_,?_,by simp[Cr.sz,Tp.sz],hl2.drop,fun n b=>zXE h1 (h2 n b)⟩;split
  ·exact zW9 hv (by omega)
  ·exact z2P hv (by omega)
 | var x =>
  intro N v l hv hN ht hs hl;refine zD7 hv (by omega) ht (by omega) hl fun l2 hl2=>?_;exact⟨_,_,z0J hv (by omega) ht (by omega),by simp[Cr.sz,Tp.sz],hl2,fun n b=>z2S⟩
 | @ls a h ih =>
  intro N v l hv hN ht hs hl;simp only[Tp.sz] at hs hN;refine zD7 hv (by omega) ht (by simp only[Tp.sz];omega) hl fun l2 hl2=>?_;exact⟨_,_,z7U hv (by omega) ht.2 (by omega),by have:=zZW a;simp only[Cr.sz,Tp.sz];omega,hl2,fun n b=>z4G⟩
 | @fn a r ha hr iha ihr =>
  intro N v l hv hN ht hs hl;simp only[Tp.sz] at hs hN;refine zD7 hv (by omega) ht (by simp only[Tp.sz];omega) hl fun l2 hl2=>?_;obtain⟨s,hs1,h1⟩:=zGJ l2 hl2 v;have hv2:=hv.more s (t:=a) ht.1.2 (by omega);obtain⟨c,l',m1,m2,m3,m4⟩:=ihr (N+1) (v.more s a) (l2.drop 1) hv2 (by omega) ht.2 (by omega) hl2.drop;have:=hv.ll;have:=hv.dd;exact⟨_,_,zRQ hv (by omega) ht.1.2 (by omega) ht.2 (by omega) m1,by simp only[Cr.sz,Tp.sz];omega,m3,fun n b=>z5M ⟨by omega,by omega⟩ (h1 n b) (m4 n b)⟩
 | @pr x y hx hy ihx ihy =>
  intro N v l hv hN ht hs hl;simp only[Tp.sz] at hs hN;refine zD7 hv (by omega) ht (by simp only[Tp.sz];omega) hl fun l2 hl2=>?_;obtain⟨c,l',m1,m2,m3,m4⟩:=ihx N v l2 hv (by omega) ht.1.2 (by omega) hl2;obtain⟨c2,l3,k1,k2,k3,k4⟩:=ihy N v l' hv (by omega) ht.2 (by omega) m3;refine⟨_,_,?_,?_,k3,fun n b=>z4Y (m4 n b) (k4 n b)⟩
  ·exact zDT hv (by omega) ht.2 (by omega) (zDT hv (by omega) ht.1.2 (by omega) (z7E hv (by omega) ht.1.2 (by omega) ht.2) m1) k1
  ·simp only[Cr.sz,Tp.sz];omega
abbrev xH (b:Nat) (l:List Int) (n:Int) (v:V9) (t:Tp) (c:Cr) (l':List Int) (n':Int):Prop:=CallsG Tryz.prog (fnv 54) (mkH b l n) [pt b 0,eV v,eTy t] [] fun r o h=>r=eC c/\o=0/\h=mkH b l' n'
abbrev zLX (b:Nat) (l:List Int) (n:Int) (v:V9) (t:Tp) (c:Cr) (l':List Int) (n':Int):Prop:=CallsG Tryz.prog (fnv 92) (mkH b l n) [pt b 0,eV v,eTy t] [] fun r o h=>r=eC c/\o=0/\h=mkH b l' n'
def SmT (b:Nat) (l:List Int) (n:Int) (v:V9) (t:Tp) (c:Cr) (l':List Int) (n':Int):Prop :=
 Wsem Tryz.prog (qN (qN (qN (bodyC Tryz.f54)))) (mkC {vs:=[(0,.v (pt b 0)),(4,.box 0 (eV v)),(5,.box 0 (eTy t)),(6,.box 0 eZ)],hp:=mkH b l n})
   (fun c2=>wH tt Tryz.f54.results.toList (fun r o h=>r=eC c/\o=0/\h=mkH b l' n') (den c2)) (fun _ _=>False) (fun c2=>wH tt Tryz.f54.results.toList (fun r o h=>r=eC c/\o=0/\h=mkH b l' n') (den c2))
def SmE (b:Nat) (l:List Int) (n:Int) (v:V9) (t:Tp) (c:Cr) (l':List Int) (n':Int):Prop :=
 Wsem Tryz.prog (qN (qN (qN (qN (bodyC Tryz.f54))))) (mkC {vs:=[(0,.v (pt b 0)),(4,.box 0 (eV v)),(5,.box 0 (eTy t)),(6,.box 0 eZ)],hp:=mkH b l n})
   (fun c2=>wH tt Tryz.f54.results.toList (fun r o h=>r=eC c/\o=0/\h=mkH b l' n') (den c2)) (fun _ _=>False) (fun c2=>wH tt Tryz.f54.results.toList (fun r o h=>r=eC c/\o=0/\h=mkH b l' n') (den c2))
theorem zMW {b:Nat} {l:List Int} {n:Int} {v:V9} {t:Tp} {c:Cr} {l':List Int} {n':Int} (hn : -100000<n/\n<100000) (h1:(n-1<1∨6<v.deep)->zEX b l (n-1) v t c l'/\n'=n-1) (h2:¬(n-1<1∨6<v.deep)->SmT b l (n-1) v t c l' n'):xH b l n v t c l' n':=by
 have hw:IntKind.i64.wrap (n-1)=n-1:=wrap_in (by unfold InR;omega);refine zI (first:=[]) (cap:=[]) ttok mixed Tryz.func54 rfl (by rfl) rfl (Nat.le_of_ble_eq_true rfl) (by kernel_rfl) ?_;refine Wsem.seq ttok mixed ?_;refine Wsem.seq ttok mixed ?_;refine⟨0,_,_,rfl,rfl,?_⟩;refine⟨rfl,0,_,rfl,Nat.le_of_ble_eq_true rfl,?_⟩;refine Wsem.cut {vs:=[(0,.v (pt b 0)),(4,.box 0 (eV v)),(5,.box 0 (eTy t)),(6,.box 0 eZ)],hp:=mkH b l (n-1)} ⟨⟨rfl,rfl,rfl,rfl,trivial⟩,trivial,by show mkH b l (IntKind.i64.wrap (n-1))=_;rw[hw]⟩ ?_;by_cases hd:n-1<1∨6<v.deep
 ·obtain⟨hl,rfl⟩:=h1 hd;clear h1 h2;refine Wsem.of ttok mixed ?_;refine⟨0,_,_,rfl,rfl,?_⟩;refine⟨fun q=>?_,fun q=>?_⟩
  ·have q:¬n-1<1:=of_decide_eq_false q;refine⟨fun _=>?_,fun h=>absurd (of_decide_eq_false h) (by omega)⟩;refine .inr (.inr (.inr (.inl ⟨[0],mkH b l (n-1),mkH b l' (n-1),_,rfl,zD,rfl,hl,?_⟩)));exact⟨rfl,rfl,rfl⟩
  ·refine .inr (.inr (.inr (.inl ⟨[0],mkH b l (n-1),mkH b l' (n-1),_,rfl,zD,rfl,hl,?_⟩)));exact⟨rfl,rfl,rfl⟩
 ·have h2:=h2 hd;clear h1;refine Wsem.seq ttok mixed ?_;refine⟨0,_,_,rfl,rfl,?_⟩;refine⟨fun q=>?_,fun q=>absurd (of_decide_eq_true q) (fun e=>hd (.inl e))⟩;refine⟨fun q=>absurd (of_decide_eq_true q) (fun e=>hd (.inr (by omega))),fun _=>?_⟩;refine Wsem.cut _ ?_ h2;exact⟨⟨rfl,rfl,rfl,rfl,trivial⟩,trivial,rfl⟩
theorem z7L {b:Nat} {l l1 l2 l3 l4 l5:List Int} {n n4 n5:Int} {v:V9} {t u:Tp} {s:ByteArray} {p a:Cr} (hv:v.L.length<=100000/\v.deep<=100000) (h1:yX b l n 12 0 l1) (hT:zDB b l1 n v.vars 1 u l2) (hN:zTP b l2 n v s l3) (hS:xH b l3 n (v.more s u) t p l4 n4) (hA:xH b l4 n4 (v.more .empty t) u a l5 n5):SmT b l n v t (zBJ (zKF s u p) a) l5 n5:=by
 unfold SmT;refine Wsem.of ttok mixed ?_;refine .inr (.inr (.inr (.inl ⟨[0],mkH b l n,mkH b l1 n,_,rfl,zD,rfl,h1,?_⟩)));refine⟨fun _=>?_,fun h=>Bool.noConfusion (show true=false from h)⟩;refine .inr (.inr (.inr (.inl ⟨[0],mkH b l1 n,mkH b l2 n,_,rfl,zD,rfl,hT,?_⟩)));refine .inr (.inr (.inr (.inl ⟨[0],mkH b l2 n,mkH b l3 n,_,rfl,zD,rfl,hN,?_⟩)));refine .inl ⟨_,zQ v s u hv.1 hv.2,?_⟩;refine .inr (.inr (.inr ⟨[0],mkH b l3 n,mkH b l4 n4,_,rfl,zD,rfl,hS,?_⟩));refine⟨by kernel_rfl,?_⟩;refine .inl ⟨_,zQ v .empty t hv.1 hv.2,?_⟩;refine .inr (.inr (.inr ⟨[0],mkH b l4 n4,mkH b l5 n5,_,rfl,zD,rfl,hA,?_⟩));refine .inl ⟨_,wE (zKF s u p) a,?_⟩;refine⟨by kernel_rfl,?_⟩;exact⟨rfl,rfl,rfl⟩
theorem z7G {b:Nat} {l l1 l2 l3 l4 l5:List Int} {n n4 n5:Int} {v:V9} {t u:Tp} {s:ByteArray} {p a:Cr} (hv:v.L.length<=100000/\v.deep<=100000) (h1:yX b l n 12 1 l1) (hT:zDB b l1 n v.vars 1 u l2) (hN:zTP b l2 n v s l3) (hA:xH b l3 n (v.more s u) u a l4 n4) (hS:xH b l4 n4 (v.more s u) t p l5 n5):SmT b l n v t (.node 8 0 .empty .no (.kid p (.bind s u a .nil))) l5 n5:=by
 unfold SmT;refine Wsem.of ttok mixed ?_;refine .inr (.inr (.inr (.inl ⟨[0],mkH b l n,mkH b l1 n,_,rfl,zD,rfl,h1,?_⟩)));refine⟨fun h=>Bool.noConfusion (show false=true from h),fun _=>?_⟩;refine⟨fun _=>?_,fun h=>Bool.noConfusion (show true=false from h)⟩;refine .inr (.inr (.inr (.inl ⟨[0],mkH b l1 n,mkH b l2 n,_,rfl,zD,rfl,hT,?_⟩)));refine .inr (.inr (.inr (.inl ⟨[0],mkH b l2 n,mkH b l3 n,_,rfl,zD,rfl,hN,?_⟩)));refine .inl ⟨_,zQ v s u hv.1 hv.2,?_⟩;refine .inr (.inr (.inr (.inl ⟨[0],mkH b l3 n,mkH b l4 n4,_,rfl,zD,rfl,hA,?_⟩)));refine .inr (.inr (.inr ⟨[0],mkH b l4 n4,mkH b l5 n5,_,rfl,zD,rfl,hS,?_⟩));refine⟨by kernel_rfl,?_⟩;exact⟨rfl,rfl,rfl⟩
theorem z6I {b:Nat} {l l1 l2:List Int} {n n4:Int} {v:V9} {t:Tp}  {p:Cr} (hv:v.L.length<=100000/\v.deep<=100000) (h1:yX b l n 12 2 l1) (hA:zLX b l1 n v t p l2 n4):SmT b l n v t p l2 n4:=by
 unfold SmT;refine Wsem.of ttok mixed ?_;refine .inr (.inr (.inr (.inl ⟨[0],mkH b l n,mkH b l1 n,_,rfl,zD,rfl,h1,?_⟩)));refine⟨fun h=>Bool.noConfusion (show false=true from h),fun _=>?_⟩;refine⟨fun h=>Bool.noConfusion (show false=true from h),fun _=>?_⟩;refine⟨fun _=>?_,fun h=>Bool.noConfusion (show true=false from h)⟩;refine .inr (.inr (.inr (.inl ⟨[0],mkH b l1 n,mkH b l2 n4,_,rfl,zD,rfl,hA,?_⟩)));exact⟨rfl,rfl,rfl⟩
theorem z6R {b:Nat} {l l1 l2 l3 l4:List Int} {n n4 n5:Int} {v:V9} {t u:Tp}  {p a:Cr} (hv:v.L.length<=100000/\v.deep<=100000) (h1:yX b l n 12 4 l1) (hT:zDB b l1 n v.vars 2 u l2) (hS:xH b l2 n (v.more .empty t) (fnT u t) p l3 n4) (hA:xH b l3 n4 (v.more .empty t) u a l4 n5):SmT b l n v t (zBJ p a) l4 n5:=by
 unfold SmT;refine Wsem.of ttok mixed ?_;refine .inr (.inr (.inr (.inl ⟨[0],mkH b l n,mkH b l1 n,_,rfl,zD,rfl,h1,?_⟩)));refine⟨fun h=>Bool.noConfusion (show false=true from h),fun _=>?_⟩;refine⟨fun h=>Bool.noConfusion (show false=true from h),fun _=>?_⟩;refine⟨fun h=>Bool.noConfusion (show false=true from h),fun _=>?_⟩;refine⟨fun h=>Bool.noConfusion (show false=true from h),fun _=>?_⟩;refine⟨fun _=>?_,fun h=>Bool.noConfusion (show true=false from h)⟩;refine .inr (.inr (.inr ⟨[0],mkH b l1 n,mkH b l2 n,_,rfl,zD,rfl,hT,?_⟩));refine .inl ⟨_,xI u t,?_⟩;refine⟨by kernel_rfl,?_⟩;refine .inl ⟨_,zQ v .empty t hv.1 hv.2,?_⟩;refine .inr (.inr (.inr ⟨[0],mkH b l2 n,mkH b l3 n4,_,rfl,zD,rfl,hS,?_⟩));refine .inl ⟨_,zQ v .empty t hv.1 hv.2,?_⟩;refine⟨_,by decide,rfl,rfl,?_⟩;refine⟨_,by decide,rfl,rfl,?_⟩;refine .inr (.inr (.inr ⟨[0],mkH b l3 n4,mkH b l4 n5,_,rfl,zD,rfl,hA,?_⟩));refine .inl ⟨_,wE p a,?_⟩;refine⟨by kernel_rfl,?_⟩;exact⟨rfl,rfl,rfl⟩
theorem z6E {b:Nat} {l l1 l5:List Int} {n n5:Int} {v:V9} {t:Tp}  {p:Cr} (hv:v.L.length<=100000/\v.deep<=100000) {r:Nat} (hr:4<r/\r<12) (h1:yX b l n 12 r l1) (h:SmE b l1 n v t p l5 n5):SmT b l n v t p l5 n5:=by
 unfold SmT;refine Wsem.seq ttok mixed ?_;refine .inr (.inr (.inr (.inl ⟨[0],mkH b l n,mkH b l1 n,_,rfl,zD,rfl,h1,?_⟩)));refine⟨fun h=>absurd (of_decide_eq_true h) (by omega),fun _=>?_⟩;refine⟨fun h=>absurd (of_decide_eq_true h) (by omega),fun _=>?_⟩;refine⟨fun h=>absurd (of_decide_eq_true h) (by omega),fun _=>?_⟩;refine⟨fun h=>absurd (of_decide_eq_true h) (by omega),fun _=>?_⟩;refine⟨fun h=>absurd (of_decide_eq_true h) (by omega),fun _=>?_⟩;refine Wsem.cut _ ?_ h;exact⟨⟨rfl,rfl,rfl,rfl,trivial⟩,trivial,rfl⟩
abbrev sq:ByteArray:=⟨#[39]⟩
abbrev sp:ByteArray:=⟨#[112]⟩
theorem z3O {b:Nat} {l l1 l2 l3 l4 l5:List Int} {n n4 n5:Int} {v:V9} {t u:Tp} {s:ByteArray} {q:Nat} {p a:Cr} (hv:v.L.length<=10000/\v.deep<=10000/\v.vars.length<=10000) (h1:yX b l n 12 3 l1) (hT:zDB b l1 n v.vars 1 u l2) (h3:yX b l2 n 3 q l3) (hs:[str ⟨#[97]⟩,str ⟨#[98]⟩,str ⟨#[99]⟩][((q:Nat):Int).toNat]? = some (str s)) (hsz:s.size=1) (hS:xH b l3 n ((v.poly (s++sq)).more sp (.var (s++sq))) t p l4 n4)
  (c:Cr) (hyes:s++sq∈v.vars->zEX b l4 n4 v t c l5/\n5=n4) (hno:s++sq∉v.vars->xH b l4 n4 (v.more .empty t) u a l5 n5/\c=zBJ (xR u (zB4 (s++sq) (zKF sp (.var (s++sq)) p))) a):SmT b l n v t c l5 n5:=by
 have hm:=zQ (v.poly (s++sq)) sp (.var (s++sq)) (by show v.L.length<=_;omega) (by show v.deep+1<=_;omega);have ev:AV.agg [.sl (yZ v.L),.sl (([]++eSs v.vars)++[str (s++sq)]),.lit (.int .i64 (IntKind.i64.wrap ((v.deep:Nat)+1)))]=eV (v.poly (s++sq)):=by
  rw[wrap_succ (k:=v.deep) (by omega)];unfold V9.poly eV;simp[eSs]
 rw[<-ev] at hm;have hh:=zCR (l:=v.vars) (s:=s++sq) (by omega);unfold SmT;refine Wsem.of ttok mixed ?_;refine .inr (.inr (.inr (.inl ⟨[0],mkH b l n,mkH b l1 n,_,rfl,zD,rfl,h1,?_⟩)));refine⟨fun h=>Bool.noConfusion (show false=true from h),fun _=>?_⟩;refine⟨fun h=>Bool.noConfusion (show false=true from h),fun _=>?_⟩;refine⟨fun h=>Bool.noConfusion (show false=true from h),fun _=>?_⟩;refine⟨fun _=>?_,fun h=>Bool.noConfusion (show true=false from h)⟩;refine .inr (.inr (.inr (.inl ⟨[0],mkH b l1 n,mkH b l2 n,_,rfl,zD,rfl,hT,?_⟩)));refine .inr (.inr (.inr (.inl ⟨[0],mkH b l2 n,mkH b l3 n,_,rfl,zD,rfl,h3,?_⟩)));refine⟨_,by omega,hs,rfl,?_⟩;refine⟨by simp[eSs];omega,zRB _,wG _,?_⟩;refine⟨by rw[hsz];exact Nat.le_of_ble_eq_true rfl,?_⟩;refine⟨by rw[hsz];exact Nat.le_of_ble_eq_true rfl,?_⟩;refine⟨by simp[eSs];omega,wG v.vars,wG [s++sq],?_⟩;refine .inl ⟨_,hm,?_⟩;refine .inr (.inr (.inr ⟨[0],mkH b l3 n,mkH b l4 n4,_,rfl,zD,rfl,hS,?_⟩));refine⟨by kernel_rfl,?_⟩;refine⟨by rw[hsz];exact Nat.le_of_ble_eq_true rfl,?_⟩;refine .inl ⟨_,hh,?_⟩;refine⟨fun h=>?_,fun h=>?_⟩
 ·obtain⟨hl,rfl⟩:=hyes (memb_iff.1 h);refine .inr (.inr (.inr (.inl ⟨[0],mkH b l4 n5,mkH b l5 n5,_,rfl,zD,rfl,hl,?_⟩)));exact⟨rfl,rfl,rfl⟩
 ·obtain⟨hA,rfl⟩:=hno (fun hm=>by have h:memb (s++sq) v.vars=false:=h;rw[yV hm] at h;cases h);refine⟨by rw[hsz];exact Nat.le_of_ble_eq_true rfl,?_⟩;refine .inl ⟨_,zQ v .empty t (by omega) (by omega),?_⟩;refine .inr (.inr (.inr ⟨[0],mkH b l4 n4,mkH b l5 n5,_,rfl,zD,rfl,hA,?_⟩));refine .inl ⟨_,wE (xR u (zB4 (s++sq) (zKF sp (.var (s++sq)) p))) a,?_⟩;refine⟨by kernel_rfl,?_⟩;exact⟨rfl,rfl,rfl⟩
abbrev zXD:ByteArray:=⟨#[97,100,100]⟩
abbrev zYH:ByteArray:=⟨#[115,117,98]⟩
abbrev zYR:ByteArray:=⟨#[109,117,108]⟩
abbrev zZ3:ByteArray:=⟨#[100,105,118]⟩
abbrev sEq:ByteArray:=⟨#[101,113]⟩
abbrev sLt:ByteArray:=⟨#[108,116]⟩
theorem z14 {b:Nat} {l l1 l2 l3:List Int} {n n1 n2:Int} {v:V9} {r:Nat} {s:ByteArray} {p q:Cr} (hv:v.L.length<=100000/\v.deep<=100000) (hs:[str zXD,str zYH,str zYR,str zZ3][((r:Nat):Int).toNat]? = some (str s)) (h1:yX b l n 4 r l1) (hP:xH b l1 n (v.more .empty (.con yE)) (.con yE) p l2 n1) (hQ:xH b l2 n1 (v.more .empty (.con yE)) (.con yE) q l3 n2):SmE b l n v (.con yE) (.node 10 0 s .no (.kid p (.kid q .nil))) l3 n2:=by
 unfold SmE;refine Wsem.of ttok mixed ?_;have hsp:zC Tryz.prog 93 [eTy (.con yE)] (.tup [eTy (.con yE),.sl []]):=yY (.con yE) (Nat.le_of_ble_eq_true rfl);refine .inl ⟨_,hsp,?_⟩;refine⟨fun _=>?_,fun h=>Bool.noConfusion (show true=false from h)⟩;refine⟨fun _=>?_,fun h=>Bool.noConfusion (show true=false from h)⟩;refine .inr (.inr (.inr (.inl ⟨[0],mkH b l n,mkH b l1 n,_,rfl,zD,rfl,h1,?_⟩)));refine⟨_,by omega,hs,rfl,?_⟩;refine .inl ⟨_,zQ v .empty (.con yE) hv.1 hv.2,?_⟩;refine .inr (.inr (.inr ⟨[0],mkH b l1 n,mkH b l2 n1,_,rfl,zD,rfl,hP,?_⟩));refine .inl ⟨_,zQ v .empty (.con yE) hv.1 hv.2,?_⟩;refine .inr (.inr (.inr ⟨[0],mkH b l2 n1,mkH b l3 n2,_,rfl,zD,rfl,hQ,?_⟩));refine⟨by kernel_rfl,?_⟩;exact⟨rfl,rfl,rfl⟩
theorem zWV {b:Nat} {l l1 l2 l3:List Int} {n n1 n2:Int} {v:V9} {r:Nat} {s:ByteArray} {p q:Cr} (hv:v.L.length<=100000/\v.deep<=100000) (hs:[str sEq,str sLt][((r:Nat):Int).toNat]? = some (str s)) (h1:yX b l n 2 r l1) (hP:xH b l1 n (v.more .empty (.con yC)) (.con yE) p l2 n1) (hQ:xH b l2 n1 (v.more .empty (.con yC)) (.con yE) q l3 n2):SmE b l n v (.con yC) (.node 10 0 s .no (.kid p (.kid q .nil))) l3 n2:=by
 unfold SmE;refine Wsem.of ttok mixed ?_;have hsp:zC Tryz.prog 93 [eTy (.con yC)] (.tup [eTy (.con yC),.sl []]):=yY (.con yC) (Nat.le_of_ble_eq_true rfl);refine .inl ⟨_,hsp,?_⟩;refine⟨fun _=>?_,fun h=>Bool.noConfusion (show true=false from h)⟩;refine⟨fun h=>Bool.noConfusion (show false=true from h),fun _=>?_⟩;refine⟨fun _=>?_,fun h=>Bool.noConfusion (show true=false from h)⟩;refine⟨fun _=>?_,fun h=>Bool.noConfusion (show true=false from h)⟩;refine .inl ⟨_,yG yE,?_⟩;refine .inr (.inr (.inr ⟨[0],mkH b l n,mkH b l1 n,_,rfl,zD,rfl,h1,?_⟩));refine⟨_,by omega,hs,rfl,?_⟩;refine .inl ⟨_,zQ v .empty (.con yC) hv.1 hv.2,?_⟩;refine .inr (.inr (.inr ⟨[0],mkH b l1 n,mkH b l2 n1,_,rfl,zD,rfl,hP,?_⟩));refine .inl ⟨_,zQ v .empty (.con yC) hv.1 hv.2,?_⟩;refine .inr (.inr (.inr ⟨[0],mkH b l2 n1,mkH b l3 n2,_,rfl,zD,rfl,hQ,?_⟩));refine⟨by kernel_rfl,?_⟩;exact⟨rfl,rfl,rfl⟩
theorem z19 {b:Nat} {l l1 l2 l3:List Int} {n n1 n2:Int} {v:V9} {r:Nat} {a:Tp} {p q:Cr} (hv:v.L.length<=100000/\v.deep<=100000) (hr:0<r) (h1:yX b l n 3 r l1) (hP:xH b l1 n (v.more .empty (lsT a)) a p l2 n1) (hQ:xH b l2 n1 (v.more .empty (lsT a)) (lsT a) q l3 n2):SmE b l n v (lsT a) (zBJ (zBJ (xR a (zEN sC)) p) q) l3 n2:=by
 unfold SmE;refine Wsem.of ttok mixed ?_;have hsp:zC Tryz.prog 93 [eTy (lsT a)] (.tup [eTy (.con sL),.sl (zO [a])]):=yY (lsT a) (Nat.le_of_ble_eq_true rfl);refine .inl ⟨_,hsp,?_⟩;refine⟨fun _=>?_,fun h=>Bool.noConfusion (show true=false from h)⟩;refine⟨fun h=>Bool.noConfusion (show false=true from h),fun _=>?_⟩;refine⟨fun _=>?_,fun h=>Bool.noConfusion (show true=false from h)⟩;refine⟨fun h=>Bool.noConfusion (show false=true from h),fun _=>?_⟩;refine⟨fun _=>?_,fun h=>Bool.noConfusion (show true=false from h)⟩;refine⟨fun _=>?_,fun h=>Bool.noConfusion (show true=false from h)⟩;refine⟨fun _=>?_,fun h=>Bool.noConfusion (show true=false from h)⟩;refine .inr (.inr (.inr (.inl ⟨[0],mkH b l n,mkH b l1 n,_,rfl,zD,rfl,h1,?_⟩)));refine⟨fun _=>?_,fun h=>absurd (of_decide_eq_false h) (by omega)⟩;refine .inl ⟨_,zCV sC [a] (Nat.le_of_ble_eq_true rfl),?_⟩;refine .inl ⟨_,zQ v .empty (lsT a) hv.1 hv.2,?_⟩;refine⟨_,by decide,rfl,rfl,?_⟩;refine .inr (.inr (.inr ⟨[0],mkH b l1 n,mkH b l2 n1,_,rfl,zD,rfl,hP,?_⟩));refine .inl ⟨_,wE (xR a (zEN sC)) p,?_⟩;refine .inl ⟨_,zQ v .empty (lsT a) hv.1 hv.2,?_⟩;refine .inr (.inr (.inr ⟨[0],mkH b l2 n1,mkH b l3 n2,_,rfl,zD,rfl,hQ,?_⟩));refine .inl ⟨_,wE (zBJ (xR a (zEN sC)) p) q,?_⟩;refine⟨by kernel_rfl,?_⟩;exact⟨rfl,rfl,rfl⟩
theorem z2D {b:Nat} {l l1 l2:List Int} {n:Int} {v:V9} {a:Tp} {p:Cr} (hv:v.L.length<=100000/\v.deep<=100000) (h1:yX b l n 3 0 l1) (hP:zEX b l1 n v (lsT a) p l2):SmE b l n v (lsT a) p l2 n:=by
 unfold SmE;refine Wsem.of ttok mixed ?_;have hsp:zC Tryz.prog 93 [eTy (lsT a)] (.tup [eTy (.con sL),.sl (zO [a])]):=yY (lsT a) (Nat.le_of_ble_eq_true rfl);refine .inl ⟨_,hsp,?_⟩;refine⟨fun _=>?_,fun h=>Bool.noConfusion (show true=false from h)⟩;refine⟨fun h=>Bool.noConfusion (show false=true from h),fun _=>?_⟩;refine⟨fun _=>?_,fun h=>Bool.noConfusion (show true=false from h)⟩;refine⟨fun h=>Bool.noConfusion (show false=true from h),fun _=>?_⟩;refine⟨fun _=>?_,fun h=>Bool.noConfusion (show true=false from h)⟩;refine⟨fun _=>?_,fun h=>Bool.noConfusion (show true=false from h)⟩;refine⟨fun _=>?_,fun h=>Bool.noConfusion (show true=false from h)⟩;refine .inr (.inr (.inr (.inl ⟨[0],mkH b l n,mkH b l1 n,_,rfl,zD,rfl,h1,?_⟩)));refine⟨fun h=>Bool.noConfusion (show false=true from h),fun _=>?_⟩;refine⟨fun _=>?_,fun h=>Bool.noConfusion (show true=false from h)⟩;refine⟨fun h=>Bool.noConfusion (show false=true from h),fun _=>?_⟩;refine .inl ⟨_,yU _,?_⟩;refine⟨fun h=>Bool.noConfusion (show false=true from h),fun _=>?_⟩;refine .inr (.inr (.inr (.inl ⟨[0],mkH b l1 n,mkH b l2 n,_,rfl,zD,rfl,hP,?_⟩)));exact⟨rfl,rfl,rfl⟩
theorem z3Z {b:Nat} {l l2 l3:List Int} {n n1 n2:Int} {v:V9} {x y:Tp} {p q:Cr} (hv:v.L.length<=100000/\v.deep<=100000) (hP:xH b l n (v.more .empty (prT x y)) x p l2 n1) (hQ:xH b l2 n1 (v.more .empty (prT x y)) y q l3 n2):SmE b l n v (prT x y) (zBJ (zBJ (xR y (xR x (zEN sP))) p) q) l3 n2:=by
 unfold SmE;refine Wsem.of ttok mixed ?_;have hsp:zC Tryz.prog 93 [eTy (prT x y)] (.tup [eTy (.con sP),.sl (zO [x,y])]):=yY (prT x y) (Nat.le_of_ble_eq_true rfl);refine .inl ⟨_,hsp,?_⟩;refine⟨fun _=>?_,fun h=>Bool.noConfusion (show true=false from h)⟩;refine⟨fun h=>Bool.noConfusion (show false=true from h),fun _=>?_⟩;refine⟨fun _=>?_,fun h=>Bool.noConfusion (show true=false from h)⟩;refine⟨fun h=>Bool.noConfusion (show false=true from h),fun _=>?_⟩;refine⟨fun _=>?_,fun h=>Bool.noConfusion (show true=false from h)⟩;refine⟨fun h=>Bool.noConfusion (show false=true from h),fun _=>?_⟩;refine⟨fun _=>?_,fun h=>Bool.noConfusion (show true=false from h)⟩;refine⟨fun _=>?_,fun h=>Bool.noConfusion (show true=false from h)⟩;refine⟨fun _=>?_,fun h=>Bool.noConfusion (show true=false from h)⟩;refine .inl ⟨_,zCV sP [x,y] (Nat.le_of_ble_eq_true rfl),?_⟩;refine .inl ⟨_,zQ v .empty (prT x y) hv.1 hv.2,?_⟩;refine⟨_,by decide,rfl,rfl,?_⟩;refine .inr (.inr (.inr ⟨[0],mkH b l n,mkH b l2 n1,_,rfl,zD,rfl,hP,?_⟩));refine .inl ⟨_,wE (xR y (xR x (zEN sP))) p,?_⟩;refine .inl ⟨_,zQ v .empty (prT x y) hv.1 hv.2,?_⟩;refine⟨_,by decide,rfl,rfl,?_⟩;refine .inr (.inr (.inr ⟨[0],mkH b l2 n1,mkH b l3 n2,_,rfl,zD,rfl,hQ,?_⟩));refine .inl ⟨_,wE (zBJ (xR y (xR x (zEN sP))) p) q,?_⟩;refine⟨by kernel_rfl,?_⟩;exact⟨rfl,rfl,rfl⟩
theorem z5H {b:Nat} {l l1 l2:List Int} {n n1:Int} {v:V9} {a r:Tp} {s:ByteArray} {p:Cr} (hv:v.L.length<=100000/\v.deep<=100000) (h1:zTP b l n v s l1) (hP:xH b l1 n (v.more s a) r p l2 n1):SmE b l n v (fnT a r) (zKF s a p) l2 n1:=by
 unfold SmE;refine Wsem.of ttok mixed ?_;have hsp:zC Tryz.prog 93 [eTy (fnT a r)] (.tup [eTy (.con arrow),.sl (zO [a,r])]):=yY (fnT a r) (Nat.le_of_ble_eq_true rfl);refine .inl ⟨_,hsp,?_⟩;refine⟨fun _=>?_,fun h=>Bool.noConfusion (show true=false from h)⟩;refine⟨fun h=>Bool.noConfusion (show false=true from h),fun _=>?_⟩;refine⟨fun _=>?_,fun h=>Bool.noConfusion (show true=false from h)⟩;refine⟨fun h=>Bool.noConfusion (show false=true from h),fun _=>?_⟩;refine⟨fun _=>?_,fun h=>Bool.noConfusion (show true=false from h)⟩;refine⟨fun h=>Bool.noConfusion (show false=true from h),fun _=>?_⟩;refine⟨fun _=>?_,fun h=>Bool.noConfusion (show true=false from h)⟩;refine⟨fun h=>Bool.noConfusion (show false=true from h),fun _=>?_⟩;refine .inl ⟨_,yU _,?_⟩;refine⟨fun _=>?_,fun h=>Bool.noConfusion (show true=false from h)⟩;refine .inr (.inr (.inr (.inl ⟨[0],mkH b l n,mkH b l1 n,_,rfl,zD,rfl,h1,?_⟩)));refine⟨_,by decide,rfl,rfl,?_⟩;refine⟨_,by decide,rfl,rfl,?_⟩;refine⟨_,by decide,rfl,rfl,?_⟩;refine⟨_,by decide,rfl,rfl,?_⟩;refine .inl ⟨_,zQ v s a hv.1 hv.2,?_⟩;refine⟨_,by decide,rfl,rfl,?_⟩;refine .inr (.inr (.inr ⟨[0],mkH b l1 n,mkH b l2 n1,_,rfl,zD,rfl,hP,?_⟩));refine⟨by kernel_rfl,?_⟩;exact⟨rfl,rfl,rfl⟩
theorem z0S {b:Nat} {l l2:List Int} {n:Int} {v:V9} {x:ByteArray} {p:Cr} (hv:v.L.length<=100000/\v.deep<=100000) (hP:zEX b l n v (.var x) p l2):SmE b l n v (.var x) p l2 n:=by
 unfold SmE;refine Wsem.of ttok mixed ?_;have hsp:zC Tryz.prog 93 [eTy (.var x)] (.tup [eTy (.var x),.sl []]):=yY (.var x) (Nat.le_of_ble_eq_true rfl);refine .inl ⟨_,hsp,?_⟩;refine⟨fun h=>Bool.noConfusion (show false=true from h),fun _=>?_⟩;refine⟨fun h=>Bool.noConfusion (show false=true from h),fun _=>?_⟩;refine⟨fun h=>Bool.noConfusion (show false=true from h),fun _=>?_⟩;refine⟨fun h=>Bool.noConfusion (show false=true from h),fun _=>?_⟩;refine .inl ⟨_,yU _,?_⟩;refine⟨fun h=>Bool.noConfusion (show false=true from h),fun _=>?_⟩;refine .inr (.inr (.inr (.inl ⟨[0],mkH b l n,mkH b l2 n,_,rfl,zD,rfl,hP,?_⟩)));exact⟨rfl,rfl,rfl⟩
abbrev sx:ByteArray:=⟨#[120]⟩
abbrev sy:ByteArray:=⟨#[121]⟩
theorem z1X {b:Nat} {l l1 l2 l3 l4:List Int} {n n1 n2 n3:Int} {v:V9} {t:Tp} {p q r:Cr} (hv:v.L.length<=10000/\v.deep<=10000) (h1:yX b l n 4 0 l1) (hP:xH b l1 n (v.more .empty t) (.con yC) p l2 n1) (hQ:xH b l2 n1 (v.more .empty t) t q l3 n2) (hR:xH b l3 n2 (v.more .empty t) t r l4 n3):zLX b l n v t (.node 9 0 .empty t (.kid p (.alt 1 0 zEV [] q (.alt 1 0 zBR [] r .nil)))) l4 n3:=by
 have hv:v.L.length<=100000/\v.deep<=100000:=⟨by omega,by omega⟩
 refine zI (first:=[]) (cap:=[]) ttok mixed Tryz.func92 rfl (by rfl) rfl (Nat.le_of_ble_eq_true rfl) (by kernel_rfl) ?_;refine Wsem.of ttok mixed ?_;refine .inr (.inr (.inr (.inl ⟨[0],mkH b l n,mkH b l1 n,_,rfl,zD,rfl,h1,?_⟩)));refine⟨fun _=>?_,fun h=>Bool.noConfusion (show true=false from h)⟩;refine .inl ⟨_,zQ v .empty t hv.1 hv.2,?_⟩;refine .inl ⟨_,yG yC,?_⟩;refine .inr (.inr (.inr (.inl ⟨[0],mkH b l1 n,mkH b l2 n1,_,rfl,zD,rfl,hP,?_⟩)));refine .inl ⟨_,zQ v .empty t hv.1 hv.2,?_⟩;refine .inr (.inr (.inr ⟨[0],mkH b l2 n1,mkH b l3 n2,_,rfl,zD,rfl,hQ,?_⟩));refine .inl ⟨_,zQ v .empty t hv.1 hv.2,?_⟩;refine .inr (.inr (.inr ⟨[0],mkH b l3 n2,mkH b l4 n3,_,rfl,zD,rfl,hR,?_⟩));refine⟨by kernel_rfl,?_⟩;exact⟨rfl,rfl,rfl⟩
theorem z1U {b:Nat} {l l1 l2 l3 l4 l5:List Int} {n n1 n2 n3:Int} {v:V9} {t:Tp} {p q r:Cr} {k:Nat} (hv:v.L.length<=10000/\v.deep<=10000) (h1:yX b l n 4 1 l1) (hP:xH b l1 n (v.more .empty t) (.con yE) p l2 n1) (h2:yX b l2 n1 5 k l3) (hQ:xH b l3 n1 (v.more .empty t) t q l4 n2) (hR:xH b l4 n2 (v.more .empty t) t r l5 n3):zLX b l n v t (.node 9 0 .empty t (.kid p (.alt 2 (IntKind.i64.wrap ((k:Int)-1)) .empty [] q (.alt 3 0 .empty [] r .nil)))) l5 n3:=by
 have hv:v.L.length<=100000/\v.deep<=100000:=⟨by omega,by omega⟩
 refine zI (first:=[]) (cap:=[]) ttok mixed Tryz.func92 rfl (by rfl) rfl (Nat.le_of_ble_eq_true rfl) (by kernel_rfl) ?_;refine Wsem.of ttok mixed ?_;refine .inr (.inr (.inr (.inl ⟨[0],mkH b l n,mkH b l1 n,_,rfl,zD,rfl,h1,?_⟩)));refine⟨fun h=>Bool.noConfusion (show false=true from h),fun _=>?_⟩;refine⟨fun _=>?_,fun h=>Bool.noConfusion (show true=false from h)⟩;refine .inl ⟨_,zQ v .empty t hv.1 hv.2,?_⟩;refine .inl ⟨_,yG yE,?_⟩;refine .inr (.inr (.inr (.inl ⟨[0],mkH b l1 n,mkH b l2 n1,_,rfl,zD,rfl,hP,?_⟩)));refine .inr (.inr (.inr ⟨[0],mkH b l2 n1,mkH b l3 n1,_,rfl,zD,rfl,h2,?_⟩));refine .inl ⟨_,zQ v .empty t hv.1 hv.2,?_⟩;refine .inr (.inr (.inr ⟨[0],mkH b l3 n1,mkH b l4 n2,_,rfl,zD,rfl,hQ,?_⟩));refine .inl ⟨_,zQ v .empty t hv.1 hv.2,?_⟩;refine .inr (.inr (.inr ⟨[0],mkH b l4 n2,mkH b l5 n3,_,rfl,zD,rfl,hR,?_⟩));refine⟨by kernel_rfl,?_⟩;exact⟨rfl,rfl,rfl⟩
theorem z0N {b:Nat} {l l1 l2 l3 l4 l5 l6:List Int} {n n1 n2 n3:Int} {v:V9} {t:Tp} {u:Tp} {p q r:Cr} {k:Nat} (hv:v.L.length<=10000/\v.deep<=10000) (h1:yX b l n 4 2 l1) (hT:zDB b l1 n v.vars 2 u l2) (hP:xH b l2 n (v.more .empty t) (lsT u) p l3 n1) (hQ:xH b l3 n1 ((v.more sx u).more sy (lsT u)) t q l4 n2) (hR:xH b l4 n2 (v.more .empty t) t r l5 n3) (h2:yX b l5 n3 3 k l6):zLX b l n v t (if k=0 then .node 9 0 .empty t (.kid p (.alt 1 0 sC [sx,sy] q .nil)) else .node 9 0 .empty t (.kid p (.alt 1 0 sC [sx,sy] q (.alt 1 0 sN [] r .nil)))) l6 n3:=by
 have hv3:(v.more sx u).L.length<=100000/\(v.more sx u).deep<=100000:=⟨by show (v.L++[_]).length<=_;simp;omega,by show v.deep+1<=_;omega⟩
 have hv:v.L.length<=100000/\v.deep<=100000:=⟨by omega,by omega⟩
 refine zI (first:=[]) (cap:=[]) ttok mixed Tryz.func92 rfl (by rfl) rfl (Nat.le_of_ble_eq_true rfl) (by kernel_rfl) ?_;refine Wsem.of ttok mixed ?_;refine .inr (.inr (.inr (.inl ⟨[0],mkH b l n,mkH b l1 n,_,rfl,zD,rfl,h1,?_⟩)));refine⟨fun h=>Bool.noConfusion (show false=true from h),fun _=>?_⟩;refine⟨fun h=>Bool.noConfusion (show false=true from h),fun _=>?_⟩;refine⟨fun _=>?_,fun h=>Bool.noConfusion (show true=false from h)⟩;refine .inr (.inr (.inr (.inl ⟨[0],mkH b l1 n,mkH b l2 n,_,rfl,zD,rfl,hT,?_⟩)));refine .inl ⟨_,yG sL,?_⟩;refine⟨by kernel_rfl,?_⟩;refine .inl ⟨_,zQ v .empty t hv.1 hv.2,?_⟩;refine .inr (.inr (.inr ⟨[0],mkH b l2 n,mkH b l3 n1,_,rfl,zD,rfl,hP,?_⟩));refine⟨by kernel_rfl,?_⟩;refine .inl ⟨_,zQ v sx u hv.1 hv.2,?_⟩;refine .inl ⟨_,zQ (v.more sx u) sy (lsT u) hv3.1 hv3.2,?_⟩;refine .inr (.inr (.inr ⟨[0],mkH b l3 n1,mkH b l4 n2,_,rfl,zD,rfl,hQ,?_⟩));refine .inl ⟨_,zQ v .empty t hv.1 hv.2,?_⟩;refine .inr (.inr (.inr ⟨[0],mkH b l4 n2,mkH b l5 n3,_,rfl,zD,rfl,hR,?_⟩));refine⟨by kernel_rfl,?_⟩;refine .inr (.inr (.inr (.inl ⟨[0],mkH b l5 n3,mkH b l6 n3,_,rfl,zD,rfl,h2,?_⟩)));refine⟨fun h=>?_,fun h=>?_⟩
 ·have h:k=0:=by have h:=of_decide_eq_true h;omega
  subst h;refine⟨by decide,by decide,by simp,.inl rfl,?_⟩;exact⟨rfl,rfl,rfl⟩
 ·have h:¬k=0:=by have h:=of_decide_eq_false h;omega
  rw[if_neg h];exact⟨rfl,rfl,rfl⟩
theorem z0R {b:Nat} {l l1 l2 l3 l4 l5:List Int} {n n1 n2:Int} {v:V9} {t:Tp} {u w:Tp} {p q:Cr} {k:Nat} (hv:v.L.length<=10000/\v.deep<=10000) (h1:yX b l n 4 k l1) (hk:2<k) (hT:zDB b l1 n v.vars 2 u l2) (hT2:zDB b l2 n v.vars 2 w l3) (hP:xH b l3 n (v.more .empty t) (prT u w) p l4 n1) (hQ:xH b l4 n1 ((v.more sy u).more sa w) t q l5 n2):zLX b l n v t (.node 9 0 .empty t (.kid p (.alt 1 0 sP [sy,sa] q .nil))) l5 n2:=by
 have hv3:(v.more sy u).L.length<=100000/\(v.more sy u).deep<=100000:=⟨by show (v.L++[_]).length<=_;simp;omega,by show v.deep+1<=_;omega⟩
 have hv:v.L.length<=100000/\v.deep<=100000:=⟨by omega,by omega⟩
 refine zI (first:=[]) (cap:=[]) ttok mixed Tryz.func92 rfl (by rfl) rfl (Nat.le_of_ble_eq_true rfl) (by kernel_rfl) ?_;refine Wsem.of ttok mixed ?_;refine .inr (.inr (.inr (.inl ⟨[0],mkH b l n,mkH b l1 n,_,rfl,zD,rfl,h1,?_⟩)));refine⟨fun h=>absurd (of_decide_eq_true h) (by omega),fun _=>?_⟩;refine⟨fun h=>absurd (of_decide_eq_true h) (by omega),fun _=>?_⟩;refine⟨fun h=>absurd (of_decide_eq_true h) (by omega),fun _=>?_⟩;refine .inr (.inr (.inr (.inl ⟨[0],mkH b l1 n,mkH b l2 n,_,rfl,zD,rfl,hT,?_⟩)));refine .inr (.inr (.inr (.inl ⟨[0],mkH b l2 n,mkH b l3 n,_,rfl,zD,rfl,hT2,?_⟩)));refine .inl ⟨_,yG sP,?_⟩;refine⟨by kernel_rfl,?_⟩;refine .inl ⟨_,zQ v .empty t hv.1 hv.2,?_⟩;refine .inr (.inr (.inr ⟨[0],mkH b l3 n,mkH b l4 n1,_,rfl,zD,rfl,hP,?_⟩));refine⟨by kernel_rfl,?_⟩;refine .inl ⟨_,zQ v sy u hv.1 hv.2,?_⟩;refine .inl ⟨_,zQ (v.more sy u) sa w hv3.1 hv3.2,?_⟩;refine .inr (.inr (.inr ⟨[0],mkH b l4 n1,mkH b l5 n2,_,rfl,zD,rfl,hQ,?_⟩));refine⟨by kernel_rfl,?_⟩;exact⟨rfl,rfl,rfl⟩
def cG:Nat->Nat
 | 0=>1
 | k+1=>3*cG k+1
structure SOk (v:V9):Prop where
 tL:∀p∈v.L,SimT v.vars p.2/\p.2.sz<=300
 vn:∀x∈v.vars,Wrd x/\x.size<=10
 ll:v.L.length<=v.deep
 vl:v.vars.length<=v.deep+1
 dd:v.deep<=8
theorem SOk.vok {v:V9} (h:SOk v):VOk 100 v:=⟨h.tL,by have:=h.ll;have:=h.dd;omega,by have:=h.dd;omega,by have:=h.vl;have:=h.dd;omega,h.vn⟩
theorem SOk.more {v:V9} (h:SOk v) (hd:v.deep<=7) (s:ByteArray) {t:Tp} (ht:SimT v.vars t) (hs:t.sz<=300):SOk (v.more s t):=by
 refine⟨fun p hp=>?_,h.vn,?_,?_,?_⟩
 ·rcases List.mem_append.1 hp with q|q
  ·exact h.tL p q
  ·rw[List.mem_singleton.1 q];exact⟨ht,hs⟩
 ·have:=h.ll;show (v.L++[(s,t)]).length<=v.deep+1;simp;omega
 ·have:=h.vl;show v.vars.length<=v.deep+1+1;omega
 ·show v.deep+1<=_;omega
theorem SOk.poly {v:V9} (h:SOk v) (hd:v.deep<=7) {s:ByteArray} (hs:Wrd s/\s.size<=10):SOk (v.poly s):=by
 refine⟨fun p hp=>⟨(h.tL p hp).1.mono fun x hx=>List.mem_append_left _ hx,(h.tL p hp).2⟩,fun x hx=>?_,?_,?_,?_⟩
 ·rcases List.mem_append.1 hx with q|q
  ·exact h.vn x q
  ·rw[List.mem_singleton.1 q];exact hs
 ·have:=h.ll;show v.L.length<=v.deep+1;omega
 ·have:=h.vl;show (v.vars++[s]).length<=v.deep+1+1;simp;omega
 ·show v.deep+1<=_;omega
def Smd (k:Nat) (v:V9) (l:List Int) (n:Int) (t:Tp):Prop := ∃c l' n',Mkd v t c/\c.sz<=540+1100*(bud n-bud n')/\Nums l'/\n'<n/\n-(cG k:Nat)<=n'/\∀b,xH b l n v t c l' n'
def Smc (k:Nat) (v:V9) (l:List Int) (n:Int) (t:Tp):Prop := ∃c l' n',Mkd v t c/\c.sz<=1640+1100*(bud n-bud n')/\Nums l'/\n'<=n/\n-3*(cG k:Nat)<=n'/\∀b,SmT b l n v t c l' n'
theorem zLV {k:Nat} {v:V9} {l:List Int} {n:Int} {t:Tp} (hv:SOk v) (ht:SimT v.vars t) (hf:Frm t) (hs:t.sz<=60+15*v.deep) (hl:Nums l) (hn : -100000<n/\n<100000) (hd:n-1<1∨6<v.deep):Smd k v l n t:=by
 have:=hv.dd;obtain⟨c,l',m1,m2,m3,m4⟩:=zIP hf 100 v l hv.vok (by omega) ht (by omega) hl;refine⟨c,l',n-1,m1,by omega,m3,by omega,?_,fun b=>zMW hn (fun _=>⟨m4 (n-1) b,rfl⟩) fun h=>absurd hd h⟩;cases k<;>simp only[cG]<;>omega
theorem zZ0 {k:Nat} {v:V9} {l:List Int} {n:Int} {t:Tp} (hn : -100000<n/\n<100000) (hd:¬(n-1<1∨6<v.deep)) (h:Smc k v l (n-1) t):Smd (k+1) v l n t:=by
 obtain⟨c,l',n',m1,m2,m3,m4,m5,m6⟩:=h;refine⟨c,l',n',m1,?_,m3,by omega,by simp only[cG];omega,fun b=>zMW hn (fun h=>absurd h hd) fun _=>m6 b⟩;unfold bud at m2⊢;omega
def z0Q (k:Nat):Prop := ∀(v:V9) (l:List Int) (n:Int) (t:Tp),7<=v.deep+k->SOk v->SimT v.vars t->Frm t->t.sz<=60+15*v.deep->Nums l->(-100000+(cG k:Nat)<n/\n<100000)->Smd k v l n t
section
variable {k:Nat} (ih:z0Q k) {v:V9} (hv:SOk v) (hd:v.deep<=6) (hk:7<=v.deep+(k+1)) {l:List Int} (hl:Nums l) {n:Int} (hn : -100000+3*(cG k:Nat)<n/\n<100000) {t:Tp} (ht:SimT v.vars t) (hf:Frm t) (hs:t.sz<=60+15*v.deep)
include ih hv hd hk hn
theorem yQ {l:List Int} {n0:Int} (hl:Nums l) (h0:n-2*(cG k:Nat)<=n0/\n0<=n) (s:ByteArray) {u t:Tp} (hu:SimT v.vars u/\u.sz<=300) (ht:SimT v.vars t) (hf:Frm t) (hs:t.sz<=75+15*v.deep):Smd k (v.more s u) l n0 t :=
 ih _ _ _ _ (by show 7<=v.deep+1+k;omega) (hv.more (by omega) s hu.1 hu.2) ht hf (by show t.sz<=60+15*(v.deep+1);omega) hl (by omega)
end
section
variable {k:Nat} (ih:z0Q k) {v:V9} (hv:SOk v) (hd:v.deep<=6) (hk:7<=v.deep+(k+1)) {l:List Int} (hl:Nums l) {n:Int} (hn : -100000+3*(cG k:Nat)<n/\n<100000) {t:Tp} (ht:SimT v.vars t) (hf:Frm t) (hs:t.sz<=60+15*v.deep)
include ih hv hd hk hl hn ht hf hs
theorem z6X (h1:∀(n:Int) b,yX b l n 12 0 (l.drop 1)):Smc k v l n t:=by
 have hvv:=hv.vok;have hll:=hv.ll;have hvl:=hv.vl;obtain⟨u,l2,hu,us,hl2,hT⟩:=zBN v.vars (by omega) 2 1 (l.drop 1) n rfl hl.drop;have us:u.sz<=19:=us;obtain⟨s,_,hN⟩:=zGJ l2 hl2 v;obtain⟨p,l4,n4,a1,a2,a3,a4,a5,a6⟩:=yQ ih hv hd hk hn hl2.drop (n0:=n) ⟨by omega,by omega⟩ s ⟨hu.1,by omega⟩ ht hf (by omega);obtain⟨a,l5,n5,b1,b2,b3,b4,b5,b6⟩:=yQ ih hv hd hk hn a3 (n0:=n4) ⟨by omega,by omega⟩ .empty (u:=t) (t:=u) ⟨ht,by omega⟩ hu.1 hu.2 (by omega);refine⟨zBJ (zKF s u p) a,l5,n5,zDT hvv (by omega) hu.1 (by omega) (zRQ hvv (by omega) hu.1 (by omega) ht (by omega) a1) b1.mute,?_,b3,by omega,by omega,fun b=>z7L ⟨by omega,by omega⟩ (h1 n b) (hT b) (hN n b) (a6 b) (b6 b)⟩;simp only[Cr.sz];unfold bud at a2 b2⊢;omega
theorem z6Z (h1:∀(n:Int) b,yX b l n 12 1 (l.drop 1)):Smc k v l n t:=by
 have hvv:=hv.vok;have hll:=hv.ll;have hvl:=hv.vl;obtain⟨u,l2,hu,us,hl2,hT⟩:=zBN v.vars (by omega) 2 1 (l.drop 1) n rfl hl.drop;have us:u.sz<=19:=us;obtain⟨s,_,hN⟩:=zGJ l2 hl2 v;obtain⟨a,l4,n4,a1,a2,a3,a4,a5,a6⟩:=yQ ih hv hd hk hn hl2.drop (n0:=n) ⟨by omega,by omega⟩ s ⟨hu.1,by omega⟩ hu.1 hu.2 (by omega);obtain⟨p,l5,n5,b1,b2,b3,b4,b5,b6⟩:=yQ ih hv hd hk hn a3 (n0:=n4) ⟨by omega,by omega⟩ s ⟨hu.1,by omega⟩ ht hf (by omega);refine⟨_,l5,n5,z5V hvv (by omega) hu.1 (by omega) a1 b1,?_,b3,by omega,by omega,fun b=>z7G ⟨by omega,by omega⟩ (h1 n b) (hT b) (hN n b) (a6 b) (b6 b)⟩;simp only[Cr.sz];unfold bud at a2 b2⊢;omega
theorem z6M (h1:∀(n:Int) b,yX b l n 12 4 (l.drop 1)):Smc k v l n t:=by
 have hvv:=hv.vok;have hll:=hv.ll;have hvl:=hv.vl;obtain⟨u,l2,hu,us,hl2,hT⟩:=zBN v.vars (by omega) 1 2 (l.drop 1) n rfl hl.drop;have us:u.sz<=7:=us;obtain⟨p,l4,n4,a1,a2,a3,a4,a5,a6⟩:=yQ ih hv hd hk hn hl2 (n0:=n) ⟨by omega,by omega⟩ .empty (u:=t) (t:=fnT u t) ⟨ht,by omega⟩ (zT0 hu.1 ht) (.fn hu.2 hf) (by simp only[Tp.sz];omega);obtain⟨a,l5,n5,b1,b2,b3,b4,b5,b6⟩:=yQ ih hv hd hk hn a3 (n0:=n4) ⟨by omega,by omega⟩ .empty (u:=t) (t:=u) ⟨ht,by omega⟩ hu.1 hu.2 (by omega);refine⟨_,l5,n5,zDT hvv (by omega) hu.1 (by omega) a1.mute b1.mute,?_,b3,by omega,by omega,fun b=>z6R ⟨by omega,by omega⟩ (h1 n b) (hT b) (a6 b) (b6 b)⟩;simp only[Cr.sz];unfold bud at a2 b2⊢;omega
theorem z6V (h1:∀(n:Int) b,yX b l n 12 3 (l.drop 1)):Smc k v l n t:=by
 have hvv:=hv.vok;have hll:=hv.ll;have hvl:=hv.vl;obtain⟨u,l2,hu,us,hl2,hT⟩:=zBN v.vars (by omega) 2 1 (l.drop 1) n rfl hl.drop;have us:u.sz<=19:=us;obtain⟨hq,h3⟩:=zC7 hl2 (m:=3) (by decide);obtain⟨s,hsl,hsz,hw⟩:∃s,[str ⟨#[97]⟩,str ⟨#[98]⟩,str ⟨#[99]⟩][((nx l2 3:Nat):Int).toNat]? = some (str s)/\s.size=1/\Wrd s:=by
  match nx l2 3,hq with
  | 0,_=>exact⟨⟨#[97]⟩,rfl,rfl,by decide⟩
  | 1,_=>exact⟨⟨#[98]⟩,rfl,rfl,by decide⟩
  | 2,_=>exact⟨⟨#[99]⟩,rfl,rfl,by decide⟩
 have hws:Wrd (s++sq)/\(s++sq).size<=10:=⟨zGL hw (by decide),by rw[ByteArray.size_append,hsz];decide⟩
 have hsp:=hv.poly (by omega) hws;have hsm:=hsp.more (by show v.deep+1<=7;omega) sp (t := .var (s++sq)) (List.mem_append_right _ (List.mem_singleton.2 rfl)) (by simp only[Tp.sz];omega);obtain⟨p,l4,n4,a1,a2,a3,a4,a5,a6⟩:=ih _ (l2.drop 1) n t (by show 7<=v.deep+1+1+k;omega) hsm (ht.mono fun x hx=>List.mem_append_left _ hx) hf (by show t.sz<=60+15*(v.deep+1+1);omega) hl2.drop ⟨by omega,by omega⟩;by_cases hm:s++sq∈v.vars
 ·obtain⟨c,l5,m1,m2,m3,m4⟩:=zIP hf 100 v l4 hvv (by omega) ht (by omega) a3;refine⟨c,l5,n4,m1,by omega,m3,by omega,by omega,fun b=>z3O (p:=p) (a := .nil) ⟨by omega,by omega,by omega⟩ (h1 n b) (hT b) (h3 n b) hsl hsz (a6 b) c (fun _=>⟨m4 n4 b,rfl⟩) fun h=>absurd hm h⟩
 ·obtain⟨a,l5,n5,b1,b2,b3,b4,b5,b6⟩:=yQ ih hv hd hk hn a3 (n0:=n4) ⟨by omega,by omega⟩ .empty (u:=t) (t:=u) ⟨ht,by omega⟩ hu.1 hu.2 (by omega);refine⟨_,l5,n5,z2H hvv (by omega) hm hu.1 (by omega) ht (by omega) a1 b1.mute,?_,b3,by omega,by omega,fun b=>z3O (p:=p) (a:=a) ⟨by omega,by omega,by omega⟩ (h1 n b) (hT b) (h3 n b) hsl hsz (a6 b) _ (fun h=>absurd h hm) fun _=>⟨b6 b,rfl⟩⟩;simp only[Cr.sz];unfold bud at a2 b2⊢;omega
end
theorem z01 (r:Nat) (hr:r<4):∃s,[str zXD,str zYH,str zYR,str zZ3][((r:Nat):Int).toNat]? = some (str s)/\zC8 s=some (.con yE):=by
 match r,hr with
 | 0,_=>exact⟨_,rfl,rfl⟩
 | 1,_=>exact⟨_,rfl,rfl⟩
 | 2,_=>exact⟨_,rfl,rfl⟩
 | 3,_=>exact⟨_,rfl,rfl⟩
theorem z00 (r:Nat) (hr:r<2):∃s,[str sEq,str sLt][((r:Nat):Int).toNat]? = some (str s)/\zC8 s=some (.con yC):=by
 match r,hr with
 | 0,_=>exact⟨_,rfl,rfl⟩
 | 1,_=>exact⟨_,rfl,rfl⟩
section
variable {k:Nat} (ih:z0Q k) {v:V9} (hv:SOk v) (hd:v.deep<=6) (hk:7<=v.deep+(k+1)) {l:List Int} (hl:Nums l) {n:Int} (hn : -100000+3*(cG k:Nat)<n/\n<100000) {t:Tp} (ht:SimT v.vars t) (hf:Frm t) (hs:t.sz<=60+15*v.deep)
include ih hv hd hk hl hn ht hf hs
theorem z7K (h1:∀(n:Int) b,yX b l n 12 2 (l.drop 1)):Smc k v l n t:=by
 have hvv:=hv.vok;have hll:=hv.ll;have hvl:=hv.vl;have hl1:=hl.drop;have lv:v.L.length<=10000/\v.deep<=10000:=⟨by omega,by omega⟩
 have fin:(∃c l' n',Mkd v t c/\c.sz<=1640+1100*(bud n-bud n')/\Nums l'/\n'<=n/\n-3*(cG k:Nat)<=n'/\∀b,zLX b (l.drop 1) n v t c l' n')->Smc k v l n t:=fun⟨c,l',n',m1,m2,m3,m4,m5,m6⟩ =>
  ⟨c,l',n',m1,m2,m3,m4,m5,fun b=>z6I ⟨by omega,by omega⟩ (h1 n b) (m6 b)⟩
 refine fin ?_;obtain⟨hj,h2⟩:=zC7 hl1 (m:=4) (by decide);obtain⟨j,ej⟩:∃j,nx (l.drop 1) 4=j:=⟨_,rfl⟩
 rw[ej] at hj h2;have hl2:=hl1.drop
 match j,hj,h2 with
 | 0,_,h2 =>
  obtain⟨p,l3,n3,a1,a2,a3,a4,a5,a6⟩:=yQ ih hv hd hk hn hl2 (n0:=n) ⟨by omega,by omega⟩ .empty (u:=t) ⟨ht,by omega⟩ zUX .bool (by simp only[Tp.sz];omega);obtain⟨q,l4,n4,b1,b2,b3,b4,b5,b6⟩:=yQ ih hv hd hk hn a3 (n0:=n3) ⟨by omega,by omega⟩ .empty (u:=t) ⟨ht,by omega⟩ ht hf (by omega);obtain⟨r,l5,n5,c1,c2,c3,c4,c5,c6⟩:=yQ ih hv hd hk hn b3 (n0:=n4) ⟨by omega,by omega⟩ .empty (u:=t) ⟨ht,by omega⟩ ht hf (by omega);refine⟨_,l5,n5,zYT hvv (by omega) ht (by omega) a1.mute b1.mute c1.mute,?_,c3,by omega,by omega,fun b=>z1X lv (h2 n b) (a6 b) (b6 b) (c6 b)⟩;simp only[Cr.sz];unfold bud at a2 b2 c2⊢;omega
 | 1,_,h2 =>
  obtain⟨p,l3,n3,a1,a2,a3,a4,a5,a6⟩:=yQ ih hv hd hk hn hl2 (n0:=n) ⟨by omega,by omega⟩ .empty (u:=t) ⟨ht,by omega⟩ zJN .int (by simp only[Tp.sz];omega);obtain⟨hq,h3⟩:=zC7 a3 (m:=5) (by decide);obtain⟨q,l4,n4,b1,b2,b3,b4,b5,b6⟩:=yQ ih hv hd hk hn a3.drop (n0:=n3) ⟨by omega,by omega⟩ .empty (u:=t) ⟨ht,by omega⟩ ht hf (by omega);obtain⟨r,l5,n5,c1,c2,c3,c4,c5,c6⟩:=yQ ih hv hd hk hn b3 (n0:=n4) ⟨by omega,by omega⟩ .empty (u:=t) ⟨ht,by omega⟩ ht hf (by omega);refine⟨_,l5,n5,z0D hvv (by omega) ht (by omega) a1.mute b1.mute c1.mute,?_,c3,by omega,by omega,fun b=>z1U lv (h2 n b) (a6 b) (h3 n3 b) (b6 b) (c6 b)⟩;simp only[Cr.sz];unfold bud at a2 b2 c2⊢;omega
 | 2,_,h2 =>
  obtain⟨u,l3,hu,us,hl3,hT⟩:=zBN v.vars (by omega) 1 2 ((l.drop 1).drop 1) n rfl hl2;have us:u.sz<=7:=us;obtain⟨p,l4,n4,a1,a2,a3,a4,a5,a6⟩:=yQ ih hv hd hk hn hl3 (n0:=n) ⟨by omega,by omega⟩ .empty (u:=t) (t:=lsT u) ⟨ht,by omega⟩ (zUF hu.1) (.ls hu.2) (by simp only[Tp.sz];omega);have hv2:=(hv.more (by omega) sx hu.1 (by omega)).more (by show v.deep+1<=7;omega) sy (t:=lsT u) (zUF hu.1) (by simp only[Tp.sz];omega);obtain⟨q,l5,n5,b1,b2,b3,b4,b5,b6⟩:=ih _ l4 n4 t (by show 7<=v.deep+1+1+k;omega) hv2 ht hf (by show t.sz<=60+15*(v.deep+1+1);omega) a3 ⟨by omega,by omega⟩;obtain⟨r,l6,n6,c1,c2,c3,c4,c5,c6⟩:=yQ ih hv hd hk hn b3 (n0:=n5) ⟨by omega,by omega⟩ .empty (u:=t) ⟨ht,by omega⟩ ht hf (by omega);obtain⟨hq,h3⟩:=zC7 c3 (m:=3) (by decide);refine⟨_,l6.drop 1,n6,?_,?_,c3.drop,by omega,by omega,fun b=>z0N lv (h2 n b) (hT b) (a6 b) (b6 b) (c6 b) (h3 n6 b)⟩
  ·split
   ·exact zUS hvv (by omega) (by decide) ht (by omega) hu.1 (by omega) a1.mute b1
   ·exact zV4 hvv (by omega) (by decide) ht (by omega) hu.1 (by omega) a1.mute b1 c1.mute
  ·split<;>simp only[Cr.sz]<;>unfold bud at a2 b2 c2⊢<;>omega
 | 3,_,h2 =>
  obtain⟨u,l3,hu,us,hl3,hT⟩:=zBN v.vars (by omega) 1 2 ((l.drop 1).drop 1) n rfl hl2;have us:u.sz<=7:=us;obtain⟨w,l4,hw,ws,hl4,hT2⟩:=zBN v.vars (by omega) 1 2 l3 n rfl hl3;have ws:w.sz<=7:=ws;obtain⟨p,l5,n4,a1,a2,a3,a4,a5,a6⟩:=yQ ih hv hd hk hn hl4 (n0:=n) ⟨by omega,by omega⟩ .empty (u:=t) (t:=prT u w) ⟨ht,by omega⟩ (z0I hu.1 hw.1) (.pr hu.2 hw.2) (by simp only[Tp.sz];omega);have hv2:=(hv.more (by omega) sy hu.1 (by omega)).more (by show v.deep+1<=7;omega) sa (t:=w) hw.1 (by omega);obtain⟨q,l6,n5,b1,b2,b3,b4,b5,b6⟩:=ih _ l5 n4 t (by show 7<=v.deep+1+1+k;omega) hv2 ht hf (by show t.sz<=60+15*(v.deep+1+1);omega) a3 ⟨by omega,by omega⟩;refine⟨_,l6,n5,zY2 hvv (by omega) (by decide) ht (by omega) hu.1 (by omega) hw.1 (by omega) a1.mute b1,?_,b3,by omega,by omega,fun b=>z0R lv (h2 n b) (by decide) (hT b) (hT2 b) (a6 b) (b6 b)⟩;simp only[Cr.sz];unfold bud at a2 b2⊢;omega
theorem z6P {r:Nat} (hr:4<r/\r<12) (h1:∀(n:Int) b,yX b l n 12 r (l.drop 1)):Smc k v l n t:=by
 have hvv:=hv.vok;have hll:=hv.ll;have hvl:=hv.vl;have hl1:=hl.drop;have lv:v.L.length<=100000/\v.deep<=100000:=⟨by omega,by omega⟩
 have fin:(∃c l' n',Mkd v t c/\c.sz<=1640+1100*(bud n-bud n')/\Nums l'/\n'<=n/\n-3*(cG k:Nat)<=n'/\∀b,SmE b (l.drop 1) n v t c l' n')->Smc k v l n t:=fun⟨c,l',n',m1,m2,m3,m4,m5,m6⟩ =>
  ⟨c,l',n',m1,m2,m3,m4,m5,fun b=>z6E lv hr (h1 n b) (m6 b)⟩
 have hu:t.sz<=300:=by omega
 cases hf with
 | int =>
  obtain⟨hq,h2⟩:=zC7 hl1 (m:=4) (by decide);obtain⟨s,e1,e2⟩:=z01 _ hq;obtain⟨p,l3,n3,a1,a2,a3,a4,a5,a6⟩:=yQ ih hv hd hk hn hl1.drop (n0:=n) ⟨by omega,by omega⟩ .empty (u := .con yE) ⟨ht,hu⟩ ht .int (by omega);obtain⟨q,l4,n4,b1,b2,b3,b4,b5,b6⟩:=yQ ih hv hd hk hn a3 (n0:=n3) ⟨by omega,by omega⟩ .empty (u := .con yE) ⟨ht,hu⟩ ht .int (by omega);refine fin ⟨_,l4,n4,zUL hvv (by omega) e2 a1.mute b1.mute,?_,b3,by omega,by omega,fun b=>z14 lv e1 (h2 n b) (a6 b) (b6 b)⟩;simp only[Cr.sz];unfold bud at a2 b2⊢;omega
 | bool =>
  obtain⟨hq,h2⟩:=zC7 hl1 (m:=2) (by decide);obtain⟨s,e1,e2⟩:=z00 _ hq;obtain⟨p,l3,n3,a1,a2,a3,a4,a5,a6⟩:=yQ ih hv hd hk hn hl1.drop (n0:=n) ⟨by omega,by omega⟩ .empty (u := .con yC) ⟨ht,hu⟩ zJN .int (by simp only[Tp.sz];omega);obtain⟨q,l4,n4,b1,b2,b3,b4,b5,b6⟩:=yQ ih hv hd hk hn a3 (n0:=n3) ⟨by omega,by omega⟩ .empty (u := .con yC) ⟨ht,hu⟩ zJN .int (by simp only[Tp.sz];omega);refine fin ⟨_,l4,n4,zUL hvv (by omega) e2 a1.mute b1.mute,?_,b3,by omega,by omega,fun b=>zWV lv e1 (h2 n b) (a6 b) (b6 b)⟩;simp only[Cr.sz];unfold bud at a2 b2⊢;omega
 | var x =>
  obtain⟨c,l5,m1,m2,m3,m4⟩:=zIP (.var x) 100 v (l.drop 1) hvv (by simp only[Tp.sz];omega) ht (by simp only[Tp.sz];omega) hl1;exact fin ⟨c,l5,n,m1,by simp only[Tp.sz] at m2;omega,m3,by omega,by omega,fun b=>z0S lv (m4 n b)⟩
 | @ls a hfa =>
  obtain⟨hq,h2⟩:=zC7 hl1 (m:=3) (by decide);by_cases h0:0<nx (l.drop 1) 3
  ·simp only[Tp.sz] at hs;obtain⟨p,l3,n3,a1,a2,a3,a4,a5,a6⟩:=yQ ih hv hd hk hn hl1.drop (n0:=n) ⟨by omega,by omega⟩ .empty (u:=lsT a) (t:=a) ⟨ht,hu⟩ ht.2 hfa (by omega);obtain⟨q,l4,n4,b1,b2,b3,b4,b5,b6⟩:=yQ ih hv hd hk hn a3 (n0:=n3) ⟨by omega,by omega⟩ .empty (u:=lsT a) (t:=lsT a) ⟨ht,hu⟩ ht (.ls hfa) (by simp only[Tp.sz];omega);refine fin ⟨_,l4,n4,zDT hvv (by omega) ht (by simp only[Tp.sz];omega) (zDT hvv (by omega) ht.2 (by omega) (z8C hvv (by omega) ht.2 (by omega)) a1.mute) b1.mute,?_,b3,by omega,by omega,fun b=>z19 lv h0 (h2 n b) (a6 b) (b6 b)⟩;simp only[Cr.sz];unfold bud at a2 b2⊢;omega
  ·have e0:nx (l.drop 1) 3=0:=by omega
   rw[e0] at h2;obtain⟨c,l5,m1,m2,m3,m4⟩:=zIP (.ls hfa) 100 v ((l.drop 1).drop 1) hvv (by omega) ht (by omega) hl1.drop;exact fin ⟨c,l5,n,m1,by omega,m3,by omega,by omega,fun b=>z2D lv (h2 n b) (m4 n b)⟩
 | @fn a r hfa hfr =>
  simp only[Tp.sz] at hs;obtain⟨s,_,hN⟩:=zGJ (l.drop 1) hl1 v;obtain⟨p,l3,n3,a1,a2,a3,a4,a5,a6⟩:=yQ ih hv hd hk hn hl1.drop (n0:=n) ⟨by omega,by omega⟩ s (u:=a) (t:=r) ⟨ht.1.2,by omega⟩ ht.2 hfr (by omega);refine fin ⟨_,l3,n3,zRQ hvv (by omega) ht.1.2 (by omega) ht.2 (by omega) a1,?_,a3,by omega,by omega,fun b=>z5H lv (hN n b) (a6 b)⟩;simp only[Cr.sz];unfold bud at a2⊢;omega
 | @pr x y hfx hfy =>
  simp only[Tp.sz] at hs;obtain⟨p,l3,n3,a1,a2,a3,a4,a5,a6⟩:=yQ ih hv hd hk hn hl1 (n0:=n) ⟨by omega,by omega⟩ .empty (u:=prT x y) (t:=x) ⟨ht,hu⟩ ht.1.2 hfx (by omega);obtain⟨q,l4,n4,b1,b2,b3,b4,b5,b6⟩:=yQ ih hv hd hk hn a3 (n0:=n3) ⟨by omega,by omega⟩ .empty (u:=prT x y) (t:=y) ⟨ht,hu⟩ ht.2 hfy (by omega);refine fin ⟨_,l4,n4,zDT hvv (by omega) ht.2 (by omega) (zDT hvv (by omega) ht.1.2 (by omega) (z7E hvv (by omega) ht.1.2 (by omega) ht.2) a1.mute) b1.mute,?_,b3,by omega,by omega,fun b=>z3Z lv (a6 b) (b6 b)⟩;simp only[Cr.sz];unfold bud at a2 b2⊢;omega
end
theorem zUP (k:Nat):z0Q k:=by
 induction k with
 | zero =>
  intro v l n t hk hv ht hf hs hl hn;exact zLV hv ht hf hs hl ⟨by simp only[cG] at hn;omega,hn.2⟩ (.inr (by omega))
 | succ k ih =>
  intro v l n t hk hv ht hf hs hl hn;simp only[cG] at hn;by_cases hd:n-1<1∨6<v.deep
  ·exact zLV hv ht hf hs hl ⟨by omega,hn.2⟩ hd
  ·refine zZ0 ⟨by omega,hn.2⟩ hd ?_;have hd6:v.deep<=6:=by omega
   have hn1 : -100000+3*(cG k:Nat)<n-1/\n-1<100000:=⟨by omega,by omega⟩
   obtain⟨hj,h1⟩:=zC7 hl (m:=12) (by decide);obtain⟨j,ej⟩:∃j,nx l 12=j:=⟨_,rfl⟩
   rw[ej] at hj h1;by_cases h4:4<j
   ·exact z6P ih hv hd6 hk hl hn1 ht hf hs ⟨h4,hj⟩ h1
   ·match j,h4,h1 with
    | 0,_,h1=>exact z6X ih hv hd6 hk hl hn1 ht hf hs h1
    | 1,_,h1=>exact z6Z ih hv hd6 hk hl hn1 ht hf hs h1
    | 2,_,h1=>exact z7K ih hv hd6 hk hl hn1 ht hf hs h1
    | 3,_,h1=>exact z6V ih hv hd6 hk hl hn1 ht hf hs h1
    | 4,_,h1=>exact z6M ih hv hd6 hk hl hn1 ht hf hs h1
    | j+5,h4,_=>omega
theorem zBS:zC Tryz.prog 11 [] (.sl (qL yS)):=by
 refine zA ttok mixed Tryz.func11 rfl (by rfl) (Nat.le_of_ble_eq_true rfl) (by kernel_rfl) ?_;refine .inl ⟨_,yG sL,?_⟩;refine⟨by kernel_rfl,?_⟩;refine .inl ⟨_,yG sP,?_⟩;refine⟨by kernel_rfl,?_⟩;refine .inl ⟨_,xI (.var sb9) (.var sb9),?_⟩;refine .inl ⟨_,yG sK,?_⟩;refine⟨by kernel_rfl,?_⟩;refine .inl ⟨_,zBY sa (lsT (.var sa)),?_⟩;refine .inl ⟨_,xI (lsT (.var sa)) (lsT (.var sa)),?_⟩;refine .inl ⟨_,xI (.var sa) (fnT (lsT (.var sa)) (lsT (.var sa))),?_⟩;refine .inl ⟨_,zBY sa (fnT (.var sa) (fnT (lsT (.var sa)) (lsT (.var sa)))),?_⟩;refine .inl ⟨_,xI (.var sb9) (prT (.var sa) (.var sb9)),?_⟩;refine .inl ⟨_,xI (.var sa) (fnT (.var sb9) (prT (.var sa) (.var sb9))),?_⟩;refine .inl ⟨_,zBY sb9 (fnT (.var sa) (fnT (.var sb9) (prT (.var sa) (.var sb9)))),?_⟩;refine .inl ⟨_,zBY sa (.all sb9 (fnT (.var sa) (fnT (.var sb9) (prT (.var sa) (.var sb9))))),?_⟩;refine .inl ⟨_,yG yC,?_⟩;refine .inl ⟨_,yG yC,?_⟩;refine .inl ⟨_,xI (.all sb9 (fnT (.var sb9) (.var sb9))) (.app (.con sK) (.var sa)),?_⟩;refine .inl ⟨_,xI (.var sa) (fnT (.all sb9 (fnT (.var sb9) (.var sb9))) (.app (.con sK) (.var sa))),?_⟩;refine .inl ⟨_,zBY sa (fnT (.var sa) (fnT (.all sb9 (fnT (.var sb9) (.var sb9))) (.app (.con sK) (.var sa)))),?_⟩;refine⟨by kernel_rfl,?_⟩;exact rfl
def v0:V9:=⟨[],[],0⟩
def v1:V9:=⟨[],[sa],0⟩
def zTL (c:Cr) (t:Tp):Prop:=(Gd c/\c.sz<=30000)/\∃u,SimT [] u/\u.sz<=43/\((t=u/\Mkd v0 u c)∨(t = .all sa (fnT (.var sa) u)/\∃p,c=zB4 sa p/\Mkd v1 (fnT (.var sa) u) p))
theorem zY3 {l:List Int} (hlen:l.length<9223372036854775808) (hr:∀x∈l,InR x):∃c t,zTL c t/\zC Tryz.prog 19 [.sl (eIs l)] (.tup [eC c,eTy t]):=by
 have hl:Nums (l.take 60):=⟨by simp;omega,fun i hi=>hr i (List.mem_of_mem_take hi)⟩
 obtain⟨t,l2,ht,ts,hl2,hT⟩:=zBN [] (by decide) 3 0 (l.take 60) 26 rfl hl;have ts:t.sz<=43:=ts;obtain⟨hj,h3⟩:=zC7 hl2 (m:=3) (by decide);by_cases h0:nx l2 3=0
 ·rw[h0] at h3;have hv:SOk v1:=⟨fun p hp=>(by cases hp),fun x hx=>by rw[List.mem_singleton.1 hx];exact⟨by decide,by decide⟩,by decide,by decide,by decide⟩
  have hs1:SimT v1.vars (fnT (.var sa) t):=zT0 (List.mem_singleton.2 rfl) (ht.1.mono fun x hx=>by cases hx);obtain⟨c,l',n',m1,m2,m3,m4,m5,m6⟩:=zUP 8 v1 (l2.drop 1) 26 (fnT (.var sa) t) (by decide) hv hs1 (.fn (.var _) ht.2) (by show (fnT (.var sa) t).sz<=60;simp only[Tp.sz];omega) hl2.drop (by decide);have hb:bud 26=25:=rfl;refine⟨zB4 sa c,.all sa (fnT (.var sa) t),⟨⟨zTF m1.gd,by simp only[Cr.sz];omega⟩,t,ht.1,ts,.inr ⟨rfl,c,rfl,m1⟩⟩,?_⟩;refine CallsG.pure ?_ (post:=fun r o h=>r = .tup [eC (zB4 sa c),eTy (.all sa (fnT (.var sa) t))]/\o=0/\∃b,h=mkH b l' n') (by
   rintro r o h ⟨rfl,rfl,b,rfl⟩;exact⟨.refl _,rfl⟩)
  refine zI (first:=[]) (cap:=[]) ttok mixed Tryz.func19 rfl (by rfl) rfl (Nat.le_of_ble_eq_true rfl) (by kernel_rfl) ?_;refine Wsem.seq ttok mixed ?_;refine Wsem.seq ttok mixed ?_;refine .inl ⟨_,zNG (n:=60) hlen (by decide),?_⟩;refine .inr ⟨rfl,fun b=>?_⟩;refine Wsem.cut {vs:=[(2,.box 0 eZ),(3,.box 0 (eTy .no)),(4,.v (pt b 0))],hp:=mkH b (l.take 60) 26} ⟨⟨rfl,rfl,rfl,trivial⟩,trivial,rfl⟩ ?_;refine Wsem.of ttok mixed ?_;refine .inr (.inr (.inr (.inl ⟨[0],mkH b (l.take 60) 26,mkH b l2 26,_,rfl,zD,rfl,hT b,?_⟩)));refine .inr (.inr (.inr (.inl ⟨[0],mkH b l2 26,mkH b (l2.drop 1) 26,_,rfl,zD,rfl,h3 26 b,?_⟩)));refine⟨fun _=>?_,fun h=>Bool.noConfusion (show true=false from h)⟩;refine .inl ⟨_,xI (.var sa) t,?_⟩;refine .inr (.inr (.inr (.inl ⟨[0],mkH b (l2.drop 1) 26,mkH b l' n',_,rfl,zD,rfl,m6 b,?_⟩)));refine .inl ⟨_,zBY sa (fnT (.var sa) t),?_⟩;refine⟨by kernel_rfl,?_⟩;exact⟨rfl,rfl,b,rfl⟩
 ·have hv:SOk v0:=⟨fun p hp=>(by cases hp),fun x hx=>(by cases hx),by decide,by decide,by decide⟩
  obtain⟨c,l',n',m1,m2,m3,m4,m5,m6⟩:=zUP 8 v0 (l2.drop 1) 26 t (by decide) hv ht.1 ht.2 (by show t.sz<=60;omega) hl2.drop (by decide);have hb:bud 26=25:=rfl;refine⟨c,t,⟨⟨m1.gd,by omega⟩,t,ht.1,ts,.inl ⟨rfl,m1⟩⟩,?_⟩;refine CallsG.pure ?_ (post:=fun r o h=>r = .tup [eC c,eTy t]/\o=0/\∃b,h=mkH b l' n') (by
   rintro r o h ⟨rfl,rfl,b,rfl⟩;exact⟨.refl _,rfl⟩)
  refine zI (first:=[]) (cap:=[]) ttok mixed Tryz.func19 rfl (by rfl) rfl (Nat.le_of_ble_eq_true rfl) (by kernel_rfl) ?_;refine Wsem.seq ttok mixed ?_;refine Wsem.seq ttok mixed ?_;refine .inl ⟨_,zNG (n:=60) hlen (by decide),?_⟩;refine .inr ⟨rfl,fun b=>?_⟩;refine Wsem.cut {vs:=[(2,.box 0 eZ),(3,.box 0 (eTy .no)),(4,.v (pt b 0))],hp:=mkH b (l.take 60) 26} ⟨⟨rfl,rfl,rfl,trivial⟩,trivial,rfl⟩ ?_;refine Wsem.of ttok mixed ?_;refine .inr (.inr (.inr (.inl ⟨[0],mkH b (l.take 60) 26,mkH b l2 26,_,rfl,zD,rfl,hT b,?_⟩)));refine .inr (.inr (.inr (.inl ⟨[0],mkH b l2 26,mkH b (l2.drop 1) 26,_,rfl,zD,rfl,h3 26 b,?_⟩)));refine⟨fun h=>absurd (of_decide_eq_true h) (by omega),fun _=>?_⟩;refine .inr (.inr (.inr ⟨[0],mkH b (l2.drop 1) 26,mkH b l' n',_,rfl,zD,rfl,m6 b,?_⟩));refine⟨by kernel_rfl,?_⟩;exact⟨rfl,rfl,b,rfl⟩
abbrev liA:Cr:=zKF sx (.var sa) (vr sx)
abbrev liB:Cr:=zB4 sa liA
abbrev wL:Wd := .of [] []
abbrev o0:ByteArray:=zDY 0
theorem zXA:Gd liA:=zDH (.inl rfl) (yN (by decide)) (zRZ _)
theorem z4J:Gd liB:=zTF zXA
theorem zK1 {c:Cr} (h:Gd c) (hs:c.sz<90000):zM1 c:=zTD h hs
theorem zK9 (env:List Nm2) (ps:Env') (d:Nat) (he:env.length<=100) (hp:ps.length<=100/\(∀p∈ps,∃x,p.2 = .var x)) (hd:d<100):WOk 50000 ⟨[],env,ps,d⟩ :=
 ⟨by show 0<=1000;omega,fun f hf=>(by cases hf),by show env.length<=_;omega,by show List.length ps<=_;omega,hp.2,hd⟩
theorem zEI {d:Nat} (h:d<100):(zDY d).size<=8:=by
 have:=wJ 2 d (by omega) (by decide);unfold zDY;rw[ByteArray.size_append];show 1+_<=8;omega
theorem gs_o0:Gs (.var o0):=⟨by decide,by unfold o0 zDY;exact zGL (by decide) (zDM 0),Nat.le_trans (zEI (by decide)) (by decide)⟩
theorem zNB:TyW zDY 50000 wL liB (.all o0 (fnT (.var o0) (.var o0))):=by
 have w1:WOk 50000 (⟨[],[],[],0⟩:Wd):=zK9 [] [] 0 (by decide) ⟨by decide,fun p hp=>by cases hp⟩ (by decide);have w2:WOk 50000 (⟨[],[],[(sa,.var o0)],1⟩:Wd):=zK9 _ _ _ (by decide) ⟨by decide,fun p hp=>by rw[List.mem_singleton.1 hp];exact⟨_,rfl⟩⟩ (by decide);have w3:WOk 50000 (⟨[],[(sx,.var o0)],[(sa,.var o0)],1⟩:Wd):=zK9 _ _ _ (by simp) ⟨by decide,fun p hp=>by rw[List.mem_singleton.1 hp];exact⟨_,rfl⟩⟩ (by decide);exact .tlam w1 (.lam w2 (by decide) (.var w3 rfl gs_o0) (zCF gs_o0 gs_o0 (by decide))) ⟨by decide,⟨gs_o0.2.1,(zCF gs_o0 gs_o0 (by decide)).2.1⟩,(zCF gs_o0 gs_o0 (by decide)).2.2⟩
theorem zXY:TyW zDY 50000 wL (xR (.con yE) liB) (fnT (.con yE) (.con yE)):=by
 have w1:WOk 50000 (⟨[],[],[],0⟩:Wd):=zK9 [] [] 0 (by decide) ⟨by decide,fun p hp=>by cases hp⟩ (by decide);have e:sub (fnT (.var o0) (.var o0)) [(o0,({fs:=[],env:=[],ps:=[],deep:=0}:Wd).mean (.con yE))]=fnT (.con yE) (.con yE):=by
  show fnT ((if o0=o0 then _ else _:Option Tp).getD _) ((if o0=o0 then _ else _:Option Tp).getD _)=_;rw[if_pos rfl];rfl
 have h:=TyW.tapp (n:=0) (s := .empty) (t := .con yE) w1 (by decide) (by decide) (by decide) zNB (by rw[e];exact zCF zJ3 zJ3 (by decide));rw[e] at h;exact h
theorem zZA:OfN wL (zBJ liB (zYF 3)) :=
 zTU (j:=3) (f:=119) rfl rfl rfl (zU1 rfl (zHH (by decide) zNB) (zHH (B:=50000) (by decide) (.int (zK9 [] [] 0 (by decide) ⟨by decide,fun p hp=>by cases hp⟩ (by decide)))) (by decide) (fun h=>Bool.noConfusion (show false=true from h.1)))
theorem zSU:zC Tryz.prog zER [eTy (fnT (.con yE) (.con yE))] (str ⟨#[73,110,116,32,45,62,32,73,110,116]⟩):=zU7 (dec:=fun _ => .empty) (fun _=>by decide) _ (by decide) (by simp[Tp.fine];decide) (fun n hn=>by simp[mts] at hn)
theorem zUV:zC Tryz.prog zL [eTy (.all o0 (fnT (.var o0) (.var o0))),eTy (.all sb9 (fnT (.var sb9) (.var sb9)))] (.sb true):=by
 have cw:CoW arrow:=⟨by decide,_,_,rfl,by decide⟩
 have wo:Wrd o0:=by unfold o0 zDY;exact zGL (by decide) (zDM 0)
 have wb:Wrd sb9:=by decide
 have h:=zG2 (a := .all o0 (fnT (.var o0) (.var o0))) (b := .all sb9 (fnT (.var sb9) (.var sb9))) (K:=10) ⟨wo,⟨cw,wo⟩,wo⟩ ⟨wb,⟨cw,wb⟩,wb⟩ ⟨⟨(by decide:arrow.size<=10),Nat.le_trans (zEI (by decide)) (by decide)⟩,Nat.le_trans (zEI (by decide)) (by decide)⟩ (by simp[Shn];decide) (by decide) (by decide) (by decide);have e:smb (.all o0 (fnT (.var o0) (.var o0))) (.all sb9 (fnT (.var sb9) (.var sb9))) [] []=true:=zPG (by simp[db,memb,ixN]);rw[e] at h;exact h
theorem zJB:zC Tryz.prog 18 [] (.sb true):=by
 have hB:=z4J;have h1:=zLY (fs:=[]) (env:=[]) (zHH (by decide) zNB) (K:=1000) (jQ (by decide) (by decide) (fun p hp=>by cases hp) (by decide));have h2:=zLY (fs:=[]) (env:=[]) (zHH (by decide) zXY) (K:=1000) (jQ (by decide) (by decide) (fun p hp=>by cases hp) (by decide));have h3:=zV6 (fs:=[]) (env:=[]) zZA;refine zA ttok mixed Tryz.func18 rfl (by rfl) (Nat.le_of_ble_eq_true rfl) (by kernel_rfl) ?_;refine .inl ⟨_,zI7 sa,?_⟩;refine .inl ⟨_,zPI sx,?_⟩;refine .inl ⟨_,zYS (s:=sx) (t := .var sa) (c:=vr sx) (yN (by decide)) (zK1 (zRZ _) (by decide)),?_⟩;refine .inl ⟨_,zWH (l:=[sa]) (zK1 zXA (by decide)) (by decide),?_⟩;refine .inl ⟨_,h1,?_⟩;refine .inl ⟨_,zFL yE,?_⟩;refine .inl ⟨_,zVQ (l:=[.con yE]) (zK1 hB (by decide)) (fun t ht=>by rw[List.mem_singleton.1 ht];exact yN (by decide)) (by decide),?_⟩;refine .inl ⟨_,h2,?_⟩;refine⟨by kernel_rfl,?_⟩;refine .inl ⟨_,zZM 3,?_⟩;refine .inl ⟨_,zZ6 (l:=[zYF 3]) (zK1 hB (by decide)) (fun c hc=>by rw[List.mem_singleton.1 hc];exact zK1 (zBK (.inr (.inl rfl)) zA7) (by decide)) (by decide),?_⟩;refine .inl ⟨_,h3,?_⟩;refine⟨by kernel_rfl,?_⟩;refine⟨fun _=>?_,fun h=>Bool.noConfusion (show true=false from h)⟩;refine .inl ⟨_,zI7 sb9,?_⟩;refine .inl ⟨_,zI7 sb9,?_⟩;refine .inl ⟨_,zT9 (.var sb9) [.var sb9] (by decide),?_⟩;refine .inl ⟨_,zNF sb9 (fnT (.var sb9) (.var sb9)),?_⟩
 refine .inl ⟨_,zUV,?_⟩;refine⟨fun _=>?_,fun h=>Bool.noConfusion (show true=false from h)⟩;refine⟨fun _=>?_,fun h=>Bool.noConfusion (show true=false from h)⟩;refine .inl ⟨_,zSU,?_⟩;refine⟨fun _=>?_,fun h=>Bool.noConfusion (show true=false from h)⟩;refine⟨by kernel_rfl,?_⟩;exact rfl
theorem zOV:zQM zDY:=by
 refine⟨fun i j h=>?_,fun i h=>?_,fun k hk=>⟨by unfold zDY;exact zGL (by decide) (zDM k),Nat.le_trans (zEI hk) (by decide)⟩⟩
 ·have h:=congrArg by' h
  unfold zDY at h;rw[jW,jW] at h;exact zIV (List.append_cancel_left h)
 ·have h:=congrArg (fun b=>(by' b)[0]?) h;unfold zDY at h;simp[jW,by',sb9] at h
abbrev wF:Wd := .of yS []
theorem cmp0 {own:Nat->ByteArray} {w:Wd} (hf:w.fs=yS) (he:w.env.length<=10) (hp:w.ps.length<=10) (hd:w.deep<=10) (hv:∀p∈w.ps,∃k,p.2 = .var (own k)/\k<w.deep):Cmp own v0 w :=
 ⟨hf,fun s t _ h=>by simp[v0,wP] at h,by omega,by omega,by omega,hv,fun x hx=>(by cases hx)⟩
theorem z7W {own:Nat->ByteArray}:Cmp own v0 wF:=cmp0 rfl (by decide) (by decide) (by decide) (fun p hp=>by cases hp)
theorem z7R:VOk 0 v0:=⟨fun p hp=>(by cases hp),by decide,by decide,by decide,fun x hx=>(by cases hx)⟩
theorem zAZ:∀{u:Tp} (e:List ByteArray),SimT [] u->db u e=db u []
 | .con _,_,_=>rfl
 | .app a b,e,h=>by
  show Db.app (db a e) (db b e)=Db.app (db a []) (db b []);rw[zAZ e h.1,zAZ e h.2]
 | .var x,_,h=>by cases h
theorem zC0 {u:Tp} (ps:Env') (h:SimT [] u):sub u ps=u:=zDF h.no fun x hx=>by have:=h.fv x hx;cases this
theorem zPX (o:ByteArray) {u:Tp} (h:SimT [] u) (ps:Env'):sub (.all o (fnT (.var o) u)) ps = .all o (fnT (.var o) u):=by
 have hf:∀x∈fv (fnT (.var o) u),x=o:=fun x hx=>by
  rcases mem_fv_app.1 hx with hx|hx
  ·rcases mem_fv_app.1 hx with hx|hx
   ·simp[fv] at hx
   ·simpa[fv] using hx
  ·cases h.fv x hx
 have hk:kept o (fv (fnT (.var o) u)) ps=[]:=by
  unfold kept;refine List.filter_eq_nil_iff.2 fun p hp h=>?_;simp only[Bool.and_eq_true,decide_eq_true_eq] at h;exact h.1 (hf _ (memb_iff.1 h.2))
 rw[sub,hk];have hc:memb o (caught [])=false:=rfl;rw[hc,if_neg (by decide),zF1]
structure Alk (t' t:Tp):Prop where
 tk:TkX t'/\Shn 10 t'
 tk2:TkX t/\Shn 10 t
 db:∀e e',db t' e=db t e'
 sz:t'.sz<=50/\t.sz<=50
 sb:∀ps,sub t' ps=t'
 sb2:∀ps,sub t ps=t
theorem zM3:CoW arrow:=⟨by decide,_,_,rfl,by decide⟩
theorem zI2 {c:Cr} {t:Tp} (h:zTL c t) {own:Nat->ByteArray} (ho:zQM own) {w:Wd} (hw:Cmp own v0 w):∃t',TyW own 50000 w c t'/\Alk t' t:=by
 obtain⟨_,u,hu,hs,⟨rfl,hm⟩|⟨rfl,p,rfl,hm⟩⟩:=h
 ·have tk:=zAS (vars:=[]) (fun x hx=>by cases hx) hu;have hm:=hm.ty own ho w hw;rw[show w.mean t=t from zC0 _ hu] at hm;exact⟨_,hm,tk,tk,fun e e'=>by rw[zAZ e hu,zAZ e' hu],⟨by omega,by omega⟩,fun ps=>zC0 ps hu,fun ps=>zC0 ps hu⟩
 ·have tk:=zAS (vars:=[]) (fun x hx=>by cases hx) hu;have hp:=hw.poly z7R (s:=sa) (by simp[v0]);have hp1:Cmp own v1 (w.all sa (own w.deep)):=⟨hp.fs,hp.env,hp.el,hp.pl,hp.dl,hp.pv,hp.vars⟩
  have hok:=hw.ok z7R (by decide);have ht:=hm.ty own ho _ hp1;have e1:(w.all sa (own w.deep)).mean (fnT (.var sa) u)=fnT (.var (own w.deep)) u:=by
   show fnT ((look sa (wZ sa w.ps++[(sa,Tp.var (own w.deep))])).getD (.var sa)) (sub u _)=_;rw[zFO,zC0 _ hu];rfl
  rw[e1] at ht;have hd:w.deep<=10:=hw.dl;have wo:=ho.wd w.deep (by omega);have wa:Wrd sa/\sa.size<=10:=⟨by decide,by decide⟩
  refine⟨_,.tlam hok ht (zY0 ho (by omega) ht.gs (by simp only[Tp.sz];omega)),⟨⟨wo.1,⟨zM3,wo.1⟩,tk.1⟩,⟨Nat.le_of_ble_eq_true rfl,wo.2⟩,tk.2⟩,⟨⟨wa.1,⟨zM3,wa.1⟩,tk.1⟩,⟨Nat.le_of_ble_eq_true rfl,wa.2⟩,tk.2⟩,fun e e'=>?_,⟨by simp only[Tp.sz];omega,by simp only[Tp.sz];omega⟩,zPX _ hu,zPX _ hu⟩;show Db.all (Db.app (Db.app (.con arrow) (db (.var (own w.deep)) (own w.deep::e))) (db u (own w.deep::e)))=Db.all (Db.app (Db.app (.con arrow) (db (.var sa) (sa::e'))) (db u (sa::e')));rw[zAZ _ hu,zAZ (sa::e') hu];simp[db,memb,ixN]
end Go.Proofs.YtdmbahepaglcbaaGreatDoor
