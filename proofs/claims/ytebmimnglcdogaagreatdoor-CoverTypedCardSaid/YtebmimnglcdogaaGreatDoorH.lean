/- A part of the proof of a given statement: contracts of functions of the program, under no condition but those that each states. -/
import Derived.Test.YtebmimnglcdogaaGreatDoorG
import Derived.Test.YtebmimnglcdogaaGreatDoorF
import Derived.Test.YtebmimnglcdogaaGreatDoorFpI
set_option linter.unusedSimpArgs false
set_option linter.unusedVariables false
namespace Go.Proofs.YtebmimnglcdogaaGreatDoor.Ck
open Go Fp
set_option maxRecDepth 100000
set_option maxHeartbeats 8000000
inductive Db where
 | no
 | mt (n:Int)
 | bv (i:Nat)
 | fr (s:ByteArray)
 | con (s:ByteArray)
 | app (a b:Db)
 | all (a:Db)
def ixN {α:Type} [DecidableEq α]:List α->α->Nat
 | [],_=>0
 | x::l,s=>if x=s then 0 else ixN l s+1
def sb (σ:ByteArray->Db):Db->Db
 | .fr s=>σ s
 | .app a b => .app (sb σ a) (sb σ b)
 | .all a => .all (sb σ a)
 | d=>d
def nl:Tp->List ByteArray->ByteArray
 | .mt n,_=>⟨#[63]⟩++dcm n.toNat
 | .var s,x=>if memb s x then ⟨#[35]⟩++dcm (ixN x.reverse s) else ⟨#[39]⟩++s
 | .con s,_=>s
 | .all s a,x=>(⟨#[91]⟩++nl a (x++[s]))++⟨#[93]⟩
 | .app a b,x=>((((⟨#[40]⟩++nl a x)++⟨#[32]⟩)++nl b x)++⟨#[41]⟩)
 | .no,_ => .empty
def tk (c:UInt8):Bool:=(48<=c && c<=57) || (65<=c && c<=90) || (97<=c && c<=122)
set_option maxHeartbeats 16000000
set_option linter.unusedVariables false
set_option linter.unusedSimpArgs false
abbrev sP (b:Nat):AV := .lit (.pointer (some ⟨b,0,none⟩))
def eKn (l:Kn):List (AV×AV):=l.map fun q=>(.lit (.int .i64 q.1),eTy q.2)
abbrev stH (b1 b2:Nat) (n:Int) (l:Kn):List (Nat×HO):=[(b1,HO.cells [.lit (.int .i64 n),.lit (.map (some b2))]),(b2,HO.mp (eKn l))]
theorem svc {n m:Int} (h:n=m):SV.v (AV.lit (Value.int .i64 n))=SV.v (AV.lit (Value.int .i64 m)):=by rw[h]
abbrev sv (n:Int):SV := .v (.lit (.int .i64 n))
theorem qE (l:Kn):∀p∈eKn l,wH (.lit (.int .i64 0)) p.1:=fun p hp=>by
 obtain⟨q,_,rfl⟩:=List.mem_map.1 hp;exact rfl
theorem zCT {a b:Int} (h:a≠b):(AV.lit (.int .i64 a))≠.lit (.int .i64 b):=fun e=>by injection e with e;injection e with _ e;exact h e
theorem zD8 (l:Kn) (n:Int):(zAN l n=none/\Fp.Found (eKn l) (.int .i64 n) none)∨∃j x,zAN l n=some x/\Fp.Found (eKn l) (.int .i64 n) (some (j,eTy x)):=by
 induction l with
 | nil=>exact .inl ⟨rfl,.no (by simp[eKn])⟩
 | cons q l ih =>
  obtain⟨m,t⟩:=q;by_cases h:m=n
  ·subst h;exact .inr ⟨0,t,by simp[zAN],.yes 0 _ rfl (fun i hi=>by omega)⟩
  ·have e:zAN ((m,t)::l) n=zAN l n:=by unfold zAN;rw[List.find?_cons,show (m == n)=false by simpa using h]
   rcases ih with⟨h1,h2⟩|⟨j,x,h1,h2⟩
   ·refine .inl ⟨e.trans h1,.no fun p hp=>?_⟩;rcases List.mem_cons.1 (show p∈(AV.lit (.int .i64 m),eTy t)::eKn l from hp) with rfl|hp
    ·exact zCT h
    ·cases h2 with|no h2=>exact h2 p hp
   ·refine .inr ⟨j+1,x,e.trans h1,?_⟩;cases h2 with
    | yes _ _ h3 h4 =>
     refine .yes (j+1) _ (by simpa[eKn] using h3) (fun i hi p hp=>?_);cases i with
     | zero =>
      have:p=(AV.lit (.int .i64 m),eTy t):=by simpa[eKn] using hp.symm
      rw[this];exact zCT h
     | succ i=>exact h4 i (by omega) p (by simpa[eKn] using hp)
structure Lk (l:Kn) (t u:Tp):Prop where
 same:fl l u=fl l t
 stop:∀n,u = .mt n->n∉dom l
 fuel:∀k y,ap l k t=some y->ap l k u=some y
 own:(∀n,t = .mt n->n∉dom l)->u=t
 keep:∀P:Tp->Prop,P t->(∀q∈l,P q.2)->P u
theorem zJ3 {l:Kn} (h:Ok l) (t:Tp):∃u,Lk l t u/\∀b1 b2 n,CallsG Tryz.prog (fnv zDA) (stH b1 b2 n l) [sP b1,eTy t] [] fun r o hp=>r=eTy u/\o=0/\hp=stH b1 b2 n l:=by
 have way:∀(k:Nat) (t y:Tp),ap l k t=some y->∃u,Lk l t u/\∃W:Nat->Tp->Prop,W k t/\∀j x,W j x->(∀n,x = .mt n->zAN l n=none->x=u)/\((∀n,x≠.mt n)->x=u)/\∀n z,x = .mt n->zAN l n=some z->∃i,i<j/\W i z:=by
  intro k;induction k with
  | zero=>intro t y h;simp[ap] at h
  | succ k ih =>
   intro t y hy;by_cases hm:∃n z,t = .mt n/\zAN l n=some z
   ·obtain⟨n,z,rfl,hz⟩:=hm;rw[ap,hz] at hy;obtain⟨u,⟨k1,k2,k3,k4,k5⟩,W,w1,w2⟩:=ih z y hy;refine⟨u,⟨?_,k2,fun j y' hj=>?_,fun hn=>?_,fun P _ hP=>k5 P (hP _ (zCN hz)) hP⟩,fun j x=>W j x∨(j=k+1/\x = .mt n),.inr ⟨rfl,rfl⟩,?_⟩
    ·rw[k1,zD0,zG9 h n z (zCN hz)]
    ·cases j with
     | zero=>simp[ap] at hj
     | succ j =>
      rw[ap,hz] at hj;exact qX (k3 j y' hj) (by omega)
    ·exact absurd (List.mem_map.2 ⟨_,zCN hz,rfl⟩) (hn n rfl)
    ·rintro j x (hw|⟨rfl,rfl⟩)
     ·obtain⟨a,b,c⟩:=w2 j x hw;exact⟨a,b,fun m z hm hz=>let ⟨i,hi,hw⟩:=c m z hm hz;⟨i,hi,.inl hw⟩⟩
     ·refine⟨fun m hm hg=>?_,fun hm=>absurd rfl (hm n),fun m z' hm hz'=>?_⟩
      ·injection hm with hm;subst hm;rw[hz] at hg;cases hg
      ·injection hm with hm;subst hm;rw[hz] at hz';injection hz' with hz';subst hz'
       exact⟨k,by omega,.inl w1⟩
   ·refine⟨t,⟨rfl,fun n e=>?_,fun _ _ h=>h,fun _=>rfl,fun _ h _=>h⟩,fun _ x=>x=t,rfl,fun j x hx=>⟨fun _ _ _=>hx,fun _=>hx,fun n z e hz=>?_⟩⟩
    ·rw[<-getK_none];cases hg:zAN l n with
     | none=>rfl
     | some z=>exact absurd ⟨n,z,e,hg⟩ hm
    ·exact absurd ⟨n,z,hx ▸ e,hz⟩ hm
 obtain⟨K,hK⟩:=zST h t;obtain⟨u,hu,W,w1,w2⟩:=way K t _ hK;refine⟨u,hu,fun b1 b2 n=>?_⟩;refine zJ (first:=[]) (cap:=[]) ttok mixed Tryz.func133 rfl (by rfl) rfl (Nat.le_of_ble_eq_true rfl) (by kernel_rfl) ?_;refine⟨{p:Nat×Tp // W p.1 p.2},fun p=>{vs:=[(0,.v (sP b1)),(3,.box 0 (eTy p.1.2)),(4,.box 0 (eTy .no))],hp:=stH b1 b2 n l},fun p=>p.1.1,⟨(K,t),w1⟩,⟨⟨rfl,rfl,rfl,trivial⟩,trivial,rfl⟩,?_⟩;rintro⟨⟨j,x⟩,hx⟩;obtain⟨q1,q2,q3⟩:=w2 j x hx;refine⟨fun hf=>?_,fun hf=>?_⟩
 ·have hf:x.form=1:=of_decide_eq_true hf;obtain⟨m,rfl⟩:=Tp.is_mt hf;rcases zD8 l m with⟨h1,h2⟩|⟨i,z,h1,h2⟩
  ·have e:=q1 m rfl h1;subst e;refine⟨0,_,_,rfl,rfl,?_⟩;refine⟨1,_,none,rfl,qE l,rfl,h2,?_⟩;refine⟨by kernel_rfl,?_⟩;exact⟨rfl,rfl,rfl⟩
  ·obtain⟨i',hi,hw⟩:=q3 m z rfl h1;refine⟨0,_,_,rfl,rfl,?_⟩;refine⟨1,_,some (i,eTy z),rfl,qE l,rfl,h2,?_⟩;refine⟨by kernel_rfl,?_⟩;exact⟨⟨(i',z),hw⟩,hi,⟨rfl,rfl,rfl,trivial⟩,trivial,rfl⟩
 ·have hf:¬x.form=1:=of_decide_eq_false hf;obtain rfl:=q2 (fun m e=>hf (by rw[e];rfl));exact⟨rfl,rfl,rfl⟩
theorem zO8 {l:Kn} {k:Nat} {u y:Tp} (hk:ap l k u=some y):∀x∈u.args,∃j z,j<k/\ap l j x=some z:=by
 cases k with
 | zero=>simp[ap] at hk
 | succ k =>
  intro x hx;cases u with
  | app a b =>
   rw[ap] at hk;split at hk
   ·rename_i a' b' ha hb;simp only[Tp.args,List.mem_cons,List.not_mem_nil,or_false] at hx;rcases hx with rfl|rfl
    ·exact⟨k,_,by omega,ha⟩
    ·exact⟨k,_,by omega,hb⟩
   ·cases hk
  | all s a =>
   rw[ap] at hk;obtain⟨a',ha,_⟩:=Option.map_eq_some_iff.1 hk;simp only[Tp.args,List.mem_cons,List.not_mem_nil,or_false] at hx;subst hx;exact⟨k,_,by omega,ha⟩
  | _=>simp[Tp.args] at hx
abbrev cP (b:Nat):Value := .pointer (some ⟨b,0,none⟩)
abbrev fvW (c3 c4:Nat):Value := .func (.func 158) #[] #[cP c3,cP c4]
abbrev wiH (b1 b2 c3 c4:Nat) (m n:Int) (l:Kn):List (Nat×HO):=[(b1,HO.cells [.lit (.int .i64 m),.lit (.map (some b2))]),(b2,HO.mp (eKn l)),(c3,HO.cells [sP b1]),(c4,HO.cells [.lit (.int .i64 n)])]
def ixF {α:Type} (f:α->Bool) (l:List α):Int:=match l.findIdx? f with|some k=>(k:Int)|none => -1
theorem zVO {α:Type} (f:α->Bool) (l:List α):decide (0<=ixF f l)=l.any f:=by
 unfold ixF;cases h:l.findIdx? f with
 | none =>
  rw[List.findIdx?_eq_none_iff] at h;have:l.any f=false:=by rw[List.any_eq_false];intro x hx;simp[h x hx]
  rw[this];rfl
 | some k =>
  obtain⟨hk,h1,_⟩:=List.findIdx?_eq_some_iff_getElem.1 h;have:l.any f=true:=List.any_eq_true.2 ⟨_,List.getElem_mem hk,h1⟩;rw[this];simp
theorem zXA {α:Type} {f:α->Bool} {l:List α} {k:Nat} (h:k<l.length) (h1:f l[k]=true) (h2:∀j (hj:j<l.length),j<k->f l[j]=false):ixF f l=k:=by
 unfold ixF;rw[show l.findIdx? f=some k from List.findIdx?_eq_some_iff_getElem.2 ⟨h,h1,fun j hj=>by simp[h2 j (by omega) hj]⟩]
theorem zXP {α:Type} {f:α->Bool} {l:List α} (h:∀j (hj:j<l.length),f l[j]=false):ixF f l = -1:=by
 unfold ixF;rw[show l.findIdx? f=none from List.findIdx?_eq_none_iff.2 fun x hx=>by obtain⟨j,hj,rfl⟩:=List.mem_iff_getElem.1 hx;exact h j hj]
theorem zQ4 {b1 b2 c3 c4:Nat} {m n:Int} {k:Kn} (f:Tp->Bool) (l:List Tp) (hl:l.length<1000) (hc:∀x∈l,CallsG Tryz.prog (fvW c3 c4) (wiH b1 b2 c3 c4 m n k) [eTy x] [] fun r o h=>r = .sb (f x)/\o=0/\h=wiH b1 b2 c3 c4 m n k) :
  CallsG Tryz.prog (fnv x9) (wiH b1 b2 c3 c4 m n k) [.sl (zN l),.lit (fvW c3 c4)] [] fun r o h=>r = .lit (.int .i64 (ixF f l))/\o=0/\h=wiH b1 b2 c3 c4 m n k:=by
 have hlen:(zN l).length=l.length:=by simp[zN]
 refine zJ (first:=[]) (cap:=[]) ttok mixed Tryz.func160 rfl (by rfl) rfl (Nat.le_of_ble_eq_true rfl) (by kernel_rfl) ?_;refine⟨{k:Nat // k<=l.length/\∀j (hj:j<l.length),j<k->f l[j]=false},fun i=>{vs:=[(0,.v (.sl (zN l))),(1,.v (.lit (fvW c3 c4))),(7,sv (l.length:Nat)),(8,sv (i.1:Nat))],hp:=wiH b1 b2 c3 c4 m n k},fun i=>l.length-i.1,⟨0,Nat.zero_le _,fun j _ h=>by omega⟩,⟨⟨rfl,rfl,svc (by rw[hlen]),rfl,trivial⟩,trivial,rfl⟩,?_⟩;rintro⟨i,hi,hinv⟩;refine⟨fun h=>?_,fun h=>?_⟩
 ·have h:i<l.length:=by have h:=of_decide_eq_true h;simp only at h;omega
  have hci:=hc _ (List.getElem_mem h);refine⟨_,by omega,zLP h,rfl,?_⟩;refine .inr (.inr (.inl ⟨[0,1,2,3],wiH b1 b2 c3 c4 m n k,_,rfl,by decide,hci,?_⟩));refine⟨fun h2=>?_,fun h2=>?_⟩
  ·rw[zXA h h2 hinv];exact⟨rfl,rfl,rfl⟩
  ·refine⟨⟨i+1,h,fun j hj hji=>?_⟩,by simp;omega,⟨rfl,rfl,rfl,svc (wrap_succ (k:=i) (by omega)),trivial⟩,trivial,rfl⟩;rcases Nat.lt_or_ge j i with hlt|hge
   ·exact hinv j hj hlt
   ·have:j=i:=by omega
    subst this;exact h2
 ·have h:i=l.length:=by have h:=of_decide_eq_false h;simp only at h;omega
  rw[zXP (fun j hj=>hinv j hj (by omega))];exact⟨rfl,rfl,rfl⟩
theorem zKD {b1 b2 c3 c4:Nat} {m n:Int} {k:Kn} (f:Tp->Bool) (l:List Tp) (hl:l.length<1000) (hc:∀x∈l,CallsG Tryz.prog (fvW c3 c4) (wiH b1 b2 c3 c4 m n k) [eTy x] [] fun r o h=>r = .sb (f x)/\o=0/\h=wiH b1 b2 c3 c4 m n k) :
  CallsG Tryz.prog (fnv xP) (wiH b1 b2 c3 c4 m n k) [.sl (zN l),.lit (fvW c3 c4)] [] fun r o h=>r = .sb (l.any f)/\o=0/\h=wiH b1 b2 c3 c4 m n k:=by
 have hI:=zQ4 f l hl hc;rw[<-zVO];refine zJ (first:=[]) (cap:=[]) ttok mixed Tryz.func157 rfl (by rfl) rfl (Nat.le_of_ble_eq_true rfl) (by kernel_rfl) ?_;refine .inr (.inr (.inl ⟨[0,1,2,3],wiH b1 b2 c3 c4 m n k,_,rfl,by decide,hI,?_⟩));exact⟨rfl,rfl,rfl⟩
def zCA (l:Kn) (n:Int) (t:Tp):Prop := ∀b1 b2 m,CallsG Tryz.prog (fnv zB7) (stH b1 b2 m l) [sP b1,.lit (.int .i64 n),eTy t] [] fun r o h=>r = .sb (decide (n∈mvs (fl l t)))/\o=0/\h=stH b1 b2 m l
theorem zNH {l:Kn} {n:Int} {a:Tp} (h:zCA l n a) (b1 b2 c3 c4:Nat) (m:Int):CallsG Tryz.prog (fvW c3 c4) (wiH b1 b2 c3 c4 m n l) [eTy a] [] fun r o h=>r = .sb (decide (n∈mvs (fl l a)))/\o=0/\h=wiH b1 b2 c3 c4 m n l:=by
 have hW:=h b1 b2 m;refine zJ (first:=[]) (cap:=[cP c3,cP c4]) ttok mixed Tryz.func158 rfl (by rfl) rfl (Nat.le_of_ble_eq_true rfl) (by kernel_rfl) ?_;refine⟨2,_,_,rfl,rfl,?_⟩;refine⟨3,_,_,rfl,rfl,?_⟩;refine .inr (.inr (.inl ⟨[0,1],stH b1 b2 m l,_,rfl,by decide,hW,?_⟩));exact⟨rfl,rfl,rfl⟩
theorem zMM {l:Kn} (h:Ok l) (n:Int) (t:Tp) (hc:∀u,Lk l t u->∀x∈u.args,zCA l n x):zCA l n t:=by
 obtain⟨u,hu,hL⟩:=zJ3 h t;intro b1 b2 m;have hL:=hL b1 b2 m;have hE:=fun c3 c4=>zKD (b1:=b1) (b2:=b2) (c3:=c3) (c4:=c4) (m:=m) (n:=n) (k:=l) (fun a=>decide (n∈mvs (fl l a))) u.args (by have:=zF9 u;omega) (fun x hx=>zNH (hc u hu x hx) b1 b2 c3 c4 m);simp only[<-u.eArgs_eq] at hE;refine CallsG.less (post:=fun r o h=>r = .sb (decide (n∈mvs (fl l t)))/\o=0/\(h=stH b1 b2 m l∨∃c3 c4,h=wiH b1 b2 c3 c4 m n l)) ?_ (fun r o hp hpo=>?_)
 rotate_left
 ·obtain⟨h1,h2,h3|⟨c3,c4,h3⟩⟩:=hpo
  ·exact⟨hp,[],by simp,h1,h2,h3⟩
  ·exact⟨stH b1 b2 m l,[(c3,HO.cells [sP b1]),(c4,HO.cells [.lit (.int .i64 n)])],h3,h1,h2,rfl⟩
 rw[<-hu.same];refine zJ (first:=[]) (cap:=[]) ttok mixed Tryz.func150 rfl (by rfl) rfl (Nat.le_of_ble_eq_true rfl) (by kernel_rfl) ?_;refine .inr (.inr (.inl ⟨[0,1],stH b1 b2 m l,_,rfl,by decide,hL,?_⟩));refine⟨fun hf=>?_,fun hf=>?_⟩
 ·have hf:u.form=1:=of_decide_eq_true hf;obtain⟨q,rfl⟩:=Tp.is_mt hf;have hm:mvs (fl l (.mt q))=[q]:=by rw[zD0,jK (hu.stop q rfl)];rfl
  rw[hm];refine⟨fun hn=>?_,fun hn=>?_⟩
  ·have hn:q≠n:=of_decide_eq_false hn;refine .inr ⟨rfl,fun c3=>⟨rfl,fun c4=>?_⟩⟩;have hE:=hE c3 c4;refine .inr (.inr (.inl ⟨[0,1,2,3],wiH b1 b2 c3 c4 m n l,_,rfl,by decide,hE,?_⟩));have e:decide (n∈[q])=false:=by simp[Ne.symm hn]
   rw[e];exact⟨rfl,rfl,.inr ⟨c3,c4,rfl⟩⟩
  ·have hn:q=n:=of_decide_eq_true hn;subst hn;have e:decide (q∈[q])=true:=by simp
   rw[e];exact⟨rfl,rfl,.inl rfl⟩
 ·have hf:¬u.form=1:=of_decide_eq_false hf;refine .inr ⟨rfl,fun c3=>⟨rfl,fun c4=>?_⟩⟩;have hE:=hE c3 c4;refine .inr (.inr (.inl ⟨[0,1,2,3],wiH b1 b2 c3 c4 m n l,_,rfl,by decide,hE,?_⟩));have e:decide (n∈mvs (fl l u))=u.args.any fun a=>decide (n∈mvs (fl l a)):=by
   cases u with
   | mt q=>exact absurd rfl hf
   | app a b=>rw[zFD];simp[Tp.args,mvs]
   | all s a=>rw[zNP];simp[Tp.args,mvs];exact decide_eq_decide.2 Iff.rfl
   | no=>rw[y8];simp[Tp.args,mvs,sbt]
   | var s=>rw[y8];simp[Tp.args,mvs,sbt]
   | con s=>rw[y8];simp[Tp.args,mvs,sbt]
  rw[e];exact⟨rfl,rfl,.inr ⟨c3,c4,rfl⟩⟩
theorem zQM {l:Kn} (h:Ok l) (n:Int) (t:Tp):zCA l n t:=by
 have go:∀(k:Nat) (t y:Tp),ap l k t=some y->zCA l n t:=fun k=>by
  induction k using Nat.strongRecOn with
  | _ k ih =>
   intro t y hk;exact zMM h n t (fun u hu x hx=>by
    obtain⟨j,z,hj,hz⟩:=zO8 (hu.fuel k y hk) x hx;exact ih j hj x z hz)
 obtain⟨k,hk⟩:=zST h t;exact go k t _ hk
abbrev Nt:=List (Int×Int)
def eNt (l:Nt):List (AV×AV):=l.map fun q=>(.lit (.int .i64 q.1),.lit (.int .i64 q.2))
theorem qJ (l:Nt):∀p∈eNt l,wH (.lit (.int .i64 0)) p.1:=fun p hp=>by
 obtain⟨q,_,rfl⟩:=List.mem_map.1 hp;exact rfl
theorem zO2 (l:Nt) (n:Int):((∀q∈l,q.1≠n)/\Fp.Found (eNt l) (.int .i64 n) none)∨∃j v,l[j]? = some (n,v)/\Fp.Found (eNt l) (.int .i64 n) (some (j,.lit (.int .i64 v))):=by
 induction l with
 | nil=>exact .inl ⟨by simp,.no (by simp[eNt])⟩
 | cons q l ih =>
  obtain⟨m,v⟩:=q;by_cases h:m=n
  ·subst h;exact .inr ⟨0,v,rfl,.yes 0 _ rfl (fun i hi=>by omega)⟩
  ·rcases ih with⟨h1,h2⟩|⟨j,x,h1,h2⟩
   ·refine .inl ⟨fun q hq=>?_,.no fun p hp=>?_⟩
    ·rcases List.mem_cons.1 hq with rfl|hq
     ·exact h
     ·exact h1 q hq
    ·rcases List.mem_cons.1 (show p∈(AV.lit (.int .i64 m),AV.lit (.int .i64 v))::eNt l from hp) with rfl|hp
     ·exact zCT h
     ·cases h2 with|no h2=>exact h2 p hp
   ·refine .inr ⟨j+1,x,by simpa using h1,?_⟩;cases h2 with
    | yes _ _ h3 h4 =>
     refine .yes (j+1) _ (by simpa[eNt] using h3) (fun i hi p hp=>?_);cases i with
     | zero =>
      have:p=(AV.lit (.int .i64 m),AV.lit (.int .i64 v)):=by simpa[eNt] using hp.symm
      rw[this];exact zCT h
     | succ i=>exact h4 i (by omega) p (by simpa[eNt] using hp)
def szc (l:Kn) (t:Tp):Nat:=min 501 (tsz (fl l t))
def zFQ (l:Kn) (nl:Nt):Prop := ∀q∈nl,q.2=(szc l (.mt q.1):Nat)
abbrev sS (n:Int) (l:Kn):AV := .ptr [.lit (.int .i64 n),.mpv (eKn l)]
abbrev zN1 (l:Kn) (t:Tp) (nl nl':Nt):Prop := ∀b3 n,CallsG Tryz.prog (fnv zDQ) [(b3,HO.mp (eNt nl))] [sS n l,eTy t,.lit (.map (some b3))] [] fun r o h=>r = .lit (.int .i64 (szc l t:Nat))/\o=0/\h=[(b3,HO.mp (eNt nl'))]
def zB2 (l:Kn) (t:Tp):Prop := ∀nl,zFQ l nl->∃nl',zFQ l nl'/\zN1 l t nl nl'
theorem zNV {l:Kn} (h:Ok l) {m:Int} {x:Tp} (hx:zAN l m=some x) (ih:zB2 l x):zB2 l (.mt m):=by
 intro nl hg;have hsz:szc l x=szc l (.mt m):=by unfold szc;rw[zD0,zG9 h m x (zCN hx)]
 obtain⟨i0,hF0⟩:∃i,Fp.Found (eKn l) (.int .i64 m) (some (i,eTy x)):=by
  rcases zD8 l m with⟨h1,_⟩|⟨j,z,h1,h2⟩
  ·rw[hx] at h1;cases h1
  ·rw[hx] at h1;injection h1 with h1;subst h1;exact⟨j,h2⟩
 rcases zO2 nl m with⟨h1,h2⟩|⟨j,v,h1,h2⟩
 ·obtain⟨nl1,g1,c1⟩:=ih nl hg;rw[zN1,hsz] at c1;have tail:∀nl2:Nt,zFQ l nl2->(∃q∈nl2,q.1=m)->∃j,Fp.Found (eNt nl2) (.int .i64 m) (some (j,.lit (.int .i64 (szc l (.mt m):Nat)))):=fun nl2 g2 hm=>by
   rcases zO2 nl2 m with⟨k1,_⟩|⟨j,v,k1,k2⟩
   ·obtain⟨q,hq,e⟩:=hm;exact absurd e (k1 q hq)
   ·have:=g2 _ (List.mem_of_getElem? k1);simp only at this;rw[this] at k2;exact⟨j,k2⟩
  rcases zO2 nl1 m with⟨k1,k2⟩|⟨j,v,k1,k2⟩
  ·have g2:zFQ l (nl1++[(m,((szc l (.mt m):Nat):Int))]):=fun q hq=>by
    rcases List.mem_append.1 hq with hq|hq
    ·exact g1 q hq
    ·simp at hq;subst hq;rfl
   obtain⟨j2,k3⟩:=tail _ g2 ⟨_,List.mem_append_right _ (List.mem_singleton.2 rfl),rfl⟩;refine⟨_,g2,fun b3 n=>?_⟩;have hc:=c1 b3 n;have e:eNt (nl1++[(m,((szc l (.mt m):Nat):Int))])=zAG (eNt nl1) (.int .i64 m) (.lit (.int .i64 (szc l (.mt m):Nat))) none:=by simp[eNt,zAG]
   have hk3:=qJ (nl1++[(m,((szc l (.mt m):Nat):Int))]);rw[e] at k3 hk3⊢;refine zJ (first:=[]) (cap:=[]) ttok mixed Tryz.func159 rfl (by rfl) rfl (Nat.le_of_ble_eq_true rfl) (by kernel_rfl) ?_;refine⟨some (i0,eTy x),qE l,rfl,hF0,?_⟩;refine⟨by kernel_rfl,?_⟩;refine⟨fun hbs=>?_,fun hbs=>?_⟩<;>first|(exfalso;revert hbs;intro hbs;cases hbs;done)|skip
   refine⟨0,_,none,rfl,qJ nl,rfl,h2,?_⟩;refine .inr (.inr (.inr ⟨[0],[(b3,HO.mp (eNt nl))],[(b3,HO.mp (eNt nl1))],_,rfl,by decide,rfl,hc,?_⟩));refine⟨0,_,none,rfl,qJ nl1,rfl,k2,?_⟩;refine⟨by kernel_rfl,?_⟩;refine⟨0,_,some (j2,.lit (.int .i64 (szc l (.mt m):Nat))),rfl,hk3,rfl,k3,?_⟩;exact⟨rfl,rfl,rfl⟩
  ·have g2:zFQ l (nl1.set j (m,((szc l (.mt m):Nat):Int))):=fun q hq=>by
    rcases List.mem_or_eq_of_mem_set hq with hq|hq
    ·exact g1 q hq
    ·subst hq;rfl
   have hjl:=(List.getElem?_eq_some_iff.1 k1).1;obtain⟨j2,k3⟩:=tail _ g2 ⟨(m,((szc l (.mt m):Nat):Int)),List.mem_of_getElem? (i:=j) (by rw[List.getElem?_set_self hjl]),rfl⟩;refine⟨_,g2,fun b3 n=>?_⟩;have hc:=c1 b3 n;have e:eNt (nl1.set j (m,((szc l (.mt m):Nat):Int)))=zAG (eNt nl1) (.int .i64 m) (.lit (.int .i64 (szc l (.mt m):Nat))) (some (j,.lit (.int .i64 v))):=by simp[eNt,zAG,List.map_set]
   have hk3:=qJ (nl1.set j (m,((szc l (.mt m):Nat):Int)));rw[e] at k3 hk3⊢;refine zJ (first:=[]) (cap:=[]) ttok mixed Tryz.func159 rfl (by rfl) rfl (Nat.le_of_ble_eq_true rfl) (by kernel_rfl) ?_;refine⟨some (i0,eTy x),qE l,rfl,hF0,?_⟩;refine⟨by kernel_rfl,?_⟩;refine⟨fun hbs=>?_,fun hbs=>?_⟩<;>first|(exfalso;revert hbs;intro hbs;cases hbs;done)|skip
   refine⟨0,_,none,rfl,qJ nl,rfl,h2,?_⟩;refine .inr (.inr (.inr ⟨[0],[(b3,HO.mp (eNt nl))],[(b3,HO.mp (eNt nl1))],_,rfl,by decide,rfl,hc,?_⟩));refine⟨0,_,some (j,.lit (.int .i64 v)),rfl,qJ nl1,rfl,k2,?_⟩;refine⟨by kernel_rfl,?_⟩;refine⟨0,_,some (j2,.lit (.int .i64 (szc l (.mt m):Nat))),rfl,hk3,rfl,k3,?_⟩;exact⟨rfl,rfl,rfl⟩
 ·have hv:=hg _ (List.mem_of_getElem? h1);simp only at hv;subst hv;refine⟨nl,hg,fun b3 n=>?_⟩;refine zJ (first:=[]) (cap:=[]) ttok mixed Tryz.func159 rfl (by rfl) rfl (Nat.le_of_ble_eq_true rfl) (by kernel_rfl) ?_;refine⟨some (i0,eTy x),qE l,rfl,hF0,?_⟩;refine⟨by kernel_rfl,?_⟩;refine⟨fun hbs=>?_,fun hbs=>?_⟩<;>first|(exfalso;revert hbs;intro hbs;cases hbs;done)|skip
  refine⟨0,_,some (j,.lit (.int .i64 (szc l (.mt m):Nat))),rfl,qJ nl,rfl,h2,?_⟩;refine⟨0,_,some (j,.lit (.int .i64 (szc l (.mt m):Nat))),rfl,qJ nl,rfl,h2,?_⟩;exact⟨rfl,rfl,rfl⟩
theorem zJI {l:Kn}:∀(ts:List Tp),(∀t∈ts,zB2 l t)->∀nl,zFQ l nl->∃N:Nat->Nt,N 0=nl/\(∀i,zFQ l (N i))/\∀(i:Nat) (hi:i<ts.length),zN1 l ts[i] (N i) (N (i+1))
 | [],_,nl,hg=>⟨fun _=>nl,rfl,fun _=>hg,fun i hi=>by simp at hi⟩
 | t::ts,h,nl,hg=>by
  obtain⟨nl1,g1,c1⟩:=h t (by simp) nl hg;obtain⟨N,e0,hN,hc⟩:=zJI ts (fun x hx=>h x (by simp[hx])) nl1 g1;refine⟨fun i=>match i with|0=>nl|i+1=>N i,rfl,fun i=>?_,fun i hi=>?_⟩
  ·cases i with
   | zero=>exact hg
   | succ i=>exact hN i
  ·cases i with
   | zero=>simp only[List.getElem_cons_zero,e0];exact c1
   | succ i=>exact hc i (by simpa using hi)
def zH3 (l:Kn) (n:Nat) (ts:List Tp):Nat:=ts.foldl (fun n t=>min 501 (n+szc l t)) n
theorem zRS {l:Kn} {n:Nat} {ts:List Tp} {k:Nat} (h:k<ts.length):zH3 l n (ts.take (k+1))=min 501 (zH3 l n (ts.take k)+szc l ts[k]):=by
 unfold zH3;rw[List.take_succ_eq_append_getElem h,List.foldl_append];rfl
theorem zVP {l:Kn} {n:Nat} (hn:n<=501):∀(ts:List Tp),zH3 l n ts<=501:=fun ts=>by
 induction ts generalizing n with
 | nil=>exact hn
 | cons t ts ih=>exact ih (Nat.min_le_left _ _)
theorem zTT {l:Kn} (t:Tp) (ht:∀m,t = .mt m->m∉dom l):zH3 l (if t.form=4 then 0 else 1) t.args=szc l t:=by
 cases t with
 | app a b =>
  simp only[zH3,Tp.args,List.foldl_cons,List.foldl_nil,Tp.form,if_pos];unfold szc;rw[zFD,tsz];omega
 | all s a =>
  have:¬(Tp.all s a).form=4:=by simp[Tp.form]
  simp only[zH3,Tp.args,List.foldl_cons,List.foldl_nil,if_neg this];unfold szc;rw[zNP,tsz];omega
 | mt m=>unfold szc;rw[zD0,jK (ht m rfl)];rfl
 | no=>unfold szc;rw[y8];rfl
 | var s=>unfold szc;rw[y8];rfl
 | con s=>unfold szc;rw[y8];rfl
theorem zRL {l:Kn} (t:Tp) (ht:∀m,t = .mt m->m∉dom l) (ih:∀x∈t.args,zB2 l x):zB2 l t:=by
 intro nl hg;obtain⟨N,e0,hN,hc⟩:=zJI t.args ih nl hg;have h2:=zF9 t;have hlen:t.eArgs.length=t.args.length:=by rw[t.eArgs_eq];simp[zN]
 refine⟨N t.args.length,hN _,fun b3 n=>?_⟩;have hc:=fun i hi=>hc i hi b3 n;have hfin:=zTT t ht;rw[<-hfin];let post:AV->Nat->List (Nat×HO)->Prop:=fun r o h=>r = .lit (.int .i64 (zH3 l (if t.form=4 then 0 else 1) t.args:Nat))/\o=0/\h=[(b3,HO.mp (eNt (N t.args.length)))]
 rw[<-e0];have tail2:Wsem Tryz.prog (jM (jM (jM (jM (bodyC Tryz.f159))))) (mkC {vs:=[(0,.v (sS n l)),(2,.v (.lit (.map (some b3)))),(4,.box 0 (eTy t)),(11,sv ((if t.form=4 then 0 else 1:Nat):Int))],hp:=[(b3,HO.mp (eNt (N 0)))]})
   (fun c=>wB tt Tryz.f159.results.toList post (den c)) (fun _ _=>False) (fun c=>wB tt Tryz.f159.results.toList post (den c)):=by
  refine Wsem.of ttok mixed ?_;refine⟨{k:Nat // k<=t.args.length},fun k=>{vs:=[(0,.v (sS n l)),(2,.v (.lit (.map (some b3)))),(11,sv (zH3 l (if t.form=4 then 0 else 1) (t.args.take k.1):Nat)),(54,.v (.sl t.eArgs)),(55,sv (t.args.length:Nat)),(56,sv (k.1:Nat))],hp:=[(b3,HO.mp (eNt (N k.1)))]},
   fun k=>t.args.length-k.1,⟨0,Nat.zero_le _⟩,⟨⟨rfl,rfl,rfl,rfl,svc (by rw[hlen]),rfl,trivial⟩,trivial,rfl⟩,?_⟩
  rintro⟨k,hk⟩;refine⟨fun h=>?_,fun h=>?_⟩
  ·have h:k<t.args.length:=by have h:=of_decide_eq_true h;simp only at h;omega
   have hck:=hc k h;have hg:t.eArgs[k]? = some (eTy t.args[k]):=by rw[t.eArgs_eq];exact zLP h
   have hst:=zRS (l:=l) (n:=if t.form=4 then 0 else 1) h;have hle:=zVP (l:=l) (n:=if t.form=4 then 0 else 1) (by split<;>omega) (t.args.take k);have hsz:szc l t.args[k]<=501:=Nat.min_le_left _ _;generalize zH3 l (if t.form=4 then 0 else 1) (t.args.take k)=A at *;refine⟨_,by omega,hg,rfl,?_⟩;refine .inr (.inr (.inr (.inl ⟨[0],[(b3,HO.mp (eNt (N k)))],[(b3,HO.mp (eNt (N (k+1))))],_,rfl,by decide,rfl,hck,?_⟩)));have hmin:IntKind.i64.wrap ((A:Int)+(szc l t.args[k]:Nat))=((A+szc l t.args[k]:Nat):Int):=by have:=yL (n:=A+szc l t.args[k]) (by omega);rw[<-this];rfl
   refine⟨⟨k+1,h⟩,by simp;omega,⟨rfl,rfl,svc ?_,rfl,rfl,svc (wrap_succ (k:=k) (by omega)),trivial⟩,trivial,rfl⟩;show (if 501<IntKind.i64.wrap ((A:Int)+(szc l t.args[k]:Nat)) then 501 else IntKind.i64.wrap ((A:Int)+(szc l t.args[k]:Nat)))=((zH3 l (if t.form=4 then 0 else 1) (t.args.take (k+1)):Nat):Int);rw[hmin,hst];split<;>omega
  ·have h:k=t.args.length:=by have h:=of_decide_eq_false h;simp only at h;omega
   subst h;rw[List.take_length];exact⟨rfl,rfl,rfl⟩
 have tail:Wsem Tryz.prog (jM (jM (bodyC Tryz.f159))) (mkC {vs:=[(0,.v (sS n l)),(2,.v (.lit (.map (some b3)))),(4,.box 0 (eTy t))],hp:=[(b3,HO.mp (eNt (N 0)))]})
   (fun c=>wB tt Tryz.f159.results.toList post (den c)) (fun _ _=>False) (fun c=>wB tt Tryz.f159.results.toList post (den c)):=by
  refine Wsem.seq ttok mixed ?_;refine Wsem.seq ttok mixed ?_;by_cases h4:t.form=4
  ·refine⟨fun hbs=>?_,fun hbs=>?_⟩<;>first|(exfalso;revert hbs;(simp[h4]);done)|skip
   refine Wsem.cut _ ?_ tail2;exact⟨⟨rfl,rfl,rfl,svc (by rw[if_pos h4];rfl),trivial⟩,trivial,rfl⟩
  ·refine⟨fun hbs=>?_,fun hbs=>?_⟩<;>first|(exfalso;revert hbs;(simp[h4]);done)|skip
   refine Wsem.cut _ ?_ tail2;exact⟨⟨rfl,rfl,rfl,svc (by rw[if_neg h4];rfl),trivial⟩,trivial,rfl⟩
 refine yB (first:=[]) (cap:=[]) ttok mixed Tryz.func159 rfl (by rfl) rfl (Nat.le_of_ble_eq_true rfl) (by kernel_rfl) ?_;refine Wsem.seq ttok mixed ?_;refine Wsem.seq ttok mixed ?_;rcases zD8 l t.num with⟨h1,hF⟩|⟨j,x,h1,hF⟩
 ·refine⟨none,qE l,rfl,hF,?_⟩;refine⟨by kernel_rfl,?_⟩;refine Wsem.cut _ ?_ tail;exact⟨⟨rfl,rfl,rfl,trivial⟩,trivial,rfl⟩
 ·refine⟨some (j,eTy x),qE l,rfl,hF,?_⟩;refine⟨by kernel_rfl,?_⟩;have hf:t.form≠1:=fun e=>by
   obtain⟨m,rfl⟩:=Tp.is_mt e;rw[show (Tp.mt m).num=m from rfl,getK_none.2 (ht m rfl)] at h1;cases h1
  refine⟨fun hbs=>?_,fun hbs=>?_⟩<;>first|(exfalso;revert hbs;(simp[hf]);done)|skip
  refine Wsem.cut _ ?_ tail;exact⟨⟨rfl,rfl,rfl,trivial⟩,trivial,rfl⟩
theorem zU0 {l:Kn} (h:Ok l) (t:Tp):zB2 l t:=by
 have go:∀(k:Nat) (t y:Tp),ap l k t=some y->zB2 l t:=fun k=>by
  induction k with
  | zero=>intro t y hk;simp[ap] at hk
  | succ k ih =>
   intro t y hk;by_cases hm:∃m x,t = .mt m/\zAN l m=some x
   ·obtain⟨m,x,rfl,hx⟩:=hm;rw[ap,hx] at hk;exact zNV h hx (ih x y hk)
   ·refine zRL t (fun m e=>?_) (fun x hx=>?_)
    ·rw[<-getK_none];cases hg:zAN l m with
     | none=>rfl
     | some x=>exact absurd ⟨m,x,e,hg⟩ hm
    ·obtain⟨j,z,hj,hz⟩:=zO8 hk x hx;exact ih x z (qX hz (by omega))
 obtain⟨k,hk⟩:=zST h t;exact go k t _ hk
theorem zKH (m:Int):zD Tryz.prog zK1 [.lit (.int .i64 m)] (eTy (.mt m)):=by
 refine zH ttok mixed Tryz.func117 rfl (by rfl) (Nat.le_of_ble_eq_true rfl) (by kernel_rfl) ?_;exact rfl
def xG (l:Kn):Bool:=l.any fun q=>decide (500<szc l (.mt q.1))
def zP1 (n:Nat) (seen:List Nat):Nat:=((List.range n).filter fun i => !seen.contains i).length
theorem zTB {n k:Nat} {seen:List Nat} (hk:k<n) (hs:k∉seen):zP1 n (seen++[k])<zP1 n seen:=by
 unfold zP1;have e:(List.range n).filter (fun i => !(seen++[k]).contains i)=((List.range n).filter fun i => !seen.contains i).filter fun i => !(i == k):=by
  rw[List.filter_filter];refine List.filter_congr fun i _=>?_;by_cases h1:i∈seen<;>by_cases h2:i=k<;>simp[h1,h2]
 rw[e];refine List.length_filter_lt_length_iff_exists.2 ⟨k,List.mem_filter.2 ⟨List.mem_range.2 hk,by simpa using hs⟩,by simp⟩
theorem zN8 {l:Kn} (h:Ok l) (n:Int):CallsG Tryz.prog (fnv xN) [] [sS n l] [] fun r o hp=>r = .sb (xG l)/\o=0:=by
 have hlen:(eKn l).length=l.length:=by simp[eKn]
 have hS:∀q:Int,zB2 l (.mt q):=fun q=>zU0 h (.mt q);refine zJ (first:=[]) (cap:=[]) ttok mixed Tryz.func151 rfl (by rfl) rfl (Nat.le_of_ble_eq_true rfl) (by kernel_rfl) ?_;intro b3;intro bi;refine⟨{p:Nt×List Nat // zFQ l p.1/\∀(k:Nat) q,k∈p.2->l[k]? = some q->¬500<szc l (.mt q.1)},fun p=>{vs:=[(0,.v (sS n l)),(3,.v (.lit (.map (some b3)))),(10,.v (.lit (.pointer (some ⟨bi,0,none⟩))))],hp:=[(b3,HO.mp (eNt p.1.1)),(bi,HO.it (eKn l) p.1.2)]},
  fun p=>zP1 l.length p.1.2,⟨([],[]),fun q hq=>by simp at hq,fun k q hk=>by simp at hk⟩,⟨⟨rfl,rfl,rfl,trivial⟩,trivial,rfl⟩,?_⟩
 rintro⟨⟨nl,seen⟩,hg,hs⟩;refine⟨1,eKn l,seen,rfl,fun k p hk hp=>?_,fun hall=>?_⟩
 ·have hkl:k<l.length:=by rw[<-hlen];exact (List.getElem?_eq_some_iff.1 hp).1
  have hp':(eKn l)[k]? = some (.lit (.int .i64 l[k].1),eTy l[k].2):=by simp[eKn,hkl]
  rw[hp'] at hp;injection hp with hp
  subst hp;obtain⟨nl1,g1,c1⟩:=hS l[k].1 nl hg;have c1:=c1 b3 n;have hm:=zKH l[k].1;refine⟨1,eKn l,seen,k,_,rfl,hp',?_⟩;refine .inl ⟨_,hm,?_⟩;refine .inr (.inr (.inr (.inl ⟨[0],[(b3,HO.mp (eNt nl))],[(b3,HO.mp (eNt nl1))],_,rfl,by decide,rfl,c1,?_⟩)));by_cases hgr:500<szc l (.mt l[k].1)
  ·refine⟨fun hbs=>?_,fun hbs=>?_⟩<;>first|(exfalso;revert hbs;(intro h;have h:=of_decide_eq_false h;omega);done)|skip
   have e:xG l=true:=List.any_eq_true.2 ⟨l[k],List.getElem_mem hkl,by simpa using hgr⟩;rw[e];exact⟨rfl,rfl⟩
  ·refine⟨fun hbs=>?_,fun hbs=>?_⟩<;>first|(exfalso;revert hbs;(intro h;have h:=of_decide_eq_true h;omega);done)|skip
   refine⟨⟨(nl1,seen++[k]),g1,fun j q hj hq=>?_⟩,zTB hkl hk,⟨rfl,rfl,rfl,trivial⟩,trivial,rfl⟩;rcases List.mem_append.1 hj with hj|hj
   ·exact hs j q hj hq
   ·simp at hj;subst hj;rw[List.getElem?_eq_getElem hkl] at hq;injection hq with hq;subst hq;exact hgr
 ·have e:xG l=false:=by
   unfold xG;rw[List.any_eq_false];intro q hq;obtain⟨j,hj⟩:=List.getElem?_of_mem hq;have:=hs j q (hall j (by rw[hlen];exact (List.getElem?_eq_some_iff.1 hj).1)) hj;simpa using this
  rw[e];exact⟨rfl,rfl⟩
theorem zT8 {l:Kn} (h:Ok l) (b1 b2:Nat) (n:Int):CallsG Tryz.prog (fnv xN) (stH b1 b2 n l) [sP b1] [] fun r o hp=>r = .sb (xG l)/\o=0/\hp=stH b1 b2 n l:=by
 have hp:zA8 Tryz.prog (fnv xN) [sS n l] (.sb (xG l)):=(zN8 h n).pure fun r o hp hpo=>by rw[hpo.1];exact⟨.refl _,hpo.2⟩
 refine CallsG.lend hp rfl (fun i a a' ha ha'=>?_) zLK
 match i with
 | 0 =>
  simp at ha ha';subst ha;subst ha';refine .ptr b1 0 [.lit (.int .i64 n),.lit (.map (some b2))] _ (by simp) (by simp) (fun c hc=>by simp at hc;rcases hc with rfl|rfl<;>rfl) (fun j c c' hc hc'=>?_)
  match j with
  | 0=>simp at hc hc';subst hc;subst hc';exact .refl _
  | 1 =>
   simp at hc hc';subst hc;subst hc';exact .mp b2 (eKn l) (eKn l) (by simp) rfl (fun j c c' h1 h2=>by rw[h1] at h2;injection h2 with h2;subst h2;exact .refl _) (fun j c c' h1 h2=>by rw[h1] at h2;injection h2 with h2;subst h2;exact .refl _)
  | j+2=>simp at hc
 | i+1=>simp at ha
theorem appT_ok (f:Tp) (l:List Tp) (hl:l.length<4294967296):zD Tryz.prog zK9 [eTy f,.sl (zN l)] (eTy (appAllT f l)):=by
 refine zC ttok mixed Tryz.func114 rfl (by rfl) (Nat.le_of_ble_eq_true rfl) (by kernel_rfl) ?_;refine .inl ⟨_,own_ok f,?_⟩;have hlen:(zN l).length=l.length:=by simp[zN]
 refine⟨{k:Nat // k<=l.length},fun k=>{vs:=[(4,.box 0 (eTy .no)),(5,.box 0 (eTy (appAllT f (l.take k.1)))),(10,.v (.sl (zN l))),(11,.v (.lit (.int .i64 ((zN l).length:Nat)))),(12,.v (.lit (.int .i64 (k.1:Nat))))]},
  fun k=>l.length-k.1,⟨0,Nat.zero_le _⟩,⟨⟨rfl,rfl,rfl,rfl,rfl,trivial⟩,trivial,rfl⟩,?_⟩
 rintro⟨k,hk⟩;refine⟨fun h=>?_,fun h=>?_⟩
 ·have h:k<l.length:=by simp[hlen] at h;omega
  refine⟨eTy l[k],by simp,zLP h,rfl,?_⟩;refine .inl ⟨_,own_ok _,?_⟩;refine .inl ⟨_,apply_mk _ _,?_⟩;refine⟨⟨k+1,h⟩,(show l.length-(k+1)<l.length-k by omega),⟨rfl,?_,rfl,rfl,?_,trivial⟩,trivial,rfl⟩
  ·show SV.box 0 (eTy (.app (appAllT f (l.take k)) l[k]))=SV.box 0 (eTy (appAllT f (l.take (k+1))));rw[List.take_succ_eq_append_getElem h];unfold appAllT;rw[List.foldl_append];rfl
  ·exact congrArg (fun l=>SV.v (AV.lit (Value.int .i64 l))) (wrap_succ (k:=k) (by omega))
 ·have h:k=l.length:=by simp[hlen] at h;omega
  subst h;show eTy (appAllT f (l.take l.length))=_;rw[List.take_length]
def swp (n:Int) (t:Tp):Int×Tp:=match t with
 | .mt m=>if n<m then (m,.mt n) else (n,.mt m)
 | t=>(n,t)
def yY (l:Kn) (n:Int) (t:Tp):Int×Kn :=
 if t = .mt n then (0,l) else if (swp n t).1∈mvs (fl l (swp n t).2) then (32,l) else if xG (l++[swp n t])=true then (39,l++[swp n t]) else (0,l++[swp n t])
theorem zFU {l:Kn} {n:Int} {t:Tp} (hn:n∉dom l) (ht:∀m,t = .mt m->m∉dom l):(swp n t).1∉dom l:=by
 unfold swp;cases t with
 | mt m=>simp only;split;exact ht m rfl;exact hn
 | _=>exact hn
theorem zUP (l:Kn) (q:Int×Tp):eKn (l++[q])=zAG (eKn l) (.int .i64 q.1) (eTy q.2) none:=by simp[eKn,zAG]
theorem zP9 {l:Kn} (h:Ok l) {n:Int} {t:Tp} (hn:n∉dom l) (b1 b2:Nat) (k:Int) (post:AV->Nat->List (Nat×HO)->Prop)
  (hp1:n∈mvs (fl l t)->post (.lit (.int .i64 32)) 0 (stH b1 b2 k l)) (hp2:n∉mvs (fl l t)->xG (l++[(n,t)])=true->post (.lit (.int .i64 39)) 0 (stH b1 b2 k (l++[(n,t)]))) (hp3:n∉mvs (fl l t)->xG (l++[(n,t)])=false->post (.lit (.int .i64 0)) 0 (stH b1 b2 k (l++[(n,t)]))) :
  Wsem Tryz.prog (jM (jM (jM (bodyC Tryz.f134)))) (mkC {vs:=[(0,.v (sP b1)),(1,sv n),(5,.box 0 (eTy t))],hp:=stH b1 b2 k l})
   (fun c=>wB tt Tryz.f134.results.toList post (den c)) (fun _ _=>False) (fun c=>wB tt Tryz.f134.results.toList post (den c)):=by
 have hW:=zQM h n t b1 b2 k;have hA:=appT_ok t [] (by simp);have hF:Fp.Found (eKn l) (.int .i64 n) none:=by
  rcases zD8 l n with⟨_,h2⟩|⟨j,x,h1,_⟩
  ·exact h2
  ·rw[getK_none.2 hn] at h1;cases h1
 refine Wsem.seq ttok mixed ?_;refine .inr (.inr (.inl ⟨[0,1],stH b1 b2 k l,_,rfl,by decide,hW,?_⟩));refine⟨fun hw=>?_,fun hw=>?_⟩
 ·have hw:=of_decide_eq_true hw;exact hp1 hw
 ·have hw:=of_decide_eq_false hw;refine Wsem.seq ttok mixed ?_;refine⟨0,_,_,rfl,rfl,?_⟩;refine .inl ⟨_,hA,?_⟩;refine⟨1,_,none,rfl,qE l,rfl,hF,?_⟩;refine⟨by kernel_rfl,?_⟩;have hok:Ok (l++[(n,t)]):=ok_snoc.2 ⟨h,hn,hw⟩;have hG:=zT8 hok b1 b2 k;have hp2:=hp2 hw;have hp3:=hp3 hw;unfold stH at hG hp2 hp3;rw[zUP] at hG hp2 hp3;refine Wsem.of ttok mixed ?_;refine .inr (.inr (.inl ⟨[0,1],_,_,rfl,by decide,hG,?_⟩));refine⟨fun hg=>?_,fun hg=>?_⟩
  ·exact hp2 hg
  ·exact hp3 hg
theorem bind_ok {l:Kn} (h:Ok l) {n:Int} {t:Tp} (hn:n∉dom l) (ht:∀m,t = .mt m->m∉dom l) (b1 b2:Nat) (k:Int) :
  CallsG Tryz.prog (fnv jO) (stH b1 b2 k l) [sP b1,.lit (.int .i64 n),eTy t] [] fun r o hp=>r = .lit (.int .i64 (yY l n t).1)/\o=0/\hp=stH b1 b2 k (yY l n t).2:=by
 let post:AV->Nat->List (Nat×HO)->Prop:=fun r o hp=>r = .lit (.int .i64 (yY l n t).1)/\o=0/\hp=stH b1 b2 k (yY l n t).2
 show CallsG Tryz.prog (fnv jO) (stH b1 b2 k l) [sP b1,.lit (.int .i64 n),eTy t] [] post;have tail:t≠.mt n->∀n' t',swp n t=(n',t')->Wsem Tryz.prog (jM (jM (jM (bodyC Tryz.f134)))) (mkC {vs:=[(0,.v (sP b1)),(1,sv n'),(5,.box 0 (eTy t'))],hp:=stH b1 b2 k l})
   (fun c=>wB tt Tryz.f134.results.toList post (den c)) (fun _ _=>False) (fun c=>wB tt Tryz.f134.results.toList post (den c)):=fun hne n' t' e=>by
  have hs:=zFU hn ht;rw[e] at hs;refine zP9 h hs b1 b2 k post (fun h1=>?_) (fun h1 h2=>?_) (fun h1 h2=>?_)
  ·have:yY l n t=(32,l):=by unfold yY;rw[if_neg hne,e,if_pos h1]
   show _=AV.lit (.int .i64 (yY l n t).1)/\_=_/\_=stH b1 b2 k (yY l n t).2;rw[this];exact⟨rfl,rfl,rfl⟩
  ·have:yY l n t=(39,l++[(n',t')]):=by unfold yY;rw[if_neg hne,e,if_neg h1,if_pos h2]
   show _=AV.lit (.int .i64 (yY l n t).1)/\_=_/\_=stH b1 b2 k (yY l n t).2;rw[this];exact⟨rfl,rfl,rfl⟩
  ·have:yY l n t=(0,l++[(n',t')]):=by unfold yY;rw[if_neg hne,e,if_neg h1,if_neg (by rw[h2];simp)]
   show _=AV.lit (.int .i64 (yY l n t).1)/\_=_/\_=stH b1 b2 k (yY l n t).2;rw[this];exact⟨rfl,rfl,rfl⟩
 refine yB (first:=[]) (cap:=[]) ttok mixed Tryz.func134 rfl (by rfl) rfl (Nat.le_of_ble_eq_true rfl) (by kernel_rfl) ?_;refine Wsem.seq ttok mixed ?_;refine Wsem.seq ttok mixed ?_;by_cases hf:t.form=1
 ·obtain⟨m,rfl⟩:=Tp.is_mt hf;have hM:=zKH n;refine⟨fun hbs=>?_,fun hbs=>?_⟩<;>first|(exfalso;revert hbs;(intro h;cases h);done)|skip
  refine⟨fun he=>?_,fun he=>?_⟩
  ·have he:m=n:=of_decide_eq_true he;subst he;have:yY l m (.mt m)=(0,l):=by unfold yY;rw[if_pos rfl]
   show _=AV.lit (.int .i64 (yY l m (.mt m)).1)/\_=_/\_=stH b1 b2 k (yY l m (.mt m)).2;rw[this];exact⟨rfl,rfl,rfl⟩
  ·have he:m≠n:=of_decide_eq_false he;have hne:Tp.mt m≠.mt n:=fun e=>he (by injection e);refine Wsem.seq ttok mixed ?_;refine⟨fun hbs=>?_,fun hbs=>?_⟩<;>first|(exfalso;revert hbs;(intro h;cases h);done)|skip
   refine⟨fun hg=>?_,fun hg=>?_⟩
   ·have hg:n<m:=of_decide_eq_true hg;refine .inl ⟨_,hM,?_⟩;refine⟨by kernel_rfl,?_⟩;refine Wsem.cut _ ?_ (tail hne m (.mt n) (by simp only[swp,if_pos hg]));exact⟨⟨rfl,rfl,rfl,trivial⟩,trivial,rfl⟩
   ·have hg:¬n<m:=of_decide_eq_false hg;refine Wsem.cut _ ?_ (tail hne n (.mt m) (by simp only[swp,if_neg hg]));exact⟨⟨rfl,rfl,rfl,trivial⟩,trivial,rfl⟩
 ·have hne:t≠.mt n:=fun e=>hf (by rw[e];rfl);have hs:swp n t=(n,t):=by cases t<;>first|rfl|exact absurd rfl hf
  refine⟨fun hbs=>?_,fun hbs=>?_⟩<;>first|(exfalso;revert hbs;(simp[hf]);done)|skip
  refine Wsem.seq ttok mixed ?_;refine⟨fun hbs=>?_,fun hbs=>?_⟩<;>first|(exfalso;revert hbs;(simp[hf]);done)|skip
  refine Wsem.cut _ ?_ (tail hne n t hs);exact⟨⟨rfl,rfl,rfl,trivial⟩,trivial,rfl⟩
def flat:Tp->Prop
 | .app a b=>flat a/\flat b
 | .all _ _=>False
 | _=>True
def FlatK (l:Kn):Prop := ∀q∈l,flat q.2
def zF6 (U:List Int) (l:Kn):Prop := ∀q∈l,q.1∈U/\∀m∈mvs q.2,m∈U
inductive OneR:Kn->Tp->Tp->Int->Kn->Prop
 | bind {l:Kn} {n:Int} {v:Tp} (hn:n∉dom l) (hv:∀m,v = .mt m->m∉dom l):OneR l (.mt n) v (yY l n v).1 (yY l n v).2
 | bindR {l:Kn} {n:Int} {v:Tp} (hn:n∉dom l) (hv:∀m,v≠.mt m):OneR l v (.mt n) (yY l n v).1 (yY l n v).2
 | apart {l:Kn} {u v:Tp} (hu:∀m,u≠.mt m) (hv:∀m,v≠.mt m) (hne:u.form≠v.form∨u.nam≠v.nam):OneR l u v 31 l
 | leaf {l:Kn} {u:Tp} (hu:∀m,u≠.mt m) (ha:u.args=[]):OneR l u u 0 l
 | app1 {l l1:Kn} {a1 a2 b1 b2:Tp} {e:Int} (h1:OneR l a1 b1 e l1) (he:e≠0):OneR l (.app a1 a2) (.app b1 b2) e l1
 | app2 {l l1 l2:Kn} {a1 a2 b1 b2:Tp} {e:Int} (h1:OneR l a1 b1 0 l1) (hs:∃s,l1=l++s) (ho:Ok l1) (hsm:xG l=false->xG l1=false) (hkp:∀P:Tp->Prop,(∀x y,P (.app x y)->P x/\P y)->(∀q∈l,P q.2/\P (.mt q.1))->P a1->P b1->∀q∈l1,P q.2/\P (.mt q.1)) (h2:OneR l1 a2 b2 e l2):OneR l (.app a1 a2) (.app b1 b2) e l2
 | look {l:Kn} {a b u v:Tp} {e:Int} {l':Kn} (hu:Lk l a u) (hv:Lk l b v) (h:OneR l u v e l'):OneR l a b e l'
structure OneS (l:Kn) (a b:Tp) (e:Int) (l':Kn):Prop where
 ok:Ok l'
 pre:∃s,l'=l++s
 flat:FlatK l'
 cl:∀U,zF6 U l->(∀m∈mvs a,m∈U)->(∀m∈mvs b,m∈U)->zF6 U l'
 kp:∀P:Tp->Prop,(∀x y,P (.app x y)->P x/\P y)->(∀q∈l,P q.2/\P (.mt q.1))->P a->P b->∀q∈l',P q.2/\P (.mt q.1)
 good:e=0->fl l' a=fl l' b
 least:∀θ,Solves θ l->sbt θ a=sbt θ b->Solves θ l'/\(e=0∨e=39)
 great:e=39->xG l'=true
 small:e=0->xG l=false->xG l'=false
 es:e=0∨e=31∨e=32∨e=39
 run:OneR l a b e l'
theorem OneS.sub {l:Kn} {a b:Tp} {e:Int} {l':Kn} (h:OneS l a b e l'):∀q∈l,q∈l':=fun q hq=>by obtain⟨s,rfl⟩:=h.pre;exact List.mem_append_left _ hq
theorem Lk.sbt {l:Kn} {t u:Tp} (hu:Lk l t u) {θ:Int->Tp} (h:Solves θ l):sbt θ u=Go.Proofs.YtebmimnglcdogaaGreatDoor.Ck.sbt θ t:=by
 rw[<-solves_fl h u,hu.same,solves_fl h t]
theorem Lk.unknown {l:Kn} {t:Tp} {n:Int} (hu:Lk l t (.mt n)):n∉dom l:=hu.stop n rfl
theorem OneS.of_look {l:Kn} {a b u v:Tp} {e:Int} {l':Kn} (hu:Lk l a u) (hv:Lk l b v) (h:OneS l u v e l'):OneS l a b e l':=by
 refine⟨h.ok,h.pre,h.flat,fun U hU ha hb=>?_,fun P hP hl ha hb=>h.kp P hP hl (hu.keep P ha fun q hq=>(hl q hq).1) (hv.keep P hb fun q hq=>(hl q hq).1),fun he=>?_,fun θ hθ hab=>?_,h.great,h.small,h.es,.look hu hv h.run⟩
 ·exact h.cl U hU (hu.keep (fun t => ∀m∈mvs t,m∈U) ha (fun q hq=>(hU q hq).2)) (hv.keep (fun t => ∀m∈mvs t,m∈U) hb (fun q hq=>(hU q hq).2))
 ·rw[<-zKX h.ok h.sub hu.same,<-zKX h.ok h.sub hv.same,h.good he]
 ·exact h.least θ hθ (by rw[hu.sbt hθ,hv.sbt hθ,hab])
theorem OneS.symm {l:Kn} {a b:Tp} {e:Int} {l':Kn} (h:OneS l a b e l') (hr:OneR l b a e l'):OneS l b a e l' :=
 ⟨h.ok,h.pre,h.flat,fun U hU ha hb=>h.cl U hU hb ha,fun P hP hl ha hb=>h.kp P hP hl hb ha,fun he=>(h.good he).symm,fun θ hθ hab=>h.least θ hθ hab.symm,h.great,h.small,h.es,hr⟩
theorem zXU {θ:Int->Tp} {n:Int}:∀{t:Tp},n∈mvs t->t≠.mt n->tsz (θ n)<tsz (sbt θ t)
 | .mt m,h,hne=>by simp[mvs] at h;subst h;exact absurd rfl hne
 | .app a b,h,_=>by
  simp only[mvs,List.mem_append] at h;simp only[sbt,tsz];rcases h with h|h
  ·have:=zFG (θ:=θ) h;have:=zCE (sbt θ b);omega
  ·have:=zFG (θ:=θ) h;have:=zCE (sbt θ a);omega
 | .all _ a,h,_=>by have:=zFG (θ:=θ) (t:=a) h;simp only[sbt,tsz];omega
 | .no,h,_=>by simp[mvs] at h
 | .var _,h,_=>by simp[mvs] at h
 | .con _,h,_=>by simp[mvs] at h
theorem zWE {l:Kn} {t:Tp} (h:∀m,t≠.mt m):(fl l t).form=t.form/\(fl l t).nam=t.nam:=by
 cases t with
 | mt m=>exact absurd rfl (h m)
 | app a b=>rw[zFD];exact⟨rfl,rfl⟩
 | all s a=>rw[zNP];exact⟨rfl,rfl⟩
 | no=>rw[y8];exact⟨rfl,rfl⟩
 | var s=>rw[y8];exact⟨rfl,rfl⟩
 | con s=>rw[y8];exact⟨rfl,rfl⟩
theorem zMR (θ:Int->Tp) {t:Tp} (h:∀m,t≠.mt m):(sbt θ t).form=t.form/\(sbt θ t).nam=t.nam:=by
 cases t with
 | mt m=>exact absurd rfl (h m)
 | _=>exact⟨rfl,rfl⟩
theorem zTD {l:Kn} (h:Ok l) (hfl:FlatK l) {n:Int} {v:Tp} (hn:n∉dom l) (hv:∀m,v = .mt m->m∉dom l) (hvf:flat v):OneS l (.mt n) v (yY l n v).1 (yY l n v).2:=by
 have hrun:=OneR.bind (l:=l) (n:=n) (v:=v) hn hv;unfold yY at hrun⊢;by_cases h0:v = .mt n
 ·rw[if_pos h0] at hrun⊢;subst h0;exact⟨h,⟨[],by simp⟩,hfl,fun U hU _ _=>hU,fun _ _ hl _ _=>hl,fun _=>rfl,fun θ hθ _=>⟨hθ,.inl rfl⟩,fun e=>by simp at e,fun _ hg=>hg,.inl rfl,hrun⟩
 rw[if_neg h0] at hrun⊢;have hs:=zFU hn hv;have heq:∀θ:Int->Tp,sbt θ (.mt n)=sbt θ v↔θ (swp n v).1=sbt θ (swp n v).2:=fun θ=>by
  unfold swp;cases v with
  | mt m =>
   simp only;split
   ·exact⟨fun h=>h.symm,fun h=>h.symm⟩
   ·exact Iff.rfl
  | _=>exact Iff.rfl
 have hne:∀m,fl l (swp n v).2 = .mt m->m≠(swp n v).1:=by
  intro m hm e;unfold swp at hm e;cases v with
  | mt q =>
   simp only at hm e;split at hm
   ·rename_i hlt;rw[if_pos hlt] at e;rw[zD0,jK hn] at hm;injection hm with hm
    simp only at e;omega
   ·rename_i hlt;rw[if_neg hlt] at e;rw[zD0,jK (hv q rfl)] at hm;injection hm with hm
    simp only at e;exact h0 (by rw[hm,e])
  | _ =>
   simp only at hm;have:=(zWE (l:=l) (t:=_) (fun m h=>by cases h)).1.symm.trans (congrArg Tp.form hm);cases this
 have hflat:flat (swp n v).2:=by
  unfold swp;cases v with
  | mt m=>simp only;split<;>trivial
  | _=>exact hvf
 have hkp:∀P:Tp->Prop,P (.mt n)->P v->P (swp n v).2/\P (.mt (swp n v).1):=fun P h1 h2=>by
  unfold swp;cases v with
  | mt m =>
   simp only;split
   ·exact⟨h1,h2⟩
   ·exact⟨h2,h1⟩
  | _=>exact⟨h2,h1⟩
 have hmem:∀U:List Int,n∈U->(∀m∈mvs v,m∈U)->(swp n v).1∈U/\∀m∈mvs (swp n v).2,m∈U:=fun U h1 h2=>by
  unfold swp;cases v with
  | mt m =>
   simp only;split
   ·exact⟨h2 m (by simp[mvs]),fun k hk=>by simp[mvs] at hk;subst hk;exact h1⟩
   ·exact⟨h1,h2⟩
  | _=>exact⟨h1,h2⟩
 generalize swp n v=q at *;obtain⟨n',t'⟩:=q;simp only at *;by_cases hin:n'∈mvs (fl l t')
 ·rw[if_pos hin] at hrun⊢;refine⟨h,⟨[],by simp⟩,hfl,fun U hU _ _=>hU,fun _ _ hl _ _=>hl,fun e=>by simp at e,fun θ hθ hab=>?_,fun e=>by simp at e,fun e=>by simp at e,.inr (.inr (.inl rfl)),hrun⟩;have h1:=(heq θ).1 hab;rw[<-solves_fl hθ t'] at h1;have h2:=zXU (θ:=θ) hin (fun e=>hne n' e rfl);rw[<-h1] at h2;omega
 ·rw[if_neg hin] at hrun⊢;have hok:Ok (l++[(n',t')]):=ok_snoc.2 ⟨h,hs,hin⟩;have base:∀e:Int,(e=0∨e=39)->(e=39->xG (l++[(n',t')])=true)->(e=0->xG (l++[(n',t')])=false)->OneR l (.mt n) v e (l++[(n',t')])->OneS l (.mt n) v e (l++[(n',t')]):=fun e he h1 h2 hrn=>by
   refine⟨hok,⟨_,rfl⟩,fun q hq=>?_,fun U hU ha hb=>?_,fun P hP hl ha hb q hq=>?_,fun _=>?_,fun θ hθ hab=>⟨?_,he⟩,h1,fun h _=>h2 h,?_,hrn⟩
   ·rcases List.mem_append.1 hq with hq|hq
    ·exact hfl q hq
    ·simp at hq;subst hq;exact hflat
   ·intro q hq;rcases List.mem_append.1 hq with hq|hq
    ·exact hU q hq
    ·simp at hq;subst hq;exact hmem U (ha n (by simp[mvs])) hb
   ·rcases List.mem_append.1 hq with hq|hq
    ·exact hl q hq
    ·simp at hq;subst hq;exact hkp P ha hb
   ·have hsv:=zI3 hok;rw[y8,y8];refine (heq (sg (l++[(n',t')]))).2 ?_;exact hsv n' t' (by simp)
   ·intro m x hm;rcases List.mem_append.1 hm with hm|hm
    ·exact hθ m x hm
    ·simp at hm;obtain⟨rfl,rfl⟩:=hm;exact (heq θ).1 hab
   ·rcases he with h|h
    ·exact .inl h
    ·exact .inr (.inr (.inr h))
  by_cases hg:xG (l++[(n',t')])=true
  ·rw[if_pos hg] at hrun⊢;exact base 39 (.inr rfl) (fun _=>hg) (fun e=>by simp at e) hrun
  ·rw[if_neg hg] at hrun⊢;exact base 0 (.inl rfl) (fun e=>by simp at e) (fun _=>by simpa using hg) hrun
theorem zO9 {l:Kn} (h:Ok l) (hfl:FlatK l) {u v:Tp} (hu:∀m,u≠.mt m) (hv:∀m,v≠.mt m) (hne:u.form≠v.form∨u.nam≠v.nam):OneS l u v 31 l :=
 ⟨h,⟨[],by simp⟩,hfl,fun U hU _ _=>hU,fun _ _ hl _ _=>hl,fun e=>by simp at e,fun θ _ hab=>by
  have h1:=zMR θ hu;have h2:=zMR θ hv;rw[hab] at h1;rcases hne with hne|hne
  ·exact absurd (h1.1.symm.trans h2.1) hne
  ·exact absurd (h1.2.symm.trans h2.2) hne,fun e=>by simp at e,fun e=>by simp at e,.inr (.inl rfl),.apart hu hv hne⟩
theorem zU6 {l:Kn} (h:Ok l) (hfl:FlatK l) (u:Tp) (hu:∀m,u≠.mt m) (ha:u.args=[]):OneS l u u 0 l :=
 ⟨h,⟨[],by simp⟩,hfl,fun U hU _ _=>hU,fun _ _ hl _ _=>hl,fun _=>rfl,fun θ hθ _=>⟨hθ,.inl rfl⟩,fun e=>by simp at e,fun _ hg=>hg,.inl rfl,.leaf hu ha⟩
theorem zXK {l l1:Kn} {a1 a2 b1 b2:Tp} {e:Int} (h1:OneS l a1 b1 e l1) (he:e≠0):OneS l (.app a1 a2) (.app b1 b2) e l1 :=
 ⟨h1.ok,h1.pre,h1.flat,fun U hU ha hb=>h1.cl U hU (fun m hm=>ha m (by simp[mvs,hm])) (fun m hm=>hb m (by simp[mvs,hm])),fun P hP hl ha hb=>h1.kp P hP hl (hP _ _ ha).1 (hP _ _ hb).1,fun h=>absurd h he,fun θ hθ hab=>by
  simp only[sbt,Tp.app.injEq] at hab;exact h1.least θ hθ hab.1,h1.great,fun h=>absurd h he,h1.es,.app1 h1.run he⟩
theorem zXG {l l1 l2:Kn} {a1 a2 b1 b2:Tp} {e:Int} (h1:OneS l a1 b1 0 l1) (h2:OneS l1 a2 b2 e l2):OneS l (.app a1 a2) (.app b1 b2) e l2:=by
 refine⟨h2.ok,?_,h2.flat,fun U hU ha hb=>?_,fun P hP hl ha hb=>h2.kp P hP (h1.kp P hP hl (hP _ _ ha).1 (hP _ _ hb).1) (hP _ _ ha).2 (hP _ _ hb).2,fun he=>?_,fun θ hθ hab=>?_,h2.great,fun he hg=>h2.small he (h1.small rfl hg),h2.es,.app2 h1.run h1.pre h1.ok (h1.small rfl) h1.kp h2.run⟩
 ·obtain⟨s,rfl⟩:=h1.pre;obtain⟨s2,rfl⟩:=h2.pre;exact⟨s++s2,by simp⟩
 ·exact h2.cl U (h1.cl U hU (fun m hm=>ha m (by simp[mvs,hm])) (fun m hm=>hb m (by simp[mvs,hm]))) (fun m hm=>ha m (by simp[mvs,hm])) (fun m hm=>hb m (by simp[mvs,hm]))
 ·rw[zFD,zFD,zKX h2.ok h2.sub (h1.good rfl),h2.good he]
 ·simp only[sbt,Tp.app.injEq] at hab;exact h2.least θ (h1.least θ hθ hab.1).1 hab.2
def cnt (U:List Int) (l:Kn):Nat:=(U.filter fun n => !(dom l).contains n).length
theorem cnt_lt {U:List Int} {l s:Kn} (hs:s≠[]) (hok:Ok (l++s)) (hc:zF6 U (l++s)):cnt U (l++s)<cnt U l:=by
 cases s with
 | nil=>exact absurd rfl hs
 | cons q s =>
  unfold cnt;have hq:q.1∈U:=(hc q (by simp)).1;have hnd:=zQG hok;have hql:q.1∉dom l:=fun h=>by
   simp only[dom,List.map_append,List.map_cons] at hnd h;exact (List.nodup_append.1 hnd).2.2 q.1 h q.1 (by simp) rfl
  have e:(U.filter fun n => !(dom (l++(q::s))).contains n)=(U.filter fun n => !(dom l).contains n).filter fun n => !(dom (q::s)).contains n:=by
   rw[List.filter_filter];refine List.filter_congr fun i _=>?_;by_cases h1:i∈dom l<;>by_cases h2:i∈dom (q::s)<;>simp_all [dom]
  rw[e];refine List.length_filter_lt_length_iff_exists.2 ⟨q.1,List.mem_filter.2 ⟨hq,by simpa using hql⟩,by simp[dom]⟩
end Go.Proofs.YtebmimnglcdogaaGreatDoor.Ck
