/- Types that are put in the place of numbers; what is known, in the order in which it came to be known. Plain. No condition. -/
import Derived.Test.YtebmimnglcdogaaGreatDoorS1
import Derived.Test.YtebmimnglcdogaaGreatDoorFpE
set_option linter.unusedSimpArgs false
set_option linter.unusedVariables false
namespace Go.Proofs.YtebmimnglcdogaaGreatDoor.Ck
open Go Fp
set_option linter.unusedVariables false
def sbt (θ:Int->Tp):Tp->Tp
 | .mt n=>θ n
 | .app a b => .app (sbt θ a) (sbt θ b)
 | .all s a => .all s (sbt θ a)
 | t=>t
def mvs:Tp->List Int
 | .mt n=>[n]
 | .app a b=>mvs a++mvs b
 | .all _ a=>mvs a
 | _=>[]
theorem sbt_congr {θ η:Int->Tp}:∀{t:Tp},(∀n∈mvs t,θ n=η n)->sbt θ t=sbt η t
 | .mt n,h=>h n (by simp[mvs])
 | .app a b,h=>by rw[sbt,sbt,sbt_congr (t:=a) (fun n hn=>h n (by simp[mvs,hn])),sbt_congr (t:=b) (fun n hn=>h n (by simp[mvs,hn]))]
 | .all s a,h=>by rw[sbt,sbt,sbt_congr (t:=a) (fun n hn=>h n (by simp[mvs,hn]))]
 | .no,_=>rfl
 | .var _,_=>rfl
 | .con _,_=>rfl
theorem zKV:∀t:Tp,sbt .mt t=t
 | .mt n=>rfl
 | .app a b=>by rw[sbt,zKV a,zKV b]
 | .all s a=>by rw[sbt,zKV a]
 | .no=>rfl
 | .var _=>rfl
 | .con _=>rfl
theorem zM3 {θ:Int->Tp} {t:Tp} (h:∀n∈mvs t,θ n = .mt n):sbt θ t=t:=(sbt_congr h).trans (zKV t)
theorem zEB (θ η:Int->Tp):∀t:Tp,sbt θ (sbt η t)=sbt (fun n=>sbt θ (η n)) t
 | .mt n=>rfl
 | .app a b=>by rw[sbt,sbt,sbt,zEB θ η a,zEB θ η b]
 | .all s a=>by rw[sbt,sbt,sbt,zEB θ η a]
 | .no=>rfl
 | .var _=>rfl
 | .con _=>rfl
def zJ2 (n:Int) (x:Tp) (m:Int):Tp:=if m=n then x else .mt m
theorem zSU {n:Int} {x t:Tp} (h:n∉mvs t):sbt (zJ2 n x) t=t:=zM3 fun m hm=>by
 unfold zJ2;rw[if_neg];rintro rfl;exact h hm
def tsz:Tp->Nat
 | .app a b=>tsz a+tsz b
 | .all _ a=>1+tsz a
 | _=>1
theorem zCE:∀t:Tp,0<tsz t
 | .app a b=>by have:=zCE a;simp only[tsz];omega
 | .all _ a=>by simp only[tsz];omega
 | .mt _=>Nat.one_pos
 | .no=>Nat.one_pos
 | .var _=>Nat.one_pos
 | .con _=>Nat.one_pos
theorem tsz_sbt (θ:Int->Tp):∀t:Tp,tsz t<=tsz (sbt θ t)
 | .mt n=>zCE _
 | .app a b=>by have:=tsz_sbt θ a;have:=tsz_sbt θ b;simp only[sbt,tsz];omega
 | .all _ a=>by have:=tsz_sbt θ a;simp only[sbt,tsz];omega
 | .no=>Nat.le_refl _
 | .var _=>Nat.le_refl _
 | .con _=>Nat.le_refl _
theorem zFG {θ:Int->Tp} {n:Int}:∀{t:Tp},n∈mvs t->tsz (θ n)<=tsz (sbt θ t)
 | .mt m,h=>by simp[mvs] at h;subst h;exact Nat.le_refl _
 | .app a b,h=>by
  simp only[mvs,List.mem_append] at h;simp only[sbt,tsz];rcases h with h|h
  ·have:=zFG (θ:=θ) h;omega
  ·have:=zFG (θ:=θ) h;omega
 | .all _ a,h=>by have:=zFG (θ:=θ) (t:=a) h;simp only[sbt,tsz];omega
 | .no,h=>by simp[mvs] at h
 | .var _,h=>by simp[mvs] at h
 | .con _,h=>by simp[mvs] at h
abbrev Kn:=List (Int×Tp)
def zAN (l:Kn) (n:Int):Option Tp:=(l.find? fun q=>q.1 == n).map (·.2)
def dom (l:Kn):List Int:=l.map (·.1)
def zVK:Kn->Tp->Tp
 | [],x=>x
 | (n,t)::L,x=>sbt (zJ2 n (zVK L t)) (zVK L x)
def fl (l:Kn) (x:Tp):Tp:=zVK l.reverse x
theorem zBC (l:Kn) (n:Int) (t x:Tp):fl (l++[(n,t)]) x=sbt (zJ2 n (fl l t)) (fl l x):=by unfold fl;rw[List.reverse_append];rfl
def OkR:Kn->Prop
 | []=>True
 | (n,t)::L=>OkR L/\n∉dom L/\n∉mvs (zVK L t)
def Ok (l:Kn):Prop:=OkR l.reverse
theorem ok_nil:Ok []:=trivial
theorem ok_snoc {l:Kn} {n:Int} {t:Tp}:Ok (l++[(n,t)])↔Ok l/\n∉dom l/\n∉mvs (fl l t):=by
 unfold Ok fl;rw[List.reverse_append];show OkR l.reverse/\n∉dom l.reverse/\_↔_;simp[dom]
theorem zA2 {α:Type} {P:List α->Prop} (h0:P []) (h1:∀l a,P l->P (l++[a])):∀l,P l:=fun l=>by
 have:∀r:List α,P r.reverse:=fun r=>by
  induction r with
  | nil=>exact h0
  | cons a r ih=>rw[List.reverse_cons];exact h1 _ _ ih
 have:=this l.reverse
 rwa [List.reverse_reverse] at this
def sg (l:Kn) (n:Int):Tp:=fl l (.mt n)
theorem y8 (l:Kn):∀x,fl l x=sbt (sg l) x:=by
 induction l using zA2 with
 | h0=>intro x;exact (zM3 fun n _=>rfl).symm
 | h1 l a ih =>
  intro x;obtain⟨n,t⟩:=a;rw[zBC,ih x,zEB];refine sbt_congr fun m _=>?_;unfold sg;rw[zBC]
theorem zFD (l:Kn) (a b:Tp):fl l (.app a b) = .app (fl l a) (fl l b):=by rw[y8,y8,y8];rfl
theorem zNP (l:Kn) (s:ByteArray) (a:Tp):fl l (.all s a) = .all s (fl l a):=by rw[y8,y8];rfl
theorem zD0 (l:Kn) (n:Int):fl l (.mt n)=sg l n:=rfl
theorem jK {n:Int}:∀{l:Kn},n∉dom l->sg l n = .mt n:=fun {l}=>by
 induction l using zA2 with
 | h0=>intro _;rfl
 | h1 l a ih =>
  intro h;obtain⟨m,t⟩:=a;simp only[dom,List.map_append,List.map_cons,List.map_nil,List.mem_append,List.mem_singleton,not_or] at h;unfold sg;rw[zBC,zD0,ih h.1,sbt];unfold zJ2;rw[if_neg h.2]
theorem zG9 {l:Kn} (h:Ok l):∀n t,(n,t)∈l->sg l n=fl l t:=by
 induction l using zA2 with
 | h0=>intro n t hn;simp at hn
 | h1 l a ih =>
  obtain⟨m,u⟩:=a;obtain⟨h1,h2,h3⟩:=ok_snoc.1 h;intro n t hn;unfold sg;rw[zBC,zBC];rcases List.mem_append.1 hn with hn|hn
  ·rw[zD0,ih h1 n t hn]
  ·simp at hn;obtain⟨rfl,rfl⟩:=hn;rw[zD0,jK h2,zSU h3,sbt];unfold zJ2;rw[if_pos rfl]
theorem zQG {l:Kn} (h:Ok l):(dom l).Nodup:=by
 induction l using zA2 with
 | h0=>simp[dom]
 | h1 l a ih =>
  obtain⟨m,u⟩:=a;obtain⟨h1,h2,_⟩:=ok_snoc.1 h;simp only[dom,List.map_append,List.map_cons,List.map_nil];exact List.nodup_append.2 ⟨ih h1,by simp,fun a ha b hb e=>by simp at hb;subst hb;subst e;exact h2 ha⟩
theorem zCN {l:Kn} {n:Int} {t:Tp} (h:zAN l n=some t):(n,t)∈l:=by
 unfold zAN at h;obtain⟨q,hq,rfl⟩:=Option.map_eq_some_iff.1 h;have h1:=List.mem_of_find?_eq_some hq;have h2:=List.find?_some hq;obtain⟨a,b⟩:=q;simp at h2;subst h2;exact h1
theorem getK_none {l:Kn} {n:Int}:zAN l n=none↔n∉dom l:=by
 unfold zAN dom;rw[Option.map_eq_none_iff,List.find?_eq_none];simp only[List.mem_map,not_exists,not_and];constructor
 ·rintro h q hq rfl;exact h q hq (by simp)
 ·intro h q hq e;exact h q hq (by simpa using e)
def Solves (θ:Int->Tp) (l:Kn):Prop := ∀n t,(n,t)∈l->θ n=sbt θ t
theorem zI3 {l:Kn} (h:Ok l):Solves (sg l) l:=fun n t hn=>by rw[zG9 h n t hn,y8]
theorem solves_fl {θ:Int->Tp} {l:Kn} (h:Solves θ l):∀x,sbt θ (fl l x)=sbt θ x:=by
 induction l using zA2 with
 | h0=>intro x;rfl
 | h1 l a ih =>
  obtain⟨m,u⟩:=a;have hl:Solves θ l:=fun n t hn=>h n t (List.mem_append_left _ hn);intro x;rw[zBC,zEB,<-ih hl x];refine sbt_congr fun k _=>?_;unfold zJ2;split
  ·rename_i he;rw[he,ih hl u];exact (h m u (by simp)).symm
  ·rfl
theorem zPI {l l':Kn} (h':Ok l') (hsub:∀q∈l,q∈l') (x:Tp):fl l' (fl l x)=fl l' x:=by
 rw[y8 l',y8 l'];exact solves_fl (fun n t hn=>zI3 h' n t (hsub _ hn)) x
theorem zKX {l l':Kn} (h':Ok l') (hsub:∀q∈l,q∈l') {a b:Tp} (h:fl l a=fl l b):fl l' a=fl l' b:=by
 rw[<-zPI h' hsub a,h,zPI h' hsub b]
def ap (l:Kn):Nat->Tp->Option Tp
 | 0,_=>none
 | k+1,.mt n=>match zAN l n with
  | none=>some (.mt n)
  | some x=>ap l k x
 | k+1,.app a b=>match ap l k a,ap l k b with
  | some a',some b'=>some (.app a' b')
  | _,_=>none
 | k+1,.all s a=>(ap l k a).map (.all s)
 | _+1,t=>some t
theorem qX {l:Kn}:∀{k:Nat} {x y:Tp} {j:Nat},ap l k x=some y->k<=j->ap l j x=some y
 | 0,_,_,_,h,_=>by simp[ap] at h
 | k+1,x,y,0,_,hj=>by omega
 | k+1,.mt n,y,j+1,h,hj=>by
  rw[ap] at h⊢;split at h
  ·exact h
  ·exact qX h (by omega)
 | k+1,.app a b,y,j+1,h,hj=>by
  rw[ap] at h⊢;split at h
  ·rename_i a' b' ha hb;rw[qX ha (by omega:k<=j),qX hb (by omega:k<=j)];exact h
  ·cases h
 | k+1,.all s a,y,j+1,h,hj=>by
  rw[ap] at h⊢;obtain⟨a',ha,rfl⟩:=Option.map_eq_some_iff.1 h;rw[qX ha (by omega:k<=j)];rfl
 | k+1,.no,y,j+1,h,hj=>h
 | k+1,.var _,y,j+1,h,hj=>h
 | k+1,.con _,y,j+1,h,hj=>h
theorem zJD {l:Kn} {n:Int} {t:Tp} (hn:n∉dom l) (m:Int):zAN (l++[(n,t)]) m=if m=n then some t else zAN l m:=by
 unfold zAN;rw[List.find?_append];by_cases h:m=n
 ·subst h;rw[if_pos rfl];have:l.find? (fun q=>q.1 == m)=none:=by
   rw[List.find?_eq_none];intro q hq e;exact hn (List.mem_map.2 ⟨q,hq,by simpa using e⟩)
  rw[this];simp
 ·rw[if_neg h];cases hf:l.find? (fun q=>q.1 == m) with
  | some q=>rfl
  | none =>
   have:([(n,t)]:Kn).find? (fun q=>q.1 == m)=none:=by
    rw[List.find?_eq_none];intro q hq e;simp at hq;subst hq;simp at e;exact h e.symm
   simp only[Option.none_or,this]
theorem zGP {l:Kn} {n:Int} {t:Tp} (hn:n∉dom l):∀{k:Nat} {x y:Tp},ap l k x=some y->n∉mvs y->ap (l++[(n,t)]) k x=some y
 | 0,_,_,h,_=>by simp[ap] at h
 | k+1,.mt m,y,h,hy=>by
  rw[ap,zJD hn];rw[ap] at h;split at h
  ·rename_i hg;injection h with h;subst h
   have:m≠n:=fun e=>hy (by simp[mvs,e]);rw[if_neg this,hg]
  ·rename_i u hg;have:m≠n:=fun e=>by subst e;rw[getK_none.2 hn] at hg;cases hg
   rw[if_neg this,hg];exact zGP hn h hy
 | k+1,.app a b,y,h,hy=>by
  rw[ap] at h⊢;split at h
  ·rename_i a' b' ha hb;injection h with h;subst h
   simp only[mvs,List.mem_append,not_or] at hy;rw[zGP hn ha hy.1,zGP hn hb hy.2]
  ·cases h
 | k+1,.all s a,y,h,hy=>by
  rw[ap] at h⊢;obtain⟨a',ha,rfl⟩:=Option.map_eq_some_iff.1 h;rw[zGP hn ha hy];rfl
 | k+1,.no,y,h,_=>h
 | k+1,.var _,y,h,_=>h
 | k+1,.con _,y,h,_=>h
theorem zMK {l:Kn} {n:Int} {t t':Tp} {j:Nat} (hn:n∉dom l) (ht:ap l j t=some t') (hnt:n∉mvs t'):∀{k:Nat} {x y:Tp},ap l k x=some y->ap (l++[(n,t)]) (k+j) x=some (sbt (zJ2 n t') y)
 | 0,_,_,h=>by simp[ap] at h
 | k+1,.mt m,y,h=>by
  rw[show k+1+j=(k+j)+1 by omega,ap,zJD hn];rw[ap] at h;split at h
  ·rename_i hg;injection h with h;subst h
   rw[sbt];unfold zJ2;by_cases he:m=n
   ·rw[if_pos he,if_pos he];simp only;exact qX (zGP hn ht hnt) (by omega)
   ·rw[if_neg he,if_neg he,hg]
  ·rename_i u hg;have:m≠n:=fun e=>by subst e;rw[getK_none.2 hn] at hg;cases hg
   rw[if_neg this,hg];exact zMK hn ht hnt h
 | k+1,.app a b,y,h=>by
  rw[show k+1+j=(k+j)+1 by omega];rw[ap] at h⊢;split at h
  ·rename_i a' b' ha hb;injection h with h;subst h
   rw[zMK hn ht hnt ha,zMK hn ht hnt hb];rfl
  ·cases h
 | k+1,.all s a,y,h=>by
  rw[show k+1+j=(k+j)+1 by omega];rw[ap] at h⊢;obtain⟨a',ha,rfl⟩:=Option.map_eq_some_iff.1 h;rw[zMK hn ht hnt ha];rfl
 | k+1,.no,y,h=>by
  have h:some (Tp.no)=some y:=h;injection h with h;subst h
  rw[show k+1+j=(k+j)+1 by omega];rfl
 | k+1,.var s,y,h=>by
  have h:some (Tp.var s)=some y:=h;injection h with h;subst h
  rw[show k+1+j=(k+j)+1 by omega];rfl
 | k+1,.con s,y,h=>by
  have h:some (Tp.con s)=some y:=h;injection h with h;subst h
  rw[show k+1+j=(k+j)+1 by omega];rfl
theorem zK8:∀x:Tp,∃k,ap [] k x=some x
 | .mt n=>⟨1,rfl⟩
 | .app a b=>by
  obtain⟨j,hj⟩:=zK8 a;obtain⟨k,hk⟩:=zK8 b;exact⟨max j k+1,by rw[ap,qX hj (Nat.le_max_left j k),qX hk (Nat.le_max_right j k)]⟩
 | .all s a=>by
  obtain⟨j,hj⟩:=zK8 a;exact⟨j+1,by rw[ap,hj];rfl⟩
 | .no=>⟨1,rfl⟩
 | .var _=>⟨1,rfl⟩
 | .con _=>⟨1,rfl⟩
theorem zST {l:Kn} (h:Ok l):∀x,∃k,ap l k x=some (fl l x):=by
 induction l using zA2 with
 | h0=>exact zK8
 | h1 l a ih =>
  obtain⟨n,t⟩:=a;obtain⟨h1,h2,h3⟩:=ok_snoc.1 h;intro x;obtain⟨j,hj⟩:=ih h1 t;obtain⟨k,hk⟩:=ih h1 x;exact⟨k+j,by rw[zBC];exact zMK h2 hj h3 hk⟩
set_option maxRecDepth 10000
theorem zLP {l:List Tp} {k:Nat} (h:k<l.length):(zN l)[k]? = some (eTy l[k]):=by
 simp[zN,h]
theorem zQN (l:List Tp):Uni 4 (zN l):=fun a ha=>by
 obtain⟨x,_,rfl⟩:=List.mem_map.1 ha;rfl
theorem zWL {l:List Tp} {k:Nat} (h:k<l.length):zN (l.take k)++[eTy l[k]]=zN (l.take (k+1)):=by
 rw[List.take_succ_eq_append_getElem h];unfold zN;rw[List.map_append];rfl
theorem zF9 (t:Tp):t.args.length<=2:=by cases t<;>simp[Tp.args]
theorem yL {n:Nat} (h:n<9223372036854775808):IntKind.i64.wrap (n:Int)=n:=by
 simp[IntKind.wrap,IntKind.signed,IntKind.bits,Int.bmod];omega
theorem wrap_succ {k:Nat} (h:k+1<9223372036854775808):IntKind.i64.wrap ((k:Int)+1)=((k+1:Nat):Int):=by
 have:=yL h;simpa using this
theorem zHS (t:Tp) (ih:∀a∈t.args,zD Tryz.prog zBV [eTy a] (eTy a)):zD Tryz.prog zBV [eTy t] (eTy t):=by
 refine zC ttok mixed Tryz.func54 rfl (by rfl) (Nat.le_of_ble_eq_true rfl) (by kernel_rfl) ?_;refine⟨{k:Nat // k<=t.args.length},fun k=>{vs:=[(1,.box 0 (eTy t)),(2,.box 0 (eTy .no)),(3,.v (.sl (zN (t.args.take k.1)))),(7,.v (.sl t.eArgs)),(8,.v (.lit (.int .i64 (t.eArgs.length:Nat)))),(9,.v (.lit (.int .i64 (k.1:Nat))))],ow:=[(3,0,5)]},
  fun k=>t.args.length-k.1,⟨0,Nat.zero_le _⟩,⟨⟨rfl,rfl,rfl,rfl,rfl,rfl,trivial⟩,⟨trivial,trivial⟩,rfl⟩,?_⟩
 rintro⟨k,hk⟩;have hlen:t.eArgs.length=t.args.length:=by rw[t.eArgs_eq];simp[zN]
 have h2:=zF9 t;refine⟨fun h=>?_,fun h=>?_⟩
 ·have h:k<t.args.length:=by simp[hlen] at h;omega
  refine⟨eTy t.args[k],by simp,by rw[t.eArgs_eq];exact zLP h,rfl,?_⟩;refine .inl ⟨_,ih _ (List.getElem_mem h),?_⟩;refine⟨by simp[zN];omega,zQN _,zQN [_],?_⟩;refine⟨⟨k+1,h⟩,by simp;omega,⟨rfl,rfl,?_,rfl,rfl,?_,trivial⟩,⟨rfl,trivial⟩,rfl⟩
  ·exact congrArg (fun l=>SV.v (AV.sl l)) (zWL h)
  ·exact congrArg (fun l=>SV.v (AV.lit (Value.int .i64 l))) (wrap_succ (k:=k) (by omega))
 ·have h:k=t.args.length:=by simp[hlen] at h;omega
  subst h;have:zN (t.args.take t.args.length)=t.eArgs:=by rw[List.take_length,t.eArgs_eq]
  show AV.agg [_,_,_,AV.sl (zN (t.args.take t.args.length))]=_;rw[this];rfl
theorem own_ok (t:Tp):zD Tryz.prog zBV [eTy t] (eTy t):=by
 induction t with
 | app a b iha ihb=>exact zHS _ (by simp[Tp.args];exact⟨iha,ihb⟩)
 | all s a ih=>exact zHS _ (by simp[Tp.args];exact ih)
 | _=>exact zHS _ (by simp[Tp.args])
theorem wrap_in {n:Int} (h:InR n):IntKind.i64.wrap n=n:=by
 unfold InR at h;simp[IntKind.wrap,IntKind.signed,IntKind.bits];omega
theorem zSD {l:List Int} {k:Nat} (h:k<l.length):(eIs l)[k]? = some (.lit (.int .i64 l[k])):=by simp[eIs,h]
theorem zW1 {l:List ByteArray} {k:Nat} (h:k<l.length):(eSs l)[k]? = some (.lit (.string l[k])):=by simp[eSs,h]
theorem zXD (l:List Int):Uni 1 (eIs l):=fun a ha=>by obtain⟨x,_,rfl⟩:=List.mem_map.1 ha;rfl
theorem zF3 (l:List ByteArray):Uni 1 (eSs l):=fun a ha=>by obtain⟨x,_,rfl⟩:=List.mem_map.1 ha;rfl
theorem zSA {x:AV} {n:Nat} (h:x.cells.length=n):Uni n [x]:=fun a ha=>by simp at ha;subst ha;exact h
def zTQ:List ByteArray:=[⟨#[97]⟩,⟨#[98]⟩,⟨#[99]⟩,⟨#[120]⟩]
def zXQ:List ByteArray:=[⟨#[73,110,116]⟩,⟨#[66,111,111,108]⟩,⟨#[76]⟩,⟨#[80]⟩,⟨#[70]⟩,⟨#[45,62]⟩]
def good:Tp->Prop
 | .app a b=>good a/\good b
 | .all s a=>s∈zTQ/\good a
 | .var s=>s∈zTQ
 | .con s=>s∈zXQ
 | .mt n => ∃k:Nat,n=(k:Int)/\k<10
 | .no=>False
set_option maxHeartbeats 4000000
theorem con_mk (s:ByteArray):zD Tryz.prog zMY [.lit (.string s)] (eTy (.con s)):=by
 refine zC ttok mixed Tryz.func56 rfl (by rfl) (Nat.le_of_ble_eq_true rfl) (by kernel_rfl) ?_;exact rfl
theorem zWZ (s:ByteArray):zD Tryz.prog zLT [.lit (.string s)] (eTy (.var s)):=by
 refine zC ttok mixed Tryz.func113 rfl (by rfl) (Nat.le_of_ble_eq_true rfl) (by kernel_rfl) ?_;exact rfl
theorem apply_mk (a b:Tp):zD Tryz.prog zIC [eTy a,eTy b] (eTy (.app a b)):=by
 refine zC ttok mixed Tryz.func55 rfl (by rfl) (Nat.le_of_ble_eq_true rfl) (by kernel_rfl) ?_;exact rfl
theorem zW3 (t:Tp):t.eArgs.length=t.args.length:=by rw[t.eArgs_eq];simp[zN]
def appAllT (f:Tp) (l:List Tp):Tp:=l.foldl .app f
theorem zUE (t:Tp):0<t.sz:=by cases t<;>simp[Tp.sz]<;>omega
def ixI {α:Type} [DecidableEq α] (l:List α) (s:α):Int:=if s∈l then (l.idxOf s:Nat) else -1
theorem zXL {α:Type} [DecidableEq α] {l:List α} {s:α} {k:Nat} (hk:k<l.length) (h:l[k]=s) (hn:∀j,j<k->l[j]?≠some s):ixI l s=(k:Nat):=by
 have hm:s∈l:=h ▸ List.getElem_mem hk;rw[ixI,if_pos hm];have h1:l.idxOf s<l.length:=List.idxOf_lt_length_iff.2 hm;have h2:l[l.idxOf s]=s:=List.getElem_idxOf h1;rcases Nat.lt_trichotomy (l.idxOf s) k with q|q|q
 ·exact absurd (by rw[List.getElem?_eq_getElem h1,h2]) (hn _ q)
 ·rw[q]
 ·have:=List.not_of_lt_findIdx (p:=(· == s)) (xs:=l) (i:=k) q;simp[h] at this
theorem zOB {α:Type} {l:List α} {s:α} (hn:∀j,j<l.length->l[j]?≠some s):s∉l:=fun hm=>by
 obtain⟨j,hj,he⟩:=List.getElem_of_mem hm;exact hn j hj (by rw[List.getElem?_eq_getElem hj,he])
theorem zOA {α:Type} [DecidableEq α] {l:List α} {s:α} (hn:s∉l):ixI l s = -1:=by rw[ixI,if_neg hn]
def memb {α:Type} [DecidableEq α] (s:α) (l:List α):Bool:=decide (s∈l)
theorem zM5 {α:Type} [DecidableEq α] {s:α} {l:List α} (h:s∈l):memb s l=true:=decide_eq_true h
theorem memb_iff {α:Type} [DecidableEq α] {s:α} {l:List α}:memb s l=true↔s∈l:=decide_eq_true_iff
theorem zW8 {α:Type} [DecidableEq α] (l:List α) (s:α):decide (0<=ixI l s)=memb s l:=by
 unfold ixI memb;split<;>rename_i h
 ·rw[decide_eq_true h];exact decide_eq_true (Int.natCast_nonneg _)
 ·rw[decide_eq_false h];rfl
theorem zVJ {α:Type} {l:List α} {s:α} {k:Nat} (hk:k<l.length) (h:l[k]≠s) (hn:∀j,j<k->l[j]?≠some s):∀j,j<k+1->l[j]?≠some s:=fun j hj=>by
 rcases Nat.lt_or_ge j k with q|q
 ·exact hn j q
 ·obtain rfl:j=k:=by omega
  rw[List.getElem?_eq_getElem hk];intro e;injection e with e;exact h e
theorem zEJ {l:List ByteArray} {s:ByteArray} (hl:l.length<9223372036854775807):zD Tryz.prog qW [.sl (eSs l),.lit (.string s)] (.lit (.int .i64 (ixI l s))):=by
 refine zC ttok mixed Tryz.func83 rfl (by rfl) (Nat.le_of_ble_eq_true rfl) (by kernel_rfl) ?_;refine⟨{k:Nat // k<=l.length/\∀j,j<k->l[j]?≠some s},fun k=>{vs:=[(0,.v (.sl (eSs l))),(1,.v (.lit (.string s))),(7,.v (.lit (.int .i64 ((eSs l).length:Nat)))),(8,.v (.lit (.int .i64 (k.1:Nat))))],ow:=[]},
  fun k=>l.length-k.1,⟨0,Nat.zero_le _,fun j hj=>absurd hj (by omega)⟩,⟨⟨rfl,rfl,rfl,rfl,trivial⟩,trivial,rfl⟩,?_⟩
 rintro⟨k,hk,hn⟩;have hlen:(eSs l).length=l.length:=by simp[eSs]
 refine⟨fun h=>?_,fun h=>?_⟩
 ·have h:k<l.length:=by simp[hlen] at h;omega
  refine⟨_,by omega,zW1 h,rfl,?_⟩;refine⟨fun h2=>?_,fun h2=>?_⟩
  ·have h2:l[k]=s:=by simpa[eq_comm] using h2
   rw[zXL h h2 hn];exact rfl
  ·have h2:l[k]≠s:=by intro e;simp[e] at h2
   refine⟨⟨k+1,h,zVJ h h2 hn⟩,(show l.length-(k+1)<l.length-k by omega),⟨rfl,rfl,rfl,?_,trivial⟩,trivial,rfl⟩;exact congrArg (fun n=>SV.v (AV.lit (Value.int .i64 n))) (wrap_succ (k:=k) (by omega))
 ·have h:k=l.length:=by simp[hlen] at h;omega
  subst h;rw[zOA (zOB hn)];exact rfl
theorem xZ {l:List ByteArray} {s:ByteArray} (hl:l.length<9223372036854775807):zD Tryz.prog wX [.sl (eSs l),.lit (.string s)] (.sb (memb s l)):=by
 refine zC ttok mixed Tryz.func111 rfl (by rfl) (Nat.le_of_ble_eq_true rfl) (by kernel_rfl) ?_;refine .inl ⟨_,zEJ hl,?_⟩;rw[<-zW8];exact rfl
theorem zSR (s:ByteArray) (t:Tp):zD Tryz.prog zM1 [.lit (.string s),eTy t] (eTy (.all s t)):=by
 refine zC ttok mixed Tryz.func50 rfl (by rfl) (Nat.le_of_ble_eq_true rfl) (by kernel_rfl) ?_;refine .inl ⟨_,own_ok t,?_⟩;exact rfl
set_option maxRecDepth 100000
def dcm (n:Nat):ByteArray:=if h:n<10 then ⟨#[UInt8.ofNat (48+n)]⟩ else dcm (n / 10)++⟨#[UInt8.ofNat (48+n % 10)]⟩
termination_by n
theorem zAW {n:Nat} (h:n<10):dcm n=⟨#[UInt8.ofNat (48+n)]⟩:=by rw[dcm,dif_pos h]
theorem zGH {n:Nat} (h:¬n<10):dcm n=dcm (n / 10)++⟨#[UInt8.ofNat (48+n % 10)]⟩:=by rw[dcm,dif_neg h]
theorem sz1 (x:UInt8):(ByteArray.mk #[x]).size=1:=rfl
theorem zM9:∀(k n:Nat),n<10 ^ k->0<k->(dcm n).size<=k
 | 0,n,h,hk=>by omega
 | k+1,n,h,_=>by
  by_cases h10:n<10
  ·rw[zAW h10,sz1];omega
  ·rw[zGH h10,ByteArray.size_append,sz1];have hk:0<k:=by
    rcases Nat.eq_zero_or_pos k with rfl|h'
    ·simp at h;omega
    ·exact h'
   have:=zM9 k (n / 10) (by rw[Nat.pow_succ] at h;omega) hk;omega
theorem zOO {a:Nat} (h1:¬a<10) (h2:a<100):dcm a=⟨#[UInt8.ofNat (48+a / 10),UInt8.ofNat (48+a % 10)]⟩:=by
 rw[zGH h1,zAW (by omega)];rfl
def sm100:ByteArray:=⟨((List.range 100).flatMap fun i=>[UInt8.ofNat (48+i / 10),UInt8.ofNat (48+i % 10)]).toArray⟩
theorem zTY:∀i:Fin 100,sm100.extract (Int.toNat ((i.val*2:Nat):Int)) (Int.toNat ((i.val*2+2:Nat):Int))=⟨#[UInt8.ofNat (48+i.val / 10),UInt8.ofNat (48+i.val % 10)]⟩:=by decide +kernel
theorem zTE {n:Nat} (hn:n<100):zD Tryz.prog zAM [.lit (.int .i64 (n:Nat))] (.lit (.string (dcm n))):=by
 refine zC ttok mixed Tryz.func118 rfl (by rfl) (Nat.le_of_ble_eq_true rfl) (by kernel_rfl) ?_;have e1:IntKind.i64.wrap ((n:Int)+1)=((n+1:Nat):Int):=wrap_succ (by omega);have e2:IntKind.i64.wrap ((n:Int)*2)=((n*2:Nat):Int):=by rw[show (n:Int)*2=((n*2:Nat):Int) by omega];exact yL (by omega)
 have e3:IntKind.i64.wrap (IntKind.i64.wrap ((n:Int)*2)+2)=((n*2+2:Nat):Int):=by rw[e2,show ((n*2:Nat):Int)+2=((n*2+2:Nat):Int) by omega];exact yL (by omega)
 refine⟨fun h=>?_,fun h=>?_⟩
 ·have h:n<10:=by simp at h;omega
  refine⟨by omega,by rw[e1];omega,?_,?_⟩
  ·rw[e1];show ((n+1:Nat):Int)<=((36:Nat):Int);omega
  ·rw[e1];have:∀i:Fin 10,(ByteArray.mk #[48,49,50,51,52,53,54,55,56,57,97,98,99,100,101,102,103,104,105,106,107,108,109,110,111,112,113,114,115,116,117,118,119,120,121,122]).extract (Int.toNat (i.val:Int)) (Int.toNat ((i.val+1:Nat):Int))=⟨#[UInt8.ofNat (48+i.val)]⟩:=by decide +kernel
   have:=this ⟨n,h⟩;rw[zAW h,<-this];exact rfl
 ·have h:¬n<10:=by simp at h;omega
  refine⟨by rw[e2];omega,by rw[e3,e2];omega,?_,?_⟩
  ·rw[e3];show ((n*2+2:Nat):Int)<=((200:Nat):Int);omega
  ·rw[e3,e2];have hf:AV.lit (.string (sm100.extract (Int.toNat ((n*2:Nat):Int)) (Int.toNat ((n*2+2:Nat):Int))))=AV.lit (.string (dcm n)):=by
    rw[zOO h hn];exact congrArg (fun s=>AV.lit (.string s)) (zTY ⟨n,hn⟩)
   refine Eq.trans (congrArg (fun s:ByteArray=>AV.lit (.string (s.extract (Int.toNat ((n*2:Nat):Int)) (Int.toNat ((n*2+2:Nat):Int))))) (?_:_=sm100)) hf
   kernel_rfl
theorem zVL {n:Nat} (hn:n<100):zD Tryz.prog zHM [.lit (.int .i64 (n:Nat))] (.lit (.string (dcm n))):=by
 refine zC ttok mixed Tryz.func38 rfl (by rfl) (Nat.le_of_ble_eq_true rfl) (by kernel_rfl) ?_;refine .inl ⟨.lit (.string (dcm n)),?_,rfl⟩;refine zC ttok mixed Tryz.func72 rfl (by rfl) (Nat.le_of_ble_eq_true rfl) (by kernel_rfl) ?_;refine .inl ⟨.lit (.string (dcm n)),?_,rfl⟩;refine zC ttok mixed Tryz.func95 rfl (by rfl) (Nat.le_of_ble_eq_true rfl) (by kernel_rfl) ?_;refine⟨fun _=>?_,fun h=>(by simp at h)⟩;refine⟨fun _=>?_,fun h=>(by simp at h)⟩;refine⟨fun _=>?_,fun h=>(by simp at h;omega)⟩;refine .inl ⟨_,zTE hn,?_⟩;exact rfl
def lett (n:Nat):ByteArray:=if n<26 then ⟨#[UInt8.ofNat (97+n % 26)]⟩ else ⟨#[UInt8.ofNat (97+n % 26)]⟩++dcm (n / 26)
theorem zX7:∀i:Fin 26,Utf8.encode ((97+i.val:Nat):Int)=⟨#[UInt8.ofNat (97+i.val)]⟩:=by decide +kernel
theorem wrap32 {n:Nat} (h:n<256):IntKind.i32.wrap (n:Int)=n:=by
 simp[IntKind.wrap,IntKind.signed,IntKind.bits];omega
theorem zOM {n:Nat} (hn:n<2600):zD Tryz.prog zFZ [.lit (.int .i64 (n:Nat))] (.lit (.string (lett n))):=by
 refine zC ttok mixed Tryz.func131 rfl (by rfl) (Nat.le_of_ble_eq_true rfl) (by kernel_rfl) ?_;have e1:((n:Int).tmod 26)=((n % 26:Nat):Int):=rfl;have e2:IntKind.i64.wrap (97+(n:Int).tmod 26)=((97+n % 26:Nat):Int):=by rw[e1,show (97:Int)+((n % 26:Nat):Int)=((97+n % 26:Nat):Int) by omega];exact yL (by omega)
 have e3:Utf8.encode (IntKind.i32.wrap (IntKind.i64.wrap (97+(n:Int).tmod 26)))=⟨#[UInt8.ofNat (97+n % 26)]⟩:=by rw[e2,wrap32 (by omega)];exact zX7 ⟨n % 26,by omega⟩
 have e4:IntKind.i64.wrap ((n:Int).tdiv 26)=((n / 26:Nat):Int):=by rw[show ((n:Int).tdiv 26)=((n / 26:Nat):Int) by simp];exact yL (by omega)
 refine⟨by decide,?_⟩;refine⟨fun h=>?_,fun h=>?_⟩
 ·have h:n<26:=by simp at h;omega
  show AV.lit (.string (Utf8.encode (IntKind.i32.wrap (IntKind.i64.wrap (97+(n:Int).tmod 26)))))=_;rw[e3,lett,if_pos h]
 ·have h:¬n<26:=by simp at h;omega
  have hc:=zVL (n:=n / 26) (by omega);rw[<-e4] at hc;refine⟨by decide,.inl ⟨_,hc,?_,?_⟩⟩
  ·have:=zM9 9 (n / 26) (by omega) (by decide);rw[e3,sz1];omega
  ·show AV.lit (.string (Utf8.encode (IntKind.i32.wrap (IntKind.i64.wrap (97+(n:Int).tmod 26)))++dcm (n / 26)))=_;rw[e3,lett,if_neg h]
section
variable {α:Type} [DecidableEq α]
def ins (p:α->Bool) (out:List α) (s:α):List α:=if s∈out∨p s=true then out else out++[s]
def insAll (p:α->Bool) (out l:List α):List α:=l.foldl (ins p) out
theorem zOC (p:α->Bool) (out:List α):insAll p out []=out:=rfl
theorem zL0 (p:α->Bool) (out l:List α) (s:α):insAll p out (s::l)=insAll p (ins p out s) l:=rfl
theorem zC0 (p:α->Bool) (out l m:List α):insAll p out (l++m)=insAll p (insAll p out l) m:=by simp[insAll]
theorem zLD {p:α->Bool} {out l:List α} {k:Nat} (h:k<l.length):insAll p out (l.take (k+1))=ins p (insAll p out (l.take k)) l[k]:=by
 rw[List.take_succ_eq_append_getElem h,zC0];rfl
theorem zVR (p:α->Bool) (out:List α) (s x:α) (h:x∈out):x∈ins p out s:=by
 unfold ins;split
 ·exact h
 ·exact List.mem_append_left _ h
theorem zGN (p:α->Bool) (l:List α):∀(out:List α) (x:α),x∈out->x∈insAll p out l:=by
 induction l with
 | nil=>exact fun _ _ h=>h
 | cons s l ih=>exact fun out x h=>ih _ x (zVR p out s x h)
theorem zV5 {p:α->Bool} {out:List α} {s x:α}:x∈ins p out s↔x∈out∨(x=s/\p s=false):=by
 unfold ins;split<;>rename_i h
 ·constructor
  ·exact .inl
  ·rintro (h1|⟨rfl,h2⟩)
   ·exact h1
   ·rcases h with h|h
    ·exact h
    ·rw[h2] at h;cases h
 ·simp only[not_or,Bool.not_eq_true] at h;simp only[List.mem_append,List.mem_singleton];constructor
  ·rintro (h1|rfl)
   ·exact .inl h1
   ·exact .inr ⟨rfl,h.2⟩
  ·rintro (h1|⟨rfl,_⟩)
   ·exact .inl h1
   ·exact .inr rfl
theorem zGL {p:α->Bool} {l:List α}:∀{out:List α} {x:α},x∈insAll p out l↔x∈out∨(x∈l/\p x=false):=by
 induction l with
 | nil=>simp[zOC]
 | cons s l ih =>
  intro out x;rw[zL0,ih,zV5];simp only[List.mem_cons];constructor
  ·rintro ((h|⟨rfl,h⟩)|⟨h1,h2⟩)
   ·exact .inl h
   ·exact .inr ⟨.inl rfl,h⟩
   ·exact .inr ⟨.inr h1,h2⟩
  ·rintro (h|⟨rfl|h1,h2⟩)
   ·exact .inl (.inl h)
   ·exact .inl (.inr ⟨rfl,h2⟩)
   ·exact .inr ⟨h1,h2⟩
theorem zQT {p:α->Bool} {out:List α} {s:α} (h:out.Nodup):(ins p out s).Nodup:=by
 unfold ins;split<;>rename_i q
 ·exact h
 ·simp only[not_or] at q;exact List.nodup_append.2 ⟨h,by simp,by rintro a ha b hb rfl;simp at hb;subst hb;exact q.1 ha⟩
theorem wL {p:α->Bool} {l:List α}:∀{out:List α},out.Nodup->(insAll p out l).Nodup:=by
 induction l with
 | nil=>exact id
 | cons s l ih=>exact fun h=>ih (zQT h)
def no:α->Bool:=fun _=>false
end
def fv:Tp->List ByteArray
 | .var s=>[s]
 | .app a b=>insAll no (insAll no [] (fv a)) (fv b)
 | .all s a=>insAll (fun x=>decide (x=s)) [] (fv a)
 | _=>[]
theorem zD3 (t:Tp):(fv t).Nodup:=by
 cases t with
 | var s=>simp[fv]
 | app a b=>exact wL (wL List.nodup_nil)
 | all s a=>exact wL List.nodup_nil
 | _=>exact List.nodup_nil
def mv:Tp->List Int
 | .mt n=>[n]
 | .app a b=>insAll no (insAll no [] (mv a)) (mv b)
 | .all _ a=>insAll no [] (mv a)
 | _=>[]
def fr:Tp->List ByteArray->List ByteArray->List ByteArray
 | .var s,g,out=>if memb s g || memb s out then out else out++[s]
 | .app a b,g,out=>fr b g (fr a g out)
 | .all s a,g,out=>fr a (g++[s]) out
 | _,_,out=>out
end Go.Proofs.YtebmimnglcdogaaGreatDoor.Ck
