/- A part of the proof of a given statement: contracts of functions of the program, under no condition but those that each states. -/
import Derived.Test.YtgonkhaebmfgiaaGreatDoorA
set_option linter.unusedSimpArgs false
set_option linter.unusedVariables false
namespace Go.Proofs.YtgonkhaebmfgiaaGreatDoor
open Go Fp
set_option maxRecDepth 100000
set_option maxHeartbeats 4000000
section
variable {α:Type} [DecidableEq α]
def ins (p:α->Bool) (out:List α) (s:α):List α:=if s∈out∨p s=true then out else out++[s]
def zC (p:α->Bool) (out l:List α):List α:=l.foldl (ins p) out
theorem zCV (p:α->Bool) (out:List α):zC p out []=out:=rfl
theorem jO (p:α->Bool) (out l:List α) (s:α):zC p out (s::l)=zC p (ins p out s) l:=rfl
theorem yE (p:α->Bool) (out l m:List α):zC p out (l++m)=zC p (zC p out l) m:=by simp[zC]
theorem zDD {p:α->Bool} {out l:List α} {k:Nat} (h:k<l.length):zC p out (l.take (k+1))=ins p (zC p out (l.take k)) l[k]:=by
 rw[List.take_succ_eq_append_getElem h,yE];rfl
theorem z0V (p:α->Bool) (out:List α) (s x:α) (h:x∈out):x∈ins p out s:=by
 unfold ins;split
 ·exact h
 ·exact List.mem_append_left _ h
theorem zKL (p:α->Bool) (l:List α):∀(out:List α) (x:α),x∈out->x∈zC p out l:=by
 induction l with
 | nil=>exact fun _ _ h=>h
 | cons s l ih=>exact fun out x h=>ih _ x (z0V p out s x h)
theorem zY8 {p:α->Bool} {out:List α} {s x:α}:x∈ins p out s↔x∈out∨(x=s/\p s=false):=by
 unfold ins;split<;>rename_i h
 ·constructor
  ·exact .inl
  ·rintro (h1|⟨rfl,h2⟩)
   ·exact h1
   ·rcases h with h|h
    ·exact h
    ·rw[h2] at h;cases h
 ·simp only[not_or,Bool.not_eq_true] at h;simp only[List.mem_append,List.mem_singleton];constructor
  ·rintro (h1|rfl)
   ·exact .inl h1
   ·exact .inr ⟨rfl,h.2⟩
  ·rintro (h1|⟨rfl,_⟩)
   ·exact .inl h1
   ·exact .inr rfl
theorem mem_insAll {p:α->Bool} {l:List α}:∀{out:List α} {x:α},x∈zC p out l↔x∈out∨(x∈l/\p x=false):=by
 induction l with
 | nil=>simp[zCV]
 | cons s l ih =>
  intro out x;rw[jO,ih,zY8];simp only[List.mem_cons];constructor
  ·rintro ((h|⟨rfl,h⟩)|⟨h1,h2⟩)
   ·exact .inl h
   ·exact .inr ⟨.inl rfl,h⟩
   ·exact .inr ⟨.inr h1,h2⟩
  ·rintro (h|⟨rfl|h1,h2⟩)
   ·exact .inl (.inl h)
   ·exact .inl (.inr ⟨rfl,h2⟩)
   ·exact .inr ⟨h1,h2⟩
theorem zQU (p:α->Bool) (out:List α) (s:α):(ins p out s).length<=out.length+1:=by
 unfold ins;split<;>simp
theorem zO (p:α->Bool) (l:List α):∀out:List α,(zC p out l).length<=out.length+l.length:=by
 induction l with
 | nil=>intro out;simp[zCV]
 | cons s l ih=>intro out;rw[jO];have:=ih (ins p out s);have:=zQU p out s;simp only[List.length_cons];omega
theorem zUC {p:α->Bool} {out:List α} {s:α} (h:out.Nodup):(ins p out s).Nodup:=by
 unfold ins;split<;>rename_i q
 ·exact h
 ·simp only[not_or] at q;exact List.nodup_append.2 ⟨h,by simp,by rintro a ha b hb rfl;simp at hb;subst hb;exact q.1 ha⟩
theorem qV {p:α->Bool} {l:List α}:∀{out:List α},out.Nodup->(zC p out l).Nodup:=by
 induction l with
 | nil=>exact id
 | cons s l ih=>exact fun h=>ih (zUC h)
def no:α->Bool:=fun _=>false
theorem y9 (p q r:α->Bool) (hr:∀s,r s=(p s || q s)) (l:List α):∀(out acc:List α),zC p out (zC q acc l)=zC r (zC p out acc) l:=by
 induction l with
 | nil=>exact fun _ _=>rfl
 | cons s l ih =>
  intro out acc;rw[jO,ih,jO]
  congr 1
  unfold ins;by_cases h1:s∈acc
  ·rw[if_pos (.inl h1)];cases hp:p s
   ·rw[if_pos (.inl (mem_insAll.2 (.inr ⟨h1,hp⟩)))]
   ·rw[if_pos (.inr (by rw[hr,hp];rfl))]
  ·cases hq:q s
   ·rw[if_neg (by simp[h1]),yE];show ins p _ s=_;unfold ins;rw[hr,hq,Bool.or_false]
   ·rw[if_pos (.inr rfl),if_pos (.inr (by rw[hr,hq];simp))]
theorem zOF {l:List α}:∀{out:List α},(out++l).Nodup->zC no out l=out++l:=by
 induction l with
 | nil=>intro out _;simp[zCV]
 | cons s l ih =>
  intro out h;have hs:s∉out:=fun hm=>by
   have:=(List.nodup_append.1 h).2.2 s hm s (by simp);exact this rfl
  rw[jO,ins,if_neg (by simp[hs,no]),ih (by simpa using h)];simp
end
def fv:Tp->List ByteArray
 | .var s=>[s]
 | .app a b=>zC no (zC no [] (fv a)) (fv b)
 | .all s a=>zC (fun x=>decide (x=s)) [] (fv a)
 | _=>[]
theorem zOU (t:Tp):(fv t).Nodup:=by
 cases t with
 | var s=>simp[fv]
 | app a b=>exact qV (qV List.nodup_nil)
 | all s a=>exact qV List.nodup_nil
 | _=>exact List.nodup_nil
theorem yU (t:Tp):(fv t).length<=t.sz:=by
 induction t with
 | app a b iha ihb =>
  have h1:=zO no (fv b) (zC no [] (fv a));have h2:=zO no (fv a) [];simp only[fv,Tp.sz];simp at h2;omega
 | all s a ih=>have h2:=zO (fun x=>decide (x=s)) (fv a) [];simp only[fv,Tp.sz];simp at h2;omega
 | _=>simp[fv,Tp.sz]
def mv:Tp->List Int
 | .mt n=>[n]
 | .app a b=>zC no (zC no [] (mv a)) (mv b)
 | .all _ a=>zC no [] (mv a)
 | _=>[]
def fr:Tp->List ByteArray->List ByteArray->List ByteArray
 | .var s,g,out=>if memb s g || memb s out then out else out++[s]
 | .app a b,g,out=>fr b g (fr a g out)
 | .all s a,g,out=>fr a (g++[s]) out
 | _,_,out=>out
def jQ (t:Tp):ByteArray->Bool:=fun x=>decide (t.form=5) && decide (x=t.nam)
def zFX (p:ByteArray->Bool) (l:List Tp):List ByteArray:=l.foldl (fun out a=>zC p out (fv a)) []
theorem zTO {p:ByteArray->Bool} {l:List Tp} {k:Nat} (h:k<l.length):zFX p (l.take (k+1))=zC p (zFX p (l.take k)) (fv l[k]):=by
 simp only[zFX,List.take_succ_eq_append_getElem h,List.foldl_append,List.foldl_cons,List.foldl_nil]
theorem z2A (t:Tp) (h:¬t.form=2):fv t=zFX (jQ t) t.args:=by
 cases t with
 | var s=>exact absurd rfl h
 | app a b =>
  have:jQ (.app a b)=no:=by funext x;simp[jQ,Tp.form,no]
  rw[this];rfl
 | all s a =>
  have:jQ (.all s a)=fun x=>decide (x=s):=by funext x;by_cases h:x=s<;>simp[jQ,Tp.form,Tp.nam,h]
  rw[this];rfl
 | _=>rfl
theorem zPA (p:ByteArray->Bool) (l:List Tp) (k:Nat) (h:l.length<=2) {N:Nat} (hN:∀a∈l,a.sz<=N):(zFX p (l.take k)).length<=2*N:=by
 match l,h with
 | [],_=>simp[zFX]
 | [a],_ =>
  have h1:=zO p (fv a) [];have:=yU a;have:=hN a (by simp);simp at h1
  match k with
  | 0=>simp[zFX]
  | k+1=>simp[zFX];omega
 | [a,b],_ =>
  have h1:=zO p (fv a) [];have h2:=zO p (fv b) (zC p [] (fv a));have:=yU a;have:=hN a (by simp);have:=yU b;have:=hN b (by simp);simp at h1
  match k with
  | 0=>simp[zFX]
  | 1=>simp[zFX];omega
  | k+2=>simp[zFX];omega
theorem zVV {t:Tp} {N:Nat} (h:t.sz<=N+1):∀a∈t.args,a.sz<=N:=by
 cases t<;>simp[Tp.args,Tp.sz] at h⊢<;>omega
theorem zVO (l:List ByteArray) (s:ByteArray):eSs l++[.lit (.string s)]=eSs (l++[s]):=by simp[eSs]
theorem zCU {p:ByteArray->Bool} {out:List ByteArray} {s:ByteArray} (h1:memb s out=false) (h2:p s=false):ins p out s=out++[s]:=by
 unfold ins;rw[if_neg];simp[h2];intro h;rw[zJ3 h] at h1;cases h1
theorem zCJ {p:ByteArray->Bool} {out:List ByteArray} {s:ByteArray} (h:memb s out=true∨p s=true):ins p out s=out:=by
 unfold ins;rw[if_pos];exact h.imp memb_iff.1 id
theorem zVD (N:Nat) (hN:N<1000000) (t:Tp) (hs:t.sz<=N+1) (ih:∀a∈t.args,zF Tryz.prog zCI [eTy a] (.sl (eSs (fv a)))):zF Tryz.prog zCI [eTy t] (.sl (eSs (fv t))):=by
 refine zH ttok mixed Tryz.func63 rfl (by rfl) (Nat.le_of_ble_eq_true rfl) (by kernel_rfl) ?_;refine⟨fun h=>?_,fun h=>?_⟩
 ·obtain⟨s,rfl⟩:=Tp.is_var (t:=t) (by simpa using h);exact rfl
 ·have hf:¬t.form=2:=by simpa using h
  rw[z2A t hf];have hlen:t.eArgs.length=t.args.length:=z5T t;have h2:=zSD t;refine⟨{k:Nat // k<=t.args.length},fun k=>{vs:=[(1,.box 0 (eTy t)),(3,.v (.sl (eSs (zFX (jQ t) (t.args.take k.1))))),(15,.v (.sl t.eArgs)),(16,.v (.lit (.int .i64 (t.eArgs.length:Nat)))),(17,.v (.lit (.int .i64 (k.1:Nat))))],ow:=[(3,0,2)]},
   fun k=>t.args.length-k.1,⟨0,Nat.zero_le _⟩,⟨⟨rfl,rfl,rfl,rfl,rfl,trivial⟩,⟨trivial,trivial⟩,rfl⟩,?_⟩
  rintro⟨k,hk⟩;refine⟨fun h=>?_,fun h=>?_⟩
  ·have h:k<t.args.length:=by simp[hlen] at h;omega
   refine⟨eTy t.args[k],by simp,by rw[t.eArgs_eq];exact z4Y h,rfl,?_⟩;refine .inl ⟨_,ih _ (List.getElem_mem h),?_⟩;obtain⟨out,hout⟩:∃out,out=zFX (jQ t) (t.args.take k):=⟨_,rfl⟩
   obtain⟨m,hm⟩:∃m,m=fv t.args[k]:=⟨_,rfl⟩
   rw[<-hout,<-hm];have hol:out.length<=2*N:=by rw[hout];exact zPA _ _ _ h2 (zVV hs)
   have hml:m.length<=N:=by rw[hm];exact Nat.le_trans (yU _) (zVV hs _ (List.getElem_mem h))
   have hlm:(eSs m).length=m.length:=by simp[eSs]
   refine⟨{j:Nat // j<=m.length},fun j=>{vs:=[(1,.box 0 (eTy t)),(3,.v (.sl (eSs (zC (jQ t) out (m.take j.1))))),(15,.v (.sl t.eArgs)),(16,.v (.lit (.int .i64 (t.eArgs.length:Nat)))),(17,.v (.lit (.int .i64 (k:Nat)))),(22,.v (.sl (eSs m))),(23,.v (.lit (.int .i64 ((eSs m).length:Nat)))),(24,.v (.lit (.int .i64 (j.1:Nat))))],ow:=[(3,0,2)]},
    fun j=>m.length-j.1,⟨0,Nat.zero_le _⟩,⟨⟨rfl,rfl,rfl,rfl,rfl,rfl,rfl,rfl,trivial⟩,⟨rfl,trivial⟩,rfl⟩,?_⟩
   rintro⟨j,hj⟩;refine⟨fun h3=>?_,fun h3=>?_⟩
   ·have h3:j<m.length:=by simp[hlm] at h3;omega
    have hacc:=zO (jQ t) (m.take j) out;have htk:=zDD (p:=jQ t) (out:=out) h3;refine⟨_,by omega,zNQ h3,rfl,?_⟩;simp only[List.length_take] at hacc;refine .inl ⟨_,yS (l:=zC (jQ t) out (m.take j)) (s:=m[j]) (by omega),?_⟩;have wj:IntKind.i64.wrap ((j:Int)+1)=((j+1:Nat):Int):=wrap_succ (by omega);have skip:∀(_:zC (jQ t) out (m.take (j+1))=zC (jQ t) out (m.take j)),AV.sl (eSs (zC (jQ t) out (m.take j)))=AV.sl (eSs (zC (jQ t) out (m.take (j+1)))):=fun e=>by rw[e]
    refine⟨fun hc=>?_,fun hc=>?_⟩
    ·have hc:memb m[j] (zC (jQ t) out (m.take j))=false:=by simpa using hc
     refine⟨fun h5=>?_,fun h5=>?_⟩
     ·refine⟨fun h6=>?_,fun h6=>?_⟩
      ·rw[zCU hc (by simp[jQ] at h5 h6⊢;simp[h6])] at htk;refine⟨by simp[eSs];omega,xU _,xU [_],?_⟩;refine⟨⟨j+1,h3⟩,(show m.length-(j+1)<m.length-j by omega),⟨rfl,?_,rfl,rfl,rfl,rfl,rfl,?_,trivial⟩,⟨rfl,trivial⟩,rfl⟩
       ·show SV.v (AV.sl (eSs (zC (jQ t) out (m.take j))++[AV.lit (.string m[j])]))=SV.v (AV.sl (eSs (zC (jQ t) out (m.take (j+1)))));rw[zVO,htk]
       ·exact congrArg (fun n=>SV.v (AV.lit (Value.int .i64 n))) wj
      ·rw[zCJ (.inr (by simp[jQ] at h5 h6⊢;simp[h5,h6]))] at htk;refine⟨⟨j+1,h3⟩,(show m.length-(j+1)<m.length-j by omega),⟨rfl,?_,rfl,rfl,rfl,rfl,rfl,?_,trivial⟩,⟨rfl,trivial⟩,rfl⟩
       ·exact congrArg SV.v (skip htk)
       ·exact congrArg (fun n=>SV.v (AV.lit (Value.int .i64 n))) wj
     ·rw[zCU hc (by simp[jQ] at h5⊢;simp[h5])] at htk;refine⟨by simp[eSs];omega,xU _,xU [_],?_⟩;refine⟨⟨j+1,h3⟩,(show m.length-(j+1)<m.length-j by omega),⟨rfl,?_,rfl,rfl,rfl,rfl,rfl,?_,trivial⟩,⟨rfl,trivial⟩,rfl⟩
      ·show SV.v (AV.sl (eSs (zC (jQ t) out (m.take j))++[AV.lit (.string m[j])]))=SV.v (AV.sl (eSs (zC (jQ t) out (m.take (j+1)))));rw[zVO,htk]
      ·exact congrArg (fun n=>SV.v (AV.lit (Value.int .i64 n))) wj
    ·have hc:memb m[j] (zC (jQ t) out (m.take j))=true:=by simpa using hc
     rw[zCJ (.inl hc)] at htk;refine⟨⟨j+1,h3⟩,(show m.length-(j+1)<m.length-j by omega),⟨rfl,?_,rfl,rfl,rfl,rfl,rfl,?_,trivial⟩,⟨rfl,trivial⟩,rfl⟩
     ·exact congrArg SV.v (skip htk)
     ·exact congrArg (fun n=>SV.v (AV.lit (Value.int .i64 n))) wj
   ·have h3:j=m.length:=by simp[hlm] at h3;omega
    subst h3;have e:zC (jQ t) out (m.take m.length)=zFX (jQ t) (t.args.take (k+1)):=by rw[List.take_length,zTO h,<-hout,<-hm]
    refine⟨⟨k+1,h⟩,(show t.args.length-(k+1)<t.args.length-k by omega),⟨rfl,?_,rfl,rfl,?_,trivial⟩,⟨rfl,trivial⟩,rfl⟩
    ·exact congrArg (fun l=>SV.v (AV.sl (eSs l))) e
    ·exact congrArg (fun n=>SV.v (AV.lit (Value.int .i64 n))) (wrap_succ (k:=k) (by omega))
  ·have h:k=t.args.length:=by simp[hlen] at h;omega
   subst h;rw[List.take_length];exact rfl
theorem zF9 (N:Nat) (hN:N<1000000):∀t:Tp,t.sz<=N->zF Tryz.prog zCI [eTy t] (.sl (eSs (fv t))):=by
 induction N with
 | zero=>intro t h;have:=zCH t;omega
 | succ N ih=>exact fun t h=>zVD N (by omega) t h fun a ha=>ih (by omega) a (zVV h a ha)
def size:Tp->Nat
 | .app a b=>size a+size b
 | .all _ a=>1+size a
 | _=>1
def digs (l:List UInt8):Nat:=l.foldl (fun v c=>10*v+(c.toNat-48)) 0
theorem zVC (l:List UInt8) (c:UInt8):digs (l++[c])=10*digs l+(c.toNat-48):=by simp[digs]
theorem zH9 (x:UInt8):(ByteArray.mk #[x]).data.toList=[x]:=rfl
theorem zM7 (a b:ByteArray):(a++b).data.toList=a.data.toList++b.data.toList:=by
 rw[show (a++b).data=a.data++b.data from ByteArray.data_append ..];simp
theorem zWP (n:Nat):digs (dcm n).data.toList=n:=by
 induction n using Nat.strongRecOn with
 | _ n ih =>
  by_cases h:n<10
  ·rw[wY h,zH9];simp[digs];omega
  ·rw[zFQ h,zM7,zH9,zVC,ih (n / 10) (by omega)];simp;omega
theorem z3T (n:Nat):0<(dcm n).data.toList.length:=by
 by_cases h:n<10
 ·rw[wY h];simp
 ·rw[zFQ h,zM7];simp
def deco (s:ByteArray):Nat:=match s.data.toList with
 | []=>0
 | [c]=>c.toNat-97
 | c::r=>26*digs r+(c.toNat-97)
theorem zGX (n:Nat):deco (lett n)=n:=by
 unfold lett;split
 ·rename_i h;unfold deco;rw[zH9];simp;omega
 ·rename_i h;have hd:=zWP (n / 26);have hn:=z3T (n / 26);unfold deco;rw[zM7,zH9];cases hr:(dcm (n / 26)).data.toList with
  | nil=>rw[hr] at hn;simp at hn
  | cons x r =>
   rw[hr] at hd;show 26*digs (x::r)+_=_;rw[hd];simp;omega
theorem zOG {a b:Nat} (h:lett a=lett b):a=b:=by rw[<-zGX a,h,zGX]
theorem zEB {α:Type} [DecidableEq α]:∀(l m:List α),l.Nodup->(∀x∈l,x∈m)->l.length<=m.length
 | [],_,_,_=>by simp
 | x::l,m,hn,hs=>by
  have hx:=hs x (by simp);have:=zEB l (m.erase x) (List.nodup_cons.1 hn).2 (fun y hy=>(List.mem_erase_of_ne (fun e:y=x=>(List.nodup_cons.1 hn).1 (e ▸ hy))).2 (hs y (by simp[hy])));have:=List.length_erase_of_mem hx;have:0<m.length:=List.length_pos_of_mem hx;simp only[List.length_cons];omega
theorem least (p:Nat->Prop) (n:Nat) (h:p n):∃k,p k/\(∀j,j<k->¬p j)/\k<=n:=by
 induction n using Nat.strongRecOn with
 | _ n ih =>
  by_cases hx:∃j,j<n/\p j
  ·obtain⟨j,hj,hp⟩:=hx;obtain⟨k,h1,h2,h3⟩:=ih j hj hp;exact⟨k,h1,h2,by omega⟩
  ·exact⟨n,h,fun j hj hp=>hx ⟨j,hj,hp⟩,Nat.le_refl _⟩
theorem zZN (l:List ByteArray):∀s∈l,deco s<=(l.map deco).sum:=by
 induction l with
 | nil=>simp
 | cons x l ih =>
  intro s hs;simp only[List.map_cons,List.sum_cons];rcases List.mem_cons.1 hs with rfl|h
  ·omega
  ·have:=ih s h;omega
theorem zXW (l:List ByteArray):∃n,lett n∉l/\(∀j,j<n->lett j∈l):=by
 obtain⟨k,h1,h2,_⟩:=least (fun n=>lett n∉l) ((l.map deco).sum+1) (fun hm=>by have:=zZN l _ hm;rw[zGX] at this;omega);exact⟨k,h1,fun j hj=>Classical.not_not.1 (h2 j hj)⟩
noncomputable def ff (l:List ByteArray):Nat:=(zXW l).choose
theorem zN7 (l:List ByteArray):lett (ff l)∉l:=(zXW l).choose_spec.1
theorem zJ2 (l:List ByteArray):∀j,j<ff l->lett j∈l:=(zXW l).choose_spec.2
theorem zE5 (l:List ByteArray):ff l<=l.length:=by
 have:=zEB ((List.range (ff l)).map lett) l (by
  rw[List.nodup_iff_pairwise_ne] at *;refine List.pairwise_map.2 (List.Pairwise.imp (fun h e=>h (zOG e)) (List.nodup_range)))
  (fun x hx=>by obtain⟨j,hj,rfl⟩:=List.mem_map.1 hx;exact zJ2 l j (by simpa using hj))
 simpa using this
def Low (K:Nat) (s:ByteArray):Prop := ∃n,n<K/\lett n=s
theorem Low.mono {K L:Nat} {s:ByteArray} (h:Low K s) (hl:K<=L):Low L s:=let ⟨n,h1,h2⟩:=h;⟨n,by omega,h2⟩
theorem zW3 {K:Nat} {l:List ByteArray} (h:∀s∈l,Low K s):ff l<=K:=by
 rcases Nat.lt_or_ge K (ff l) with q|q
 ·obtain⟨n,h1,h2⟩:=h _ (zJ2 l K q);have:=zOG h2;omega
 ·exact q
theorem z04 {K:Nat} {l:List ByteArray} (hn:l.Nodup) (h:∀s∈l,Low K s):l.length<=K:=by
 have:=zEB l ((List.range K).map lett) hn (fun x hx=>by obtain⟨n,h1,rfl⟩:=h x hx;exact List.mem_map.2 ⟨n,by simpa using h1,rfl⟩);simpa using this
theorem zUO {K:Nat} {l:List ByteArray} (hK:K<2600) (h:∀s∈l,Low K s) (hl:l.length<1000000000):zF Tryz.prog zJM [.sl (eSs l)] (.lit (.string (lett (ff l)))):=by
 have hf:=zW3 h;have hfl:=zE5 l;refine zH ttok mixed Tryz.func130 rfl (by rfl) (Nat.le_of_ble_eq_true rfl) (by kernel_rfl) ?_;have e1:IntKind.i64.wrap (((eSs l).length:Nat)+1)=((l.length+1:Nat):Int):=by rw[show (eSs l).length=l.length by simp[eSs]];exact wrap_succ (by omega)
 refine⟨{k:Nat // k<=ff l},fun k=>{vs:=[(0,.v (.sl (eSs l))),(7,.v (.lit (.int .i64 ((l.length+1:Nat):Int)))),(8,.v (.lit (.int .i64 (k.1:Nat))))],ow:=[]},
  fun k=>ff l-k.1,⟨0,Nat.zero_le _⟩,⟨⟨rfl,congrArg (fun n=>SV.v (AV.lit (Value.int .i64 n))) e1,rfl,trivial⟩,trivial,rfl⟩,?_⟩
 rintro⟨k,hk⟩;refine⟨fun h3=>?_,fun h3=>by simp at h3;omega⟩;refine .inl ⟨_,zEU (n:=k) (by omega),?_⟩;refine .inl ⟨_,yS (l:=l) (s:=lett k) (by omega),?_⟩;refine⟨fun h4=>?_,fun h4=>?_⟩
 ·have h4:lett k∉l:=fun hm=>by rw[zJ3 hm] at h4;cases h4
  have:k=ff l:=by
   rcases Nat.lt_or_ge k (ff l) with q|q
   ·exact absurd (zJ2 l k q) h4
   ·omega
  subst this;exact rfl
 ·have h4:lett k∈l:=memb_iff.1 (by simpa using h4);have:k≠ff l:=fun e=>zN7 l (e ▸ h4);refine⟨⟨k+1,by omega⟩,(show ff l-(k+1)<ff l-k by omega),⟨rfl,rfl,?_,trivial⟩,trivial,rfl⟩;exact congrArg (fun n=>SV.v (AV.lit (Value.int .i64 n))) (wrap_succ (k:=k) (by omega))
abbrev Env':=List (ByteArray×Tp)
def look (x:ByteArray):Env'->Option Tp
 | []=>none
 | (s,t)::r=>if s=x then some t else look x r
def kept (s:ByteArray) (own:List ByteArray) (ps:Env'):Env':=ps.filter fun p=>decide (p.1≠s) && memb p.1 own
def caught (ps:Env'):List ByteArray:=ps.flatMap fun p=>fv p.2
noncomputable def sub:Tp->Env'->Tp
 | .var x,ps=>(look x ps).getD (.var x)
 | .app a b,ps => .app (sub a ps) (sub b ps)
 | .all s a,ps=>if memb s (caught (kept s (fv a) ps)) then .all (lett (ff (caught (kept s (fv a) ps)++fv a))) (sub a (kept s (fv a) ps++[(s,.var (lett (ff (caught (kept s (fv a) ps)++fv a))))]))
   else .all s (sub a (kept s (fv a) ps))
 | t,_=>t
def LowT (K:Nat):Tp->Prop
 | .app a b=>LowT K a/\LowT K b
 | .all s a=>Low K s/\LowT K a
 | .var s=>Low K s
 | _=>True
theorem LowT.mono {K L:Nat}:∀{t:Tp},LowT K t->K<=L->LowT L t
 | .app _ _,h,hl=>⟨LowT.mono h.1 hl,LowT.mono h.2 hl⟩
 | .all _ _,h,hl=>⟨Low.mono h.1 hl,LowT.mono h.2 hl⟩
 | .var _,h,hl=>Low.mono h hl
 | .con _,_,_=>trivial
 | .mt _,_,_=>trivial
 | .no,_,_=>trivial
def dp:Tp->Nat
 | .app a b=>max (dp a) (dp b)
 | .all _ a=>dp a+1
 | _=>0
theorem z1M (t:Tp):dp t<=t.sz:=by
 induction t with
 | app a b iha ihb=>simp only[dp,Tp.sz];omega
 | all s a ih=>simp only[dp,Tp.sz];omega
 | _=>simp[dp]
theorem zM2 {K:Nat} {t:Tp} (h:LowT K t):∀s∈fv t,Low K s:=by
 induction t with
 | var x=>intro s hs;simp[fv] at hs;subst hs;exact h
 | app a b iha ihb =>
  intro s hs;simp only[fv] at hs;rcases mem_insAll.1 hs with h1|⟨h1,_⟩
  ·rcases mem_insAll.1 h1 with h2|⟨h2,_⟩
   ·simp at h2
   ·exact iha h.1 s h2
  ·exact ihb h.2 s h1
 | all x a ih =>
  intro s hs;simp only[fv] at hs;rcases mem_insAll.1 hs with h1|⟨h1,_⟩
  ·simp at h1
  ·exact ih h.2 s h1
 | _=>intro s hs;simp[fv] at hs
theorem zVW {x:ByteArray} {ps:Env'} {t:Tp} (h:look x ps=some t):(x,t)∈ps:=by
 induction ps with
 | nil=>cases h
 | cons p r ih =>
  obtain⟨s,u⟩:=p;simp only[look] at h;split at h
  ·rename_i e;subst e;injection h with h;subst h;simp
  ·exact List.mem_cons_of_mem _ (ih h)
theorem zYK {α:Type} [DecidableEq α] {s x:α} {l:List α} (h:s≠x) (hm:x∈l):ixI (s::l) x=ixI l x+1:=by
 rw[ixI,ixI,if_pos hm,if_pos (List.mem_cons_of_mem _ hm),List.idxOf_cons,show (s == x)=false from beq_eq_false_iff_ne.2 h]
 rfl
theorem zR2 {x:ByteArray}:∀{ps:Env'},(look x ps=none/\x∉ps.map (·.1))∨(∃k:Nat,∃h:k<ps.length,ixI (ps.map (·.1)) x=(k:Nat)/\look x ps=some ps[k].2)
 | [] => .inl ⟨rfl,by simp⟩
 | (s,t)::r=>by
  by_cases hs:s=x
  ·subst hs;exact .inr ⟨0,by simp,by simp[ixI],by simp[look]⟩
  ·rcases zR2 (x:=x) (ps:=r) with⟨h1,h2⟩|⟨k,hk,h1,h2⟩
   ·exact .inl ⟨by simp[look,hs,h1],fun hm=>by rcases List.mem_cons.1 hm with e|e;exact hs e.symm;exact h2 e⟩
   ·refine .inr ⟨k+1,by simpa using hk,?_,by simp[look,hs,h2]⟩;have hm:x∈r.map (·.1):=by
     by_cases hm:x∈r.map (·.1)
     ·exact hm
     ·rw[zMY hm] at h1;omega
    show ixI (s::r.map (·.1)) x=_;rw[zYK hs hm,h1];rfl
structure Fit (K:Nat) (t:Tp) (ps:Env'):Prop where
 low:LowT K t
 lows:∀p∈ps,LowT K p.2
 room:K+dp t<2600
 many:ps.length+dp t<5000
 sz:t.sz<1000000
 szs:∀p∈ps,p.2.sz<1000000
theorem zBR {s:ByteArray} {own:List ByteArray} {ps:Env'} {p:ByteArray×Tp} (h:p∈kept s own ps):p∈ps:=(List.mem_filter.1 h).1
theorem zA8 (s:ByteArray) (own:List ByteArray) (ps:Env'):(kept s own ps).length<=ps.length:=List.length_filter_le _ _
theorem zJK {K:Nat} {ps:Env'} (h:∀p∈ps,LowT K p.2):∀s∈caught ps,Low K s:=fun s hs=>by
 obtain⟨p,hp,hs⟩:=List.mem_flatMap.1 hs;exact zM2 (h p hp) s hs
theorem zEP {K:Nat}:∀{ps:Env'},(∀p∈ps,LowT K p.2)->(caught ps).length<=K*ps.length
 | [],_=>by simp[caught]
 | p::r,h=>by
  have h1:=zEP (ps:=r) (fun q hq=>h q (by simp[hq]));have h2:=z04 (zOU p.2) (zM2 (h p (by simp)));have:caught (p::r)=fv p.2++caught r:=rfl;rw[this,List.length_append,List.length_cons,Nat.mul_succ];omega
theorem Fit.app {K:Nat} {a b:Tp} {ps:Env'} (h:Fit K (.app a b) ps):Fit K a ps/\Fit K b ps:=by
 obtain⟨h1,h2,h3,h4,h5,h6⟩:=h;simp only[dp,Tp.sz] at h3 h4 h5;exact⟨⟨h1.1,h2,by omega,by omega,by omega,h6⟩,⟨h1.2,h2,by omega,by omega,by omega,h6⟩⟩
theorem Fit.all0 {K:Nat} {a:Tp} {s:ByteArray} {ps:Env'} (h:Fit K (.all s a) ps):Fit K a (kept s (fv a) ps):=by
 obtain⟨h1,h2,h3,h4,h5,h6⟩:=h;simp only[dp,Tp.sz] at h3 h4 h5;have:=zA8 s (fv a) ps;exact⟨h1.2,fun p hp=>h2 p (zBR hp),by omega,by omega,by omega,fun p hp=>h6 p (zBR hp)⟩
theorem Fit.all1 {K:Nat} {a:Tp} {s:ByteArray} {ps:Env'} (h:Fit K (.all s a) ps):ff (caught (kept s (fv a) ps)++fv a)<=K/\Fit (K+1) a (kept s (fv a) ps++[(s,.var (lett (ff (caught (kept s (fv a) ps)++fv a))))]):=by
 have h0:=h.all0;have hff:ff (caught (kept s (fv a) ps)++fv a)<=K:=zW3 fun x hx=>by
  rcases List.mem_append.1 hx with hx|hx
  ·exact zJK h0.lows x hx
  ·exact zM2 h0.low x hx
 refine⟨hff,?_⟩;obtain⟨h1,h2,h3,h4,h5,h6⟩:=h;simp only[dp,Tp.sz] at h3 h4 h5;have:=zA8 s (fv a) ps;refine⟨h1.2.mono (by omega),fun p hp=>?_,by omega,by simp;omega,by omega,fun p hp=>?_⟩
 ·rcases List.mem_append.1 hp with hp|hp
  ·exact (h2 p (zBR hp)).mono (by omega)
  ·simp at hp;subst hp;exact⟨_,by omega,rfl⟩
 ·rcases List.mem_append.1 hp with hp|hp
  ·exact h6 p (zBR hp)
  ·simp at hp;subst hp;simp[Tp.sz]
set_option maxHeartbeats 8000000
def eN (ps:Env'):List AV:=eSs (ps.map (·.1))
def eB (ps:Env'):List AV:=zDK (ps.map (·.2))
theorem zD2 (ps:Env'):(eN ps).length=ps.length:=by simp[eN,eSs]
theorem zLJ (ps:Env'):(eB ps).length=ps.length:=by simp[eB,zDK]
theorem zSL (ps:Env') (s:ByteArray) (t:Tp):eN ps++[.lit (.string s)]=eN (ps++[(s,t)]):=by simp[eN,eSs]
theorem zSE (ps:Env') (s:ByteArray) (t:Tp):eB ps++[eTy t]=eB (ps++[(s,t)]):=by simp[eB,zDK]
theorem z2C {ps:Env'} {k:Nat} (h:k<ps.length):(eN ps)[k]? = some (.lit (.string ps[k].1)):=by simp[eN,eSs,h]
theorem zQV {ps:Env'} {k:Nat} (h:k<ps.length):(eB ps)[k]? = some (eTy ps[k].2):=by simp[eB,zDK,h]
theorem z5O (ps:Env'):Uni 1 (eN ps):=xU _
theorem z4X (ps:Env'):Uni 4 (eB ps):=zVX _
theorem zTS {s:ByteArray} {own:List ByteArray} {ps:Env'} {k:Nat} (h:k<ps.length):kept s own (ps.take (k+1))=kept s own (ps.take k)++(if decide (ps[k].1≠s) && memb ps[k].1 own then [ps[k]] else []):=by
 rw[List.take_succ_eq_append_getElem h];unfold kept;rw[List.filter_append];simp[List.filter_cons]
theorem zON (ps:Env') (p:ByteArray×Tp):caught (ps++[p])=caught ps++fv p.2:=by simp[caught]
theorem zYP (l m:List ByteArray):eSs l++eSs m=eSs (l++m):=by simp[eSs]
abbrev jD (t:Tp) (ps:Env'):Prop:=zF Tryz.prog zKV [eTy t,.sl (eN ps),.sl (eB ps)] (eTy (sub t ps))
theorem zWD {K : Nat} {s : ByteArray} {a : Tp} {ps : Env'} (hf : Fit K (.all s a) ps) (ih : ∀ (K : Nat) (ps : Env'), Fit K a ps -> jD a ps) :
    zF Tryz.prog zKX [eTy (.all s a), .sl (eN ps), .sl (eB ps)] (eTy (sub (.all s a) ps)) := by
  have h0 := hf.all0;have h1 := hf.all1;obtain ⟨_, hlows, hroom, hmany, hsz, hszs⟩ := hf;simp only [Tp.sz, dp] at hroom hmany hsz;refine zH ttok mixed Tryz.func90 rfl (by rfl) (Nat.le_of_ble_eq_true rfl) (by kernel_rfl) ?_;refine ⟨_, by decide, rfl, rfl, ?_⟩;refine .inl ⟨_, zF9 a.sz (by omega) a (Nat.le_refl _), ?_⟩
  refine ⟨{k : Nat // k <= ps.length}, fun k => { vs := [(2, .v (.sl (eB ps))), (3, .box 0 (eTy (.all s a))), (6, .box 0 (eTy .no)), (7, .box 0 (eTy a)), (8, .v (.sl (eSs (fv a)))), (9, .v (.sl (eN (kept s (fv a) (ps.take k.1))))), (10, .v (.sl (eB (kept s (fv a) (ps.take k.1))))), (11, .v (.sl (eSs (caught (kept s (fv a) (ps.take k.1)))))),
      (21, .v (.sl (eN ps))), (22, .v (.lit (.int .i64 ((eN ps).length : Nat)))), (23, .v (.lit (.int .i64 (k.1 : Nat))))], ow := [(9, 0, 2), (10, 0, 5), (11, 0, 2)] },
    fun k => ps.length - k.1, ⟨0, Nat.zero_le _⟩, ⟨⟨rfl, rfl, rfl, rfl, rfl, rfl, rfl, rfl, rfl, rfl, rfl, trivial⟩, ⟨trivial, trivial, trivial, trivial⟩, rfl⟩, ?_⟩
  rintro ⟨k, hk⟩;have hkl : (kept s (fv a) (ps.take k)).length <= k := by
    have := zA8 s (fv a) (ps.take k);simp at this; omega
  have hcl : (caught (kept s (fv a) (ps.take k))).length <= K * (kept s (fv a) (ps.take k)).length := zEP fun p hp => hlows p (List.mem_of_mem_take (zBR hp));have hfl : (fv a).length <= a.sz := yU a;have hK1 : K * (kept s (fv a) (ps.take k)).length <= 2600 * 5000 := Nat.mul_le_mul (by omega) (by omega);have wk' : k < ps.length -> IntKind.i64.wrap ((k : Int) + 1) = ((k + 1 : Nat) : Int) := fun _ => wrap_succ (by omega);refine ⟨fun h => ?_, fun h => ?_⟩
  · have h : k < ps.length := by simp [zD2] at h; omega
    have wk' := wk' h;have ht := zTS (s := s) (own := fv a) h;refine ⟨_, by omega, z2C h, rfl, ?_⟩;refine ⟨fun h3 => ?_, fun h3 => ?_⟩
    · refine .inl ⟨_, yS (l := fv a) (s := ps[k].1) (by omega), ?_⟩
      refine ⟨fun h4 => ?_, fun h4 => ?_⟩
      · rw [if_pos (by
          have h5 : ¬ ps[k].1 = s := fun e => by
            have h3' : (!decide (ps[k].1 = s)) = true := h3;rw [decide_eq_true e] at h3'; cases h3'
          rw [h4, decide_eq_true (p := ps[k].1 ≠ s) h5]; rfl)] at ht
        refine ⟨by simp [zD2]; omega, z5O _, xU [_], ?_⟩;refine ⟨_, by omega, zQV h, rfl, ?_⟩;refine ⟨by simp [zLJ]; omega, z4X _, zVX [_], ?_⟩;refine ⟨_, by omega, zQV h, rfl, ?_⟩;have hlt := hszs _ (List.getElem_mem h);have hfk : (fv ps[k].2).length <= ps[k].2.sz := yU _;refine .inl ⟨_, zF9 ps[k].2.sz (by omega) ps[k].2 (Nat.le_refl _), ?_⟩;refine ⟨by simp [eSs]; omega, xU _, xU _, ?_⟩;refine ⟨⟨k + 1, h⟩, (show ps.length - (k + 1) < ps.length - k by omega), ⟨rfl, rfl, rfl, rfl, rfl, ?_, ?_, ?_, rfl, rfl, ?_, trivial⟩, ⟨rfl, rfl, rfl, trivial⟩, rfl⟩
        · rw [ht]; exact congrArg (fun l => SV.v (AV.sl l)) (zSL _ ps[k].1 ps[k].2)
        · rw [ht]; exact congrArg (fun l => SV.v (AV.sl l)) (zSE _ ps[k].1 ps[k].2)
        · rw [ht, zON]; exact congrArg (fun l => SV.v (AV.sl l)) (zYP _ _)
        · exact congrArg (fun n => SV.v (AV.lit (Value.int .i64 n))) wk'
      · rw [if_neg (by rw [h4]; simp), List.append_nil] at ht
        refine ⟨⟨k + 1, h⟩, (show ps.length - (k + 1) < ps.length - k by omega), ⟨rfl, rfl, rfl, rfl, rfl, ?_, ?_, ?_, rfl, rfl, ?_, trivial⟩, ⟨rfl, rfl, rfl, trivial⟩, rfl⟩
        · rw [ht]; rfl
        · rw [ht]; rfl
        · rw [ht]; rfl
        · exact congrArg (fun n => SV.v (AV.lit (Value.int .i64 n))) wk'
    · rw [if_neg (by
        have h5 : ps[k].1 = s := Classical.byContradiction fun e => by
          have h3' : (!decide (ps[k].1 = s)) = false := h3;rw [decide_eq_false e] at h3'; cases h3'
        rw [decide_eq_false (p := ps[k].1 ≠ s) (fun h => h h5)]; simp), List.append_nil] at ht
      refine ⟨⟨k + 1, h⟩, (show ps.length - (k + 1) < ps.length - k by omega), ⟨rfl, rfl, rfl, rfl, rfl, ?_, ?_, ?_, rfl, rfl, ?_, trivial⟩, ⟨rfl, rfl, rfl, trivial⟩, rfl⟩
      · rw [ht]; rfl
      · rw [ht]; rfl
      · rw [ht]; rfl
      · exact congrArg (fun n => SV.v (AV.lit (Value.int .i64 n))) wk'
  · have h : k = ps.length := by simp [zD2] at h; omega
    subst h;simp only [List.take_length] at hkl hcl hK1 ⊢;obtain ⟨q, hq⟩ : ∃ q, q = kept s (fv a) ps := ⟨_, rfl⟩
    rw [<- hq] at hkl hcl hK1 h0 h1 ⊢;refine .inl ⟨_, yS (l := caught q) (s := s) (by omega), ?_⟩;have hlo : ∀ x ∈ caught q ++ fv a, Low K x := fun x hx => by
      rcases List.mem_append.1 hx with hx | hx
      · exact zJK h0.lows x hx
      · exact zM2 h0.low x hx
    refine ⟨fun h3 => ?_, fun h3 => ?_⟩
    · obtain ⟨z, hz⟩ : ∃ z, z = lett (ff (caught q ++ fv a)) := ⟨_, rfl⟩
      have es : sub (.all s a) ps = .all z (sub a (q ++ [(s, .var z)])) := by rw [sub, <- hq, if_pos h3, <- hz]
      rw [es];have hl := zUO (l := caught q ++ fv a) (K := K) (by omega) hlo (by simp; omega);rw [<- hz] at hl h1;rw [<- zYP] at hl;have hi := ih (K + 1) _ h1.2;unfold jD at hi;rw [<- zSL, <- zSE] at hi;refine ⟨by simp [eSs]; omega, xU _, xU _, ?_⟩;refine .inl ⟨_, hl, ?_⟩;refine ⟨by simp [zD2]; omega, z5O _, xU [_], ?_⟩;refine .inl ⟨_, zRO z, ?_⟩;refine ⟨by simp [zLJ]; omega, z4X _, zVX [_], ?_⟩;refine .inl ⟨_, hi, ?_⟩;refine .inl ⟨_, zY2 z _, ?_⟩;exact rfl
    · have es : sub (.all s a) ps = .all s (sub a q) := by rw [sub, <- hq, if_neg (by rw [h3]; simp)]
      rw [es];refine .inl ⟨_, ih K q h0, ?_⟩;refine .inl ⟨_, zY2 s _, ?_⟩;exact rfl
theorem zOM (N:Nat):∀(t:Tp),t.sz<=N->∀(K:Nat) (ps:Env'),Fit K t ps->jD t ps:=by
 induction N with
 | zero=>intro t h;have:=zCH t;omega
 | succ N ih =>
  intro t h K ps hf;have fin:∀t:Tp,¬t.form=2->¬t.form=4->¬t.form=5->jD t ps:=fun t h2 h4 h5=>by
   have es:sub t ps=t:=by cases t<;>first|rfl|exact absurd rfl h2|exact absurd rfl h4|exact absurd rfl h5
   unfold jD;rw[es];refine zH ttok mixed Tryz.func39 rfl (by rfl) (Nat.le_of_ble_eq_true rfl) (by kernel_rfl) ?_;refine⟨fun h=>absurd (by simpa using h) h2,fun _=>?_⟩;refine⟨fun h=>absurd (by simpa using h) h4,fun _=>?_⟩;refine⟨fun h=>absurd (by simpa using h) h5,fun _=>?_⟩;refine .inl ⟨_,zNX t,?_⟩;exact rfl
  cases t with
  | no=>exact fin _ (by decide) (by decide) (by decide)
  | mt n=>exact fin _ (by simp[Tp.form]) (by simp[Tp.form]) (by simp[Tp.form])
  | con s=>exact fin _ (by simp[Tp.form]) (by simp[Tp.form]) (by simp[Tp.form])
  | var x =>
   refine zH ttok mixed Tryz.func39 rfl (by rfl) (Nat.le_of_ble_eq_true rfl) (by kernel_rfl) ?_;have hm:=hf.many;refine⟨fun _=>?_,fun h=>(by cases h)⟩;refine .inl ⟨_,zOB (l:=ps.map (fun p:ByteArray×Tp=>p.1)) (s:=x) (by simp;omega),?_⟩;rcases zR2 (x:=x) (ps:=ps) with⟨h1,h2⟩|⟨k,hk,h1,h2⟩
   ·have es:sub (.var x) ps = .var x:=by simp[sub,h1]
    rw[es,zMY h2];refine⟨fun h=>(by cases h),fun _=>?_⟩;refine .inl ⟨_,zNX (.var x),?_⟩;exact rfl
   ·have es:sub (.var x) ps=ps[k].2:=by simp[sub,h2]
    rw[es,h1];refine⟨fun _=>?_,fun h=>(by simp at h)⟩;refine⟨_,by omega,zQV hk,rfl,?_⟩;refine .inl ⟨_,zNX _,?_⟩;exact rfl
  | app a b =>
   simp only[Tp.sz] at h;refine zH ttok mixed Tryz.func39 rfl (by rfl) (Nat.le_of_ble_eq_true rfl) (by kernel_rfl) ?_;refine⟨fun h=>(by cases h),fun _=>?_⟩;refine⟨fun _=>?_,fun h=>(by cases h)⟩;refine⟨_,by decide,rfl,rfl,?_⟩;refine .inl ⟨_,ih a (by omega) K ps hf.app.1,?_⟩;refine⟨_,by decide,rfl,rfl,?_⟩;refine .inl ⟨_,ih b (by omega) K ps hf.app.2,?_⟩;refine .inl ⟨_,zX4 _ _,?_⟩;exact rfl
  | all s a =>
   simp only[Tp.sz] at h;refine zH ttok mixed Tryz.func39 rfl (by rfl) (Nat.le_of_ble_eq_true rfl) (by kernel_rfl) ?_;refine⟨fun h=>(by cases h),fun _=>?_⟩;refine⟨fun h=>(by cases h),fun _=>?_⟩;refine⟨fun _=>?_,fun h=>(by cases h)⟩;refine .inl ⟨_,zWD hf (fun K ps hf=>ih a (by omega) K ps hf),?_⟩;exact rfl
end Go.Proofs.YtgonkhaebmfgiaaGreatDoor
