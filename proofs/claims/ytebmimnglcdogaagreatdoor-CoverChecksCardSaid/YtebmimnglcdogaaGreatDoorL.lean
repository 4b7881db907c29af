/- A part of the proof of a given statement: contracts of functions of the program, under no condition but those that each states. -/
import Derived.Test.YtebmimnglcdogaaGreatDoorK
import Derived.Test.YtebmimnglcdogaaGreatDoorFpE
set_option linter.unusedSimpArgs false
set_option linter.unusedVariables false
namespace Go.Proofs.YtebmimnglcdogaaGreatDoor.Ck
open Go Fp
set_option maxRecDepth 100000
set_option maxHeartbeats 4000000
def size:Tp->Nat
 | .app a b=>size a+size b
 | .all _ a=>1+size a
 | _=>1
def digs (l:List UInt8):Nat:=l.foldl (fun v c=>10*v+(c.toNat-48)) 0
theorem zWL (l:List UInt8) (c:UInt8):digs (l++[c])=10*digs l+(c.toNat-48):=by simp[digs]
theorem zH9 (x:UInt8):(ByteArray.mk #[x]).data.toList=[x]:=rfl
theorem zS9 (a b:ByteArray):(a++b).data.toList=a.data.toList++b.data.toList:=by
 rw[show (a++b).data=a.data++b.data from ByteArray.data_append ..];simp
theorem zZ5 (n:Nat):digs (dcm n).data.toList=n:=by
 induction n using Nat.strongRecOn with
 | _ n ih =>
  by_cases h:n<10
  ·rw[zBO h,zH9];simp[digs];omega
  ·rw[zIJ h,zS9,zH9,zWL,ih (n / 10) (by omega)];simp;omega
theorem z4C (n:Nat):0<(dcm n).data.toList.length:=by
 by_cases h:n<10
 ·rw[zBO h];simp
 ·rw[zIJ h,zS9];simp
def deco (s:ByteArray):Nat:=match s.data.toList with
 | []=>0
 | [c]=>c.toNat-97
 | c::r=>26*digs r+(c.toNat-97)
theorem zG2 (n:Nat):deco (lett n)=n:=by
 unfold lett;split
 ·rename_i h;unfold deco;rw[zH9];simp;omega
 ·rename_i h;have hd:=zZ5 (n / 26);have hn:=z4C (n / 26);unfold deco;rw[zS9,zH9];cases hr:(dcm (n / 26)).data.toList with
  | nil=>rw[hr] at hn;simp at hn
  | cons x r =>
   rw[hr] at hd;show 26*digs (x::r)+_=_;rw[hd];simp;omega
theorem zPI {a b:Nat} (h:lett a=lett b):a=b:=by rw[<-zG2 a,h,zG2]
theorem qI {α:Type} [DecidableEq α]:∀(l m:List α),l.Nodup->(∀x∈l,x∈m)->l.length<=m.length
 | [],_,_,_=>by simp
 | x::l,m,hn,hs=>by
  have hx:=hs x (by simp);have:=qI l (m.erase x) (List.nodup_cons.1 hn).2 (fun y hy=>(List.mem_erase_of_ne (fun e:y=x=>(List.nodup_cons.1 hn).1 (e ▸ hy))).2 (hs y (by simp[hy])));have:=List.length_erase_of_mem hx;have:0<m.length:=List.length_pos_of_mem hx;simp only[List.length_cons];omega
theorem least (p:Nat->Prop) (n:Nat) (h:p n):∃k,p k/\(∀j,j<k->¬p j)/\k<=n:=by
 induction n using Nat.strongRecOn with
 | _ n ih =>
  by_cases hx:∃j,j<n/\p j
  ·obtain⟨j,hj,hp⟩:=hx;obtain⟨k,h1,h2,h3⟩:=ih j hj hp;exact⟨k,h1,h2,by omega⟩
  ·exact⟨n,h,fun j hj hp=>hx ⟨j,hj,hp⟩,Nat.le_refl _⟩
theorem z2B (l:List ByteArray):∀s∈l,deco s<=(l.map deco).sum:=by
 induction l with
 | nil=>simp
 | cons x l ih =>
  intro s hs;simp only[List.map_cons,List.sum_cons];rcases List.mem_cons.1 hs with rfl|h
  ·omega
  ·have:=ih s h;omega
theorem zXT (l:List ByteArray):∃n,lett n∉l/\(∀j,j<n->lett j∈l):=by
 obtain⟨k,h1,h2,_⟩:=least (fun n=>lett n∉l) ((l.map deco).sum+1) (fun hm=>by have:=z2B l _ hm;rw[zG2] at this;omega);exact⟨k,h1,fun j hj=>Classical.not_not.1 (h2 j hj)⟩
noncomputable def ff (l:List ByteArray):Nat:=(zXT l).choose
theorem z3C (l:List ByteArray):lett (ff l)∉l:=(zXT l).choose_spec.1
theorem zSG (l:List ByteArray):∀j,j<ff l->lett j∈l:=(zXT l).choose_spec.2
theorem z3U (l:List ByteArray):ff l<=l.length:=by
 have:=qI ((List.range (ff l)).map lett) l (by
  rw[List.nodup_iff_pairwise_ne] at *;refine List.pairwise_map.2 (List.Pairwise.imp (fun h e=>h (zPI e)) (List.nodup_range)))
  (fun x hx=>by obtain⟨j,hj,rfl⟩:=List.mem_map.1 hx;exact zSG l j (by simpa using hj))
 simpa using this
def Low (K:Nat) (s:ByteArray):Prop := ∃n,n<K/\lett n=s
theorem zSC {l:List ByteArray} (hf:ff l<2600) (hl:l.length<1000000000000000000):zB Tryz.prog zIQ [.sl (eSs l)] (.lit (.string (lett (ff l)))):=by
 have hfl:=z3U l;refine zD ttok mixed Tryz.func112 rfl (by rfl) (Nat.le_of_ble_eq_true rfl) (by kernel_rfl) ?_;have e1:IntKind.i64.wrap (((eSs l).length:Nat)+1)=((l.length+1:Nat):Int):=by rw[show (eSs l).length=l.length by simp[eSs]];exact wrap_succ (by omega)
 refine⟨{k:Nat // k<=ff l},fun k=>{vs:=[(0,.v (.sl (eSs l))),(7,.v (.lit (.int .i64 ((l.length+1:Nat):Int)))),(8,.v (.lit (.int .i64 (k.1:Nat))))],ow:=[]},
  fun k=>ff l-k.1,⟨0,Nat.zero_le _⟩,⟨⟨rfl,congrArg (fun n=>SV.v (AV.lit (Value.int .i64 n))) e1,rfl,trivial⟩,trivial,rfl⟩,?_⟩
 rintro⟨k,hk⟩;refine⟨fun h3=>?_,fun h3=>by simp at h3;omega⟩;refine .inl ⟨_,zRO (n:=k) (by omega),?_⟩;refine .inl ⟨_,xY (l:=l) (s:=lett k) (by omega),?_⟩;refine⟨fun h4=>?_,fun h4=>?_⟩
 ·have h4:lett k∉l:=fun hm=>by rw[zJ9 hm] at h4;cases h4
  have:k=ff l:=by
   rcases Nat.lt_or_ge k (ff l) with q|q
   ·exact absurd (zSG l k q) h4
   ·omega
  subst this;exact rfl
 ·have h4:lett k∈l:=memb_iff.1 (by simpa using h4);have:k≠ff l:=fun e=>z3C l (e ▸ h4);refine⟨⟨k+1,by omega⟩,(show ff l-(k+1)<ff l-k by omega),⟨rfl,rfl,?_,trivial⟩,trivial,rfl⟩;exact congrArg (fun n=>SV.v (AV.lit (Value.int .i64 n))) (wrap_succ (k:=k) (by omega))
abbrev Env':=List (ByteArray×Tp)
def look (x:ByteArray):Env'->Option Tp
 | []=>none
 | (s,t)::r=>if s=x then some t else look x r
def kept (s:ByteArray) (own:List ByteArray) (ps:Env'):Env':=ps.filter fun p=>decide (p.1≠s) && memb p.1 own
def caught (ps:Env'):List ByteArray:=ps.flatMap fun p=>fv p.2
noncomputable def sub:Tp->Env'->Tp
 | .var x,ps=>(look x ps).getD (.var x)
 | .app a b,ps => .app (sub a ps) (sub b ps)
 | .all s a,ps=>if memb s (caught (kept s (fv a) ps)) then .all (lett (ff (caught (kept s (fv a) ps)++fv a))) (sub a (kept s (fv a) ps++[(s,.var (lett (ff (caught (kept s (fv a) ps)++fv a))))]))
   else .all s (sub a (kept s (fv a) ps))
 | t,_=>t
def zYK (K:Nat):Tp->Prop
 | .app a b=>zYK K a/\zYK K b
 | .all s a=>Low K s/\zYK K a
 | .var s=>Low K s
 | _=>True
def dp:Tp->Nat
 | .app a b=>max (dp a) (dp b)
 | .all _ a=>dp a+1
 | _=>0
theorem zOJ {α:Type} [DecidableEq α] {s x:α} {l:List α} (h:s≠x) (hm:x∈l):ixI (s::l) x=ixI l x+1:=by
 rw[ixI,ixI,if_pos hm,if_pos (List.mem_cons_of_mem _ hm),List.idxOf_cons,show (s == x)=false from beq_eq_false_iff_ne.2 h]
 rfl
theorem zTJ {x:ByteArray}:∀{ps:Env'},(look x ps=none/\x∉ps.map (·.1))∨(∃k:Nat,∃h:k<ps.length,ixI (ps.map (·.1)) x=(k:Nat)/\look x ps=some ps[k].2)
 | [] => .inl ⟨rfl,by simp⟩
 | (s,t)::r=>by
  by_cases hs:s=x
  ·subst hs;exact .inr ⟨0,by simp,by simp[ixI],by simp[look]⟩
  ·rcases zTJ (x:=x) (ps:=r) with⟨h1,h2⟩|⟨k,hk,h1,h2⟩
   ·exact .inl ⟨by simp[look,hs,h1],fun hm=>by rcases List.mem_cons.1 hm with e|e;exact hs e.symm;exact h2 e⟩
   ·refine .inr ⟨k+1,by simpa using hk,?_,by simp[look,hs,h2]⟩;have hm:x∈r.map (·.1):=by
     by_cases hm:x∈r.map (·.1)
     ·exact hm
     ·rw[zNO hm] at h1;omega
    show ixI (s::r.map (·.1)) x=_;rw[zOJ hs hm,h1];rfl
structure Fit (K:Nat) (t:Tp) (ps:Env'):Prop where
 low:zYK K t
 lows:∀p∈ps,zYK K p.2
 room:K+dp t<2600
 many:ps.length+dp t<5000
 sz:t.sz<1000000
 szs:∀p∈ps,p.2.sz<1000000
theorem zJ7 {s:ByteArray} {own:List ByteArray} {ps:Env'} {p:ByteArray×Tp} (h:p∈kept s own ps):p∈ps:=(List.mem_filter.1 h).1
theorem zDJ (s:ByteArray) (own:List ByteArray) (ps:Env'):(kept s own ps).length<=ps.length:=List.length_filter_le _ _
set_option maxHeartbeats 8000000
def eN (ps:Env'):List AV:=eSs (ps.map (·.1))
def eB (ps:Env'):List AV:=zQ (ps.map (·.2))
theorem zD4 (ps:Env'):(eN ps).length=ps.length:=by simp[eN,eSs]
theorem zLO (ps:Env'):(eB ps).length=ps.length:=by simp[eB,zQ]
theorem zTE (ps:Env') (s:ByteArray) (t:Tp):eN ps++[.lit (.string s)]=eN (ps++[(s,t)]):=by simp[eN,eSs]
theorem zT0 (ps:Env') (s:ByteArray) (t:Tp):eB ps++[eTy t]=eB (ps++[(s,t)]):=by simp[eB,zQ]
theorem z3X {ps:Env'} {k:Nat} (h:k<ps.length):(eN ps)[k]? = some (.lit (.string ps[k].1)):=by simp[eN,eSs,h]
theorem zRM {ps:Env'} {k:Nat} (h:k<ps.length):(eB ps)[k]? = some (eTy ps[k].2):=by simp[eB,zQ,h]
theorem z4Z (ps:Env'):Uni 1 (eN ps):=jU _
theorem z6I (ps:Env'):Uni 4 (eB ps):=zIY _
theorem zWK {s:ByteArray} {own:List ByteArray} {ps:Env'} {k:Nat} (h:k<ps.length):kept s own (ps.take (k+1))=kept s own (ps.take k)++(if decide (ps[k].1≠s) && memb ps[k].1 own then [ps[k]] else []):=by
 rw[List.take_succ_eq_append_getElem h];unfold kept;rw[List.filter_append];simp[List.filter_cons]
theorem zOG (ps:Env') (p:ByteArray×Tp):caught (ps++[p])=caught ps++fv p.2:=by simp[caught]
theorem zW0 (l m:List ByteArray):eSs l++eSs m=eSs (l++m):=by simp[eSs]
abbrev wH (t:Tp) (ps:Env'):Prop:=zB Tryz.prog zLA [eTy t,.sl (eN ps),.sl (eB ps)] (eTy (sub t ps))
theorem mem_fv_app {a b:Tp} {x:ByteArray}:x∈fv (.app a b)↔x∈fv a∨x∈fv b:=by
 simp only[fv,zJO,no];simp
theorem mem_fv_all {s:ByteArray} {a:Tp} {x:ByteArray}:x∈fv (.all s a)↔x∈fv a/\x≠s:=by
 simp only[fv,zJO];simp
def rest (own:List ByteArray) (ps:Env'):List ByteArray:=own.filter fun x => !memb x (ps.map (·.1))
def pl (l:List ByteArray) (s:ByteArray):Int:=if memb s l then (l.length:Int)-1-ixI l.reverse s else -1
theorem zUX {n k:Nat} (h:k<n) (hn:n<9223372036854775808):IntKind.i64.wrap (IntKind.i64.wrap ((n:Int)-1)-(k:Int))=((n-1-k:Nat):Int):=by
 have e1:(n:Int)-1=((n-1:Nat):Int):=by omega
 rw[e1,yB (by omega),show ((n-1:Nat):Int)-(k:Int)=((n-1-k:Nat):Int) by omega,yB (by omega)]
theorem zOA {l:List ByteArray} {s:ByteArray} (hl:l.length<9223372036854775807):zB Tryz.prog zKV [.sl (eSs l),.lit (.string s)] (.lit (.int .i64 (pl l s))):=by
 refine zD ttok mixed Tryz.func92 rfl (by rfl) (Nat.le_of_ble_eq_true rfl) (by kernel_rfl) ?_;have hlen:(eSs l).length=l.length:=by simp[eSs]
 have hrl:l.reverse.length=l.length:=by simp
 refine⟨{k:Nat // k<=l.length/\∀j,j<k->l.reverse[j]?≠some s},fun k=>{vs:=[(0,.v (.sl (eSs l))),(1,.v (.lit (.string s))),(8,.v (.lit (.int .i64 ((eSs l).length:Nat)))),(9,.v (.lit (.int .i64 (k.1:Nat))))],ow:=[]},
  fun k=>l.length-k.1,⟨0,Nat.zero_le _,fun j hj=>absurd hj (by omega)⟩,⟨⟨rfl,rfl,rfl,rfl,trivial⟩,trivial,rfl⟩,?_⟩
 rintro⟨k,hk,hn⟩;refine⟨fun h=>?_,fun h=>?_⟩
 ·have h:k<l.length:=by simp[hlen] at h;omega
  have ew:IntKind.i64.wrap (IntKind.i64.wrap (((eSs l).length:Nat)-1)-(k:Int))=((l.length-1-k:Nat):Int):=by rw[hlen];exact zUX h (by omega)
  have hi:l.length-1-k<l.length:=by omega
  have hrev:l.reverse[k]'(by omega)=l[l.length-1-k]:=by simp[List.getElem_reverse]
  refine⟨.lit (.string l[l.length-1-k]),by rw[ew];omega,by rw[ew];exact zKW hi,rfl,?_⟩;refine⟨fun h2=>?_,fun h2=>?_⟩
  ·have h2:l[l.length-1-k]=s:=of_decide_eq_true h2;have hp:pl l s=((l.length-1-k:Nat):Int):=by
    rw[pl,zJ9 (h2 ▸ List.getElem_mem hi),if_pos rfl,zRH (l:=l.reverse) (k:=k) (by omega) (by rw[hrev,h2]) hn];omega
   rw[hp,<-ew];exact rfl
  ·have h2:l[l.length-1-k]≠s:=of_decide_eq_false h2;refine⟨⟨k+1,h,zT7 (l:=l.reverse) (by omega) (by rw[hrev];exact h2) hn⟩,(show l.length-(k+1)<l.length-k by omega),⟨rfl,rfl,rfl,?_,trivial⟩,trivial,rfl⟩;exact congrArg (fun n=>SV.v (AV.lit (Value.int .i64 n))) (wrap_succ (k:=k) (by omega))
 ·have h:k=l.length:=by simp[hlen] at h;omega
  subst h;have hp:pl l s = -1:=by
   rw[pl,zMW (fun hm=>zEU (l:=l.reverse) (by rw[hrl];exact hn) (List.mem_reverse.2 hm))];rfl
  rw[hp];exact rfl
def smb:Tp->Tp->List ByteArray->List ByteArray->Bool
 | .all s a,.all r b,x,y=>smb a b (x++[s]) (y++[r])
 | .var s,.var r,x,y=>decide (pl x s=pl y r) && (decide (0<=pl x s) || decide (s=r))
 | .app a b,.app c d,x,y=>smb a c x y && smb b d x y
 | .con s,.con r,_,_=>decide (s=r)
 | .mt n,.mt m,_,_=>decide (n=m)
 | .no,.no,_,_=>true
 | _,_,_,_=>false
theorem zL3 (l:List AV):List.drop (Int.toNat 0) (List.take (Int.toNat ((l.length:Nat):Int)) l)=l:=by simp
inductive Db where
 | no
 | mt (n:Int)
 | bv (i:Nat)
 | fr (s:ByteArray)
 | con (s:ByteArray)
 | app (a b:Db)
 | all (a:Db)
def ixN {α:Type} [DecidableEq α]:List α->α->Nat
 | [],_=>0
 | x::l,s=>if x=s then 0 else ixN l s+1
def sb (σ:ByteArray->Db):Db->Db
 | .fr s=>σ s
 | .app a b => .app (sb σ a) (sb σ b)
 | .all a => .all (sb σ a)
 | d=>d
end Go.Proofs.YtebmimnglcdogaaGreatDoor.Ck
