/- A part of the proof of a given statement: contracts of functions of the program, under no condition but those that each states. -/
import Derived.Test.YtebmimnglcdogaaGreatDoorF
import Derived.Test.YtebmimnglcdogaaGreatDoorFpE
set_option linter.unusedSimpArgs false
set_option linter.unusedVariables false
namespace Go.Proofs.YtebmimnglcdogaaGreatDoor.Ck
open Go Fp
set_option maxRecDepth 100000
set_option maxHeartbeats 4000000
def wS (t:Tp):ByteArray->Bool:=fun x=>decide (t.form=5) && decide (x=t.nam)
def zF2 (p:ByteArray->Bool) (l:List Tp):List ByteArray:=l.foldl (fun out a=>insAll p out (fv a)) []
theorem zRH {p:ByteArray->Bool} {l:List Tp} {k:Nat} (h:k<l.length):zF2 p (l.take (k+1))=insAll p (zF2 p (l.take k)) (fv l[k]):=by
 simp only[zF2,List.take_succ_eq_append_getElem h,List.foldl_append,List.foldl_cons,List.foldl_nil]
theorem zRU (t:Tp) (h:¬t.form=2):fv t=zF2 (wS t) t.args:=by
 cases t with
 | var s=>exact absurd rfl h
 | app a b =>
  have:wS (.app a b)=no:=by funext x;simp[wS,Tp.form,no]
  rw[this];rfl
 | all s a =>
  have:wS (.all s a)=fun x=>decide (x=s):=by funext x;by_cases h:x=s<;>simp[wS,Tp.form,Tp.nam,h]
  rw[this];rfl
 | _=>rfl
theorem zXX {t:Tp} {N:Nat} (h:t.sz<=N+1):∀a∈t.args,a.sz<=N:=by
 cases t<;>simp[Tp.args,Tp.sz] at h⊢<;>omega
theorem zWF (l:List ByteArray) (s:ByteArray):eSs l++[.lit (.string s)]=eSs (l++[s]):=by simp[eSs]
theorem zPF {p:ByteArray->Bool} {out:List ByteArray} {s:ByteArray} (h1:memb s out=false) (h2:p s=false):ins p out s=out++[s]:=by
 unfold ins;rw[if_neg];simp[h2];intro h;rw[zM5 h] at h1;cases h1
theorem zR8 {p:ByteArray->Bool} {out:List ByteArray} {s:ByteArray} (h:memb s out=true∨p s=true):ins p out s=out:=by
 unfold ins;rw[if_pos];exact h.imp memb_iff.1 id
def size:Tp->Nat
 | .app a b=>size a+size b
 | .all _ a=>1+size a
 | _=>1
def digs (l:List UInt8):Nat:=l.foldl (fun v c=>10*v+(c.toNat-48)) 0
theorem zP7 (l:List UInt8) (c:UInt8):digs (l++[c])=10*digs l+(c.toNat-48):=by simp[digs]
theorem zGD (x:UInt8):(ByteArray.mk #[x]).data.toList=[x]:=rfl
theorem zNK (a b:ByteArray):(a++b).data.toList=a.data.toList++b.data.toList:=by
 rw[show (a++b).data=a.data++b.data from ByteArray.data_append ..];simp
theorem zSH (n:Nat):digs (dcm n).data.toList=n:=by
 induction n using Nat.strongRecOn with
 | _ n ih =>
  by_cases h:n<10
  ·rw[zAW h,zGD];simp[digs];omega
  ·rw[zGH h,zNK,zGD,zP7,ih (n / 10) (by omega)];simp;omega
theorem zW0 (n:Nat):0<(dcm n).data.toList.length:=by
 by_cases h:n<10
 ·rw[zAW h];simp
 ·rw[zGH h,zNK];simp
def deco (s:ByteArray):Nat:=match s.data.toList with
 | []=>0
 | [c]=>c.toNat-97
 | c::r=>26*digs r+(c.toNat-97)
theorem zFI (n:Nat):deco (lett n)=n:=by
 unfold lett;split
 ·rename_i h;unfold deco;rw[zGD];simp;omega
 ·rename_i h;have hd:=zSH (n / 26);have hn:=zW0 (n / 26);unfold deco;rw[zNK,zGD];cases hr:(dcm (n / 26)).data.toList with
  | nil=>rw[hr] at hn;simp at hn
  | cons x r =>
   rw[hr] at hd;show 26*digs (x::r)+_=_;rw[hd];simp;omega
theorem zL2 {a b:Nat} (h:lett a=lett b):a=b:=by rw[<-zFI a,h,zFI]
theorem x8 {α:Type} [DecidableEq α]:∀(l m:List α),l.Nodup->(∀x∈l,x∈m)->l.length<=m.length
 | [],_,_,_=>by simp
 | x::l,m,hn,hs=>by
  have hx:=hs x (by simp);have:=x8 l (m.erase x) (List.nodup_cons.1 hn).2 (fun y hy=>(List.mem_erase_of_ne (fun e:y=x=>(List.nodup_cons.1 hn).1 (e ▸ hy))).2 (hs y (by simp[hy])));have:=List.length_erase_of_mem hx;have:0<m.length:=List.length_pos_of_mem hx;simp only[List.length_cons];omega
theorem least (p:Nat->Prop) (n:Nat) (h:p n):∃k,p k/\(∀j,j<k->¬p j)/\k<=n:=by
 induction n using Nat.strongRecOn with
 | _ n ih =>
  by_cases hx:∃j,j<n/\p j
  ·obtain⟨j,hj,hp⟩:=hx;obtain⟨k,h1,h2,h3⟩:=ih j hj hp;exact⟨k,h1,h2,by omega⟩
  ·exact⟨n,h,fun j hj hp=>hx ⟨j,hj,hp⟩,Nat.le_refl _⟩
theorem zV2 (l:List ByteArray):∀s∈l,deco s<=(l.map deco).sum:=by
 induction l with
 | nil=>simp
 | cons x l ih =>
  intro s hs;simp only[List.map_cons,List.sum_cons];rcases List.mem_cons.1 hs with rfl|h
  ·omega
  ·have:=ih s h;omega
theorem zS4 (l:List ByteArray):∃n,lett n∉l/\(∀j,j<n->lett j∈l):=by
 obtain⟨k,h1,h2,_⟩:=least (fun n=>lett n∉l) ((l.map deco).sum+1) (fun hm=>by have:=zV2 l _ hm;rw[zFI] at this;omega);exact⟨k,h1,fun j hj=>Classical.not_not.1 (h2 j hj)⟩
noncomputable def ff (l:List ByteArray):Nat:=(zS4 l).choose
theorem zXR (l:List ByteArray):lett (ff l)∉l:=(zS4 l).choose_spec.1
theorem zO4 (l:List ByteArray):∀j,j<ff l->lett j∈l:=(zS4 l).choose_spec.2
theorem zW7 (l:List ByteArray):ff l<=l.length:=by
 have:=x8 ((List.range (ff l)).map lett) l (by
  rw[List.nodup_iff_pairwise_ne] at *;refine List.pairwise_map.2 (List.Pairwise.imp (fun h e=>h (zL2 e)) (List.nodup_range)))
  (fun x hx=>by obtain⟨j,hj,rfl⟩:=List.mem_map.1 hx;exact zO4 l j (by simpa using hj))
 simpa using this
def Low (K:Nat) (s:ByteArray):Prop := ∃n,n<K/\lett n=s
theorem zNS {l:List ByteArray} (hf:ff l<2600) (hl:l.length<1000000000000000000):zD Tryz.prog zGT [.sl (eSs l)] (.lit (.string (lett (ff l)))):=by
 have hfl:=zW7 l;refine zC ttok mixed Tryz.func112 rfl (by rfl) (Nat.le_of_ble_eq_true rfl) (by kernel_rfl) ?_;have e1:IntKind.i64.wrap (((eSs l).length:Nat)+1)=((l.length+1:Nat):Int):=by rw[show (eSs l).length=l.length by simp[eSs]];exact wrap_succ (by omega)
 refine⟨{k:Nat // k<=ff l},fun k=>{vs:=[(0,.v (.sl (eSs l))),(7,.v (.lit (.int .i64 ((l.length+1:Nat):Int)))),(8,.v (.lit (.int .i64 (k.1:Nat))))],ow:=[]},
  fun k=>ff l-k.1,⟨0,Nat.zero_le _⟩,⟨⟨rfl,congrArg (fun n=>SV.v (AV.lit (Value.int .i64 n))) e1,rfl,trivial⟩,trivial,rfl⟩,?_⟩
 rintro⟨k,hk⟩;refine⟨fun h3=>?_,fun h3=>by simp at h3;omega⟩;refine .inl ⟨_,zOM (n:=k) (by omega),?_⟩;refine .inl ⟨_,xZ (l:=l) (s:=lett k) (by omega),?_⟩;refine⟨fun h4=>?_,fun h4=>?_⟩
 ·have h4:lett k∉l:=fun hm=>by rw[zM5 hm] at h4;cases h4
  have:k=ff l:=by
   rcases Nat.lt_or_ge k (ff l) with q|q
   ·exact absurd (zO4 l k q) h4
   ·omega
  subst this;exact rfl
 ·have h4:lett k∈l:=memb_iff.1 (by simpa using h4);have:k≠ff l:=fun e=>zXR l (e ▸ h4);refine⟨⟨k+1,by omega⟩,(show ff l-(k+1)<ff l-k by omega),⟨rfl,rfl,?_,trivial⟩,trivial,rfl⟩;exact congrArg (fun n=>SV.v (AV.lit (Value.int .i64 n))) (wrap_succ (k:=k) (by omega))
abbrev Env':=List (ByteArray×Tp)
def look (x:ByteArray):Env'->Option Tp
 | []=>none
 | (s,t)::r=>if s=x then some t else look x r
def kept (s:ByteArray) (own:List ByteArray) (ps:Env'):Env':=ps.filter fun p=>decide (p.1≠s) && memb p.1 own
def caught (ps:Env'):List ByteArray:=ps.flatMap fun p=>fv p.2
noncomputable def sub:Tp->Env'->Tp
 | .var x,ps=>(look x ps).getD (.var x)
 | .app a b,ps => .app (sub a ps) (sub b ps)
 | .all s a,ps=>if memb s (caught (kept s (fv a) ps)) then .all (lett (ff (caught (kept s (fv a) ps)++fv a))) (sub a (kept s (fv a) ps++[(s,.var (lett (ff (caught (kept s (fv a) ps)++fv a))))]))
   else .all s (sub a (kept s (fv a) ps))
 | t,_=>t
def zUF (K:Nat):Tp->Prop
 | .app a b=>zUF K a/\zUF K b
 | .all s a=>Low K s/\zUF K a
 | .var s=>Low K s
 | _=>True
def dp:Tp->Nat
 | .app a b=>max (dp a) (dp b)
 | .all _ a=>dp a+1
 | _=>0
theorem zSZ {α:Type} [DecidableEq α] {s x:α} {l:List α} (h:s≠x) (hm:x∈l):ixI (s::l) x=ixI l x+1:=by
 rw[ixI,ixI,if_pos hm,if_pos (List.mem_cons_of_mem _ hm),List.idxOf_cons,show (s == x)=false from beq_eq_false_iff_ne.2 h]
 rfl
theorem zPT {x:ByteArray}:∀{ps:Env'},(look x ps=none/\x∉ps.map (·.1))∨(∃k:Nat,∃h:k<ps.length,ixI (ps.map (·.1)) x=(k:Nat)/\look x ps=some ps[k].2)
 | [] => .inl ⟨rfl,by simp⟩
 | (s,t)::r=>by
  by_cases hs:s=x
  ·subst hs;exact .inr ⟨0,by simp,by simp[ixI],by simp[look]⟩
  ·rcases zPT (x:=x) (ps:=r) with⟨h1,h2⟩|⟨k,hk,h1,h2⟩
   ·exact .inl ⟨by simp[look,hs,h1],fun hm=>by rcases List.mem_cons.1 hm with e|e;exact hs e.symm;exact h2 e⟩
   ·refine .inr ⟨k+1,by simpa using hk,?_,by simp[look,hs,h2]⟩;have hm:x∈r.map (·.1):=by
     by_cases hm:x∈r.map (·.1)
     ·exact hm
     ·rw[zOA hm] at h1;omega
    show ixI (s::r.map (·.1)) x=_;rw[zSZ hs hm,h1];rfl
structure Fit (K:Nat) (t:Tp) (ps:Env'):Prop where
 low:zUF K t
 lows:∀p∈ps,zUF K p.2
 room:K+dp t<2600
 many:ps.length+dp t<5000
 sz:t.sz<1000000
 szs:∀p∈ps,p.2.sz<1000000
theorem zG3 {s:ByteArray} {own:List ByteArray} {ps:Env'} {p:ByteArray×Tp} (h:p∈kept s own ps):p∈ps:=(List.mem_filter.1 h).1
theorem zBW (s:ByteArray) (own:List ByteArray) (ps:Env'):(kept s own ps).length<=ps.length:=List.length_filter_le _ _
set_option maxHeartbeats 8000000
def eN (ps:Env'):List AV:=eSs (ps.map (·.1))
def eB (ps:Env'):List AV:=zN (ps.map (·.2))
theorem zCQ (ps:Env'):(eN ps).length=ps.length:=by simp[eN,eSs]
theorem zJT (ps:Env'):(eB ps).length=ps.length:=by simp[eB,zN]
theorem zPB (ps:Env') (s:ByteArray) (t:Tp):eN ps++[.lit (.string s)]=eN (ps++[(s,t)]):=by simp[eN,eSs]
theorem zPP (ps:Env') (s:ByteArray) (t:Tp):eB ps++[eTy t]=eB (ps++[(s,t)]):=by simp[eB,zN]
theorem zWX {ps:Env'} {k:Nat} (h:k<ps.length):(eN ps)[k]? = some (.lit (.string ps[k].1)):=by simp[eN,eSs,h]
theorem zN6 {ps:Env'} {k:Nat} (h:k<ps.length):(eB ps)[k]? = some (eTy ps[k].2):=by simp[eB,zN,h]
theorem zW6 (ps:Env'):Uni 1 (eN ps):=zF3 _
theorem zX4 (ps:Env'):Uni 4 (eB ps):=zQN _
theorem zRN {s:ByteArray} {own:List ByteArray} {ps:Env'} {k:Nat} (h:k<ps.length):kept s own (ps.take (k+1))=kept s own (ps.take k)++(if decide (ps[k].1≠s) && memb ps[k].1 own then [ps[k]] else []):=by
 rw[List.take_succ_eq_append_getElem h];unfold kept;rw[List.filter_append];simp[List.filter_cons]
theorem zNC (ps:Env') (p:ByteArray×Tp):caught (ps++[p])=caught ps++fv p.2:=by simp[caught]
theorem zR4 (l m:List ByteArray):eSs l++eSs m=eSs (l++m):=by simp[eSs]
abbrev substSays (t:Tp) (ps:Env'):Prop:=zD Tryz.prog zAK [eTy t,.sl (eN ps),.sl (eB ps)] (eTy (sub t ps))
theorem mem_fv_app {a b:Tp} {x:ByteArray}:x∈fv (.app a b)↔x∈fv a∨x∈fv b:=by
 simp only[fv,zGL,no];simp
theorem mem_fv_all {s:ByteArray} {a:Tp} {x:ByteArray}:x∈fv (.all s a)↔x∈fv a/\x≠s:=by
 simp only[fv,zGL];simp
def rest (own:List ByteArray) (ps:Env'):List ByteArray:=own.filter fun x => !memb x (ps.map (·.1))
def pl (l:List ByteArray) (s:ByteArray):Int:=if memb s l then (l.length:Int)-1-ixI l.reverse s else -1
end Go.Proofs.YtebmimnglcdogaaGreatDoor.Ck
