/- Core for all types. No condition but on what is within. -/
import Derived.Test.YtebmimnglcdogaaGreatDoorS
set_option linter.unusedSimpArgs false
set_option linter.unusedVariables false
namespace Go.Proofs.YtebmimnglcdogaaGreatDoor.Ck
open Go Fp
set_option maxRecDepth 10000
set_option maxHeartbeats 8000000
set_option linter.unusedVariables false
def zDM:Tp->List ByteArray->Option (List ByteArray×Tp)
 | .all s a,vs=>if s∈vs then none else zDM a (vs++[s])
 | t,vs=>some (vs,t)
def zAY:Nat->Tp->Option (List Tp×Tp)
 | 0,t=>some ([],t)
 | n+1,t=>if (partsOf t).2.2=true then (zAY n (partsOf t).2.1).map (fun q=>((partsOf t).1::q.1,q.2)) else none
def shapeF (f:Fd):Option (List Tp×ByteArray×List ByteArray):=match zDM f.t [] with
 | none=>none
 | some (vs,t)=>match zAY f.ar.toNat t with
  | none=>none
  | some (l,u)=>if (spHd u).form=3/\(spAr u).reverse=vs.map Tp.var then some (l,(spHd u).nam,vs) else none
theorem zVD {t:Tp} {vs:List ByteArray} (h:¬t.form=5):zDM t vs=some (vs,t):=by cases t<;>first|rfl|exact absurd rfl h
theorem zJS {s:ByteArray} {a:Tp} {vs:List ByteArray}:zDM (.all s a) vs=if s∈vs then none else zDM a (vs++[s]):=rfl
theorem zJH:∀(n:Nat) (t:Tp) (q:List Tp×Tp),zAY n t=some q->q.1.length=n
 | 0,t,q,h=>by cases h;rfl
 | n+1,t,q,h=>by
  simp only[zAY] at h;split at h
  ·cases hq:zAY n (partsOf t).2.1 with
   | none=>rw[hq] at h;cases h
   | some r=>rw[hq] at h;cases h;simp[zJH n _ r hq]
  ·cases h
abbrev St1 (f:Fd):={p:List ByteArray×Tp // zDM p.2 p.1=zDM f.t []/\p.1.length+dp p.2<=dp f.t}
abbrev St2 (f:Fd) (t:Tp):={p:List Tp×Tp // p.1.length<=f.ar.toNat/\(zAY (f.ar.toNat-p.1.length) p.2).map (fun q=>(p.1++q.1,q.2))=zAY f.ar.toNat t}
theorem zWY {f:Fd} {l:List Tp} {n:ByteArray} {vs:List ByteArray} (hs:shapeF f=some (l,n,vs)) (hd:dp f.t<1000000) (ha:f.ar<=1000000):zB Tryz.prog 148 [eFd f] (.tup [.sl (zQ l),.lit (.string n),.sl (eSs vs)]):=by
 obtain⟨t0,hA⟩:∃t0,zDM f.t []=some (vs,t0):=by
  unfold shapeF at hs;split at hs
  ·cases hs
  ·rename_i vs' t0 hA;split at hs
   ·cases hs
   ·split at hs
    ·cases hs;exact⟨t0,hA⟩
    ·cases hs
 obtain⟨u,hF⟩:∃u,zAY f.ar.toNat t0=some (l,u):=by
  unfold shapeF at hs;rw[hA] at hs;simp only at hs;split at hs
  ·cases hs
  ·rename_i l' u hF;split at hs
   ·cases hs;exact⟨u,hF⟩
   ·cases hs
 have hS:(spHd u).form=3/\(spAr u).reverse=vs.map Tp.var/\n=(spHd u).nam:=by
  unfold shapeF at hs;rw[hA] at hs;simp only[hF] at hs;split at hs
  ·rename_i h;cases hs;exact⟨h.1,h.2,rfl⟩
  ·cases hs
 obtain⟨hS1,hS2,rfl⟩:=hS;have hll:=zJH _ _ _ hF;simp only at hll;refine zA ttok mixed Tryz.func148 rfl (by rfl) (Nat.le_of_ble_eq_true rfl) (by kernel_rfl) ?_;refine⟨St1 f,fun p=>{vs:=[(1,.box 0 (eFd f)),(2,.v (.sl [])),(3,.v (.lit (.string ⟨#[]⟩))),(4,.v (.sl (eSs p.1.1))),(5,.box 0 (eTy p.1.2))],ow:=[(2,0,5),(4,0,2)]},fun p=>p.1.2.sz,⟨([],f.t),rfl,by simp⟩,⟨⟨rfl,rfl,rfl,rfl,rfl,trivial⟩,⟨trivial,trivial,trivial⟩,rfl⟩,?_⟩;rintro⟨⟨ws,cur⟩,hp,hlen⟩;simp only at hp hlen;refine⟨fun h=>?_,fun h=>?_⟩
 ·obtain⟨s,a,rfl⟩:=Tp.is_all (t:=cur) (by simpa using h);have hns:s∉ws:=fun hm=>by rw[zJS,if_pos hm,hA] at hp;cases hp
  rw[zJS,if_neg hns] at hp;simp only[dp] at hlen;refine .inl ⟨_,xY (l:=ws) (s:=s) (by omega),?_⟩;refine .inl ⟨_,qB (by rw[zMW hns];rfl),?_⟩;refine⟨by simp[eSs];omega,jU _,jU [_],?_⟩;refine⟨eTy a,by omega,rfl,rfl,?_⟩;exact⟨⟨(ws++[s],a),hp,by simp;omega⟩,by simp only[Tp.sz];omega,⟨rfl,rfl,rfl,congrArg (fun l=>SV.v (AV.sl l)) (zPH ws s),rfl,trivial⟩,⟨rfl,rfl,trivial⟩,rfl⟩
 have h5:¬cur.form=5:=by simpa using h
 rw[zVD h5,hA] at hp;cases hp
 clear h h5;refine⟨St2 f t0,fun p=>{vs:=[(2,.v (.sl (zQ p.1.1))),(4,.v (.sl (eSs vs))),(5,.box 0 (eTy p.1.2)),(34,sv f.ar),(35,sv (p.1.1.length:Nat))],ow:=[(2,0,5),(4,0,2)]},fun p=>f.ar.toNat-p.1.1.length,⟨([],t0),by simp,by simp⟩,⟨⟨rfl,rfl,rfl,rfl,rfl,trivial⟩,⟨rfl,rfl,trivial⟩,rfl⟩,?_⟩;rintro⟨⟨ls,cur⟩,hp1,hp2⟩;simp only at hp1 hp2;refine⟨fun h=>?_,fun h=>?_⟩
 ·have h:ls.length<f.ar.toNat:=by have h:=of_decide_eq_true h;simp only at h;omega
  rw[show f.ar.toNat-ls.length=(f.ar.toNat-(ls.length+1))+1 by omega] at hp2;have hf:(partsOf cur).2.2=true:=Classical.byContradiction fun hn=>by
   simp only[zAY,if_neg hn,Option.map_none,hF] at hp2;cases hp2
  simp only[zAY,if_pos hf,Option.map_map] at hp2;refine .inl ⟨_,split_ok cur,?_⟩;refine .inl ⟨_,qB hf,?_⟩;refine⟨by simp[zQ];omega,zW9 _,zW9 [_],?_⟩;refine⟨by kernel_rfl,?_⟩;refine⟨⟨(ls++[(partsOf cur).1],(partsOf cur).2.1),by simp;omega,?_⟩,by simp;omega,⟨?_,rfl,rfl,rfl,?_,trivial⟩,⟨rfl,rfl,trivial⟩,rfl⟩
  ·rw[<-hp2];simp only[List.length_append,List.length_cons,List.length_nil,Nat.zero_add]
   congr 1
   funext q
   simp
  ·show _=SV.v (AV.sl (zQ (ls++[(partsOf cur).1])));rw[show zQ (ls++[(partsOf cur).1])=zQ ls++[eTy (partsOf cur).1] by simp[zQ]];exact rfl
  ·simp only[List.length_append,List.length_cons,List.length_nil,Nat.zero_add];exact svc (wrap_succ (k:=ls.length) (by omega))
 have h:ls.length=f.ar.toNat:=by have h:=of_decide_eq_false h;simp only at h;omega
 rw[h,Nat.sub_self] at hp2;simp only[zAY,Option.map_some,List.append_nil,hF,Option.some.injEq] at hp2;cases hp2
 have hlv:(spAr u).length=vs.length:=by have:=congrArg List.length hS2;simpa using this
 have hvl:vs.length<1000000:=by omega
 refine .inl ⟨_,zPB u (by omega),?_⟩;refine⟨fun _=>?_,fun h=>absurd hS1 (of_decide_eq_false h)⟩;refine .inl ⟨_,qB (decide_eq_true (by simp[zQ,eSs,hlv])),?_⟩;rw[hS2];have hlm:(zQ (vs.map Tp.var)).length=vs.length:=by simp[zQ]
 refine⟨{k:Nat // k<=vs.length},fun k=>{vs:=[(2,.v (.sl (zQ l))),(4,.v (.sl (eSs vs))),(9,.box 0 (eTy (spHd u))),(67,.v (.sl (zQ (vs.map Tp.var)))),(68,sv (vs.length:Nat)),(69,sv (k.1:Nat))]},fun k=>vs.length-k.1,⟨0,Nat.zero_le _⟩,⟨⟨rfl,rfl,rfl,rfl,svc (by rw[hlm]),rfl,trivial⟩,trivial,rfl⟩,?_⟩;rintro⟨k,hk⟩;refine⟨fun h=>?_,fun h=>?_⟩
 ·have h:k<vs.length:=by have h:=of_decide_eq_true h;simp only at h;omega
  refine⟨eTy (.var vs[k]),by omega,by simp[zQ,h],rfl,?_⟩;refine⟨fun _=>?_,fun h=>(by cases h)⟩;refine⟨_,by omega,zKW h,rfl,?_⟩;refine .inl ⟨_,qB (decide_eq_true rfl),?_⟩;refine⟨by kernel_rfl,?_⟩;exact⟨⟨k+1,h⟩,by simp;omega,⟨rfl,rfl,rfl,rfl,rfl,svc (wrap_succ (k:=k) (by omega)),trivial⟩,trivial,rfl⟩
 refine⟨by kernel_rfl,?_⟩;exact rfl
end Go.Proofs.YtebmimnglcdogaaGreatDoor.Ck
