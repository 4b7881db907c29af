/- What is for all types, given one. No condition but on what is within. -/
import Derived.Test.YtdmbahepaglcbaaGreatDoorP
set_option linter.unusedSimpArgs false
set_option linter.unusedVariables false
namespace Go.Proofs.YtdmbahepaglcbaaGreatDoor
open Go Fp
set_option maxRecDepth 10000
set_option maxHeartbeats 8000000
set_option linter.unusedVariables false
theorem zSZ {w:Wd} {c p:Cr} {s:ByteArray} {a:Tp} {K L:Nat} (hk:c.kids=[p]) (hf:FitX K c.t w.ps) (h1:OfS w p (.all s a)) (hf2:FitX L a [(s,w.mean c.t)]):zF Tryz.prog 121 [eW w,eC c] (eTy (sub a [(s,w.mean c.t)])):=by
 refine zG ttok mixed Tryz.func121 rfl (by rfl) (Nat.le_of_ble_eq_true rfl) (by kernel_rfl) ?_;refine⟨eC p,by omega,zA5 hk,rfl,?_⟩;refine .inl ⟨_,h1,?_⟩;refine⟨by kernel_rfl,?_⟩;refine .inl ⟨_,yN rfl,?_⟩;refine⟨eTy a,by omega,rfl,rfl,?_⟩;refine .inl ⟨_,qJ w c.t hf,?_⟩;refine .inl ⟨_,zCZ a.sz a (Nat.le_refl _) L [(s,w.mean c.t)] hf2,?_⟩;refine⟨by kernel_rfl,?_⟩;exact rfl
theorem zVF {w:Wd} {c p:Cr} (hk:c.kids=[p]) (h1:OfN w p):yS Tryz.prog 121 [eW w,eC c] wJ:=by
 refine zJ ttok mixed Tryz.func121 rfl (by rfl) (Nat.le_of_ble_eq_true rfl) (by kernel_rfl) ?_;refine WsemQ.seq ttok mixed ?_;refine WsemQ.seqS (WsemQ.regionP ttok mixed [0,1,2,3,4,6,5,7] 6 (by kernel_rfl) (by kernel_rfl) ?_);refine⟨eC p,by omega,zA5 hk,rfl,?_⟩;exact⟨by kernel_rfl,h1⟩
theorem zVL {w:Wd} {c p:Cr} {t:Tp} (hk:c.kids=[p]) (h1:OfS w p t) (hn:¬t.form=5):yS Tryz.prog 121 [eW w,eC c] wJ:=by
 refine zJ ttok mixed Tryz.func121 rfl (by rfl) (Nat.le_of_ble_eq_true rfl) (by kernel_rfl) ?_;refine WsemQ.seq ttok mixed ?_;refine WsemQ.seq ttok mixed ?_;refine⟨eC p,by omega,zA5 hk,rfl,?_⟩;refine .inl ⟨_,h1,?_⟩;refine⟨by kernel_rfl,?_⟩;refine WsemQ.seqS (WsemQ.region ttok 3 ?_);exact zAD (decide_eq_false hn)
def jM (d:Nat):ByteArray:=⟨#[64]⟩++dcm d
theorem zTY {w:Wd} {c p:Cr} {t:Tp} (hk:c.kids=[p]) (hd:w.deep<100) (hl:w.ps.length<=100000) (h1:OfS (w.all c.s (jM w.deep)) p t):zF Tryz.prog 122 [eW w,eC c] (eTy (.all (jM w.deep) t)):=by
 have hs:=xP 2 w.deep (by omega) (by decide);have q:(ByteArray.mk #[64]).size=1:=rfl;refine zG ttok mixed Tryz.func122 rfl (by rfl) (Nat.le_of_ble_eq_true rfl) (by kernel_rfl) ?_;refine .inl ⟨_,zQL hd,?_⟩;refine⟨by rw[q];omega,?_⟩;refine .inl ⟨_,z8D w c.s (jM w.deep) hl (by omega),?_⟩;refine⟨eC p,by omega,zA5 hk,rfl,?_⟩;refine .inl ⟨_,h1,?_⟩;refine .inl ⟨_,zQU (jM w.deep) t,?_⟩;refine⟨by kernel_rfl,?_⟩;exact rfl
theorem zZE {w:Wd} {c p:Cr} (hk:c.kids=[p]) (hd:w.deep<100) (hl:w.ps.length<=100000) (h1:OfN (w.all c.s (jM w.deep)) p):yS Tryz.prog 122 [eW w,eC c] wJ:=by
 have hs:=xP 2 w.deep (by omega) (by decide);have q:(ByteArray.mk #[64]).size=1:=rfl;refine zJ ttok mixed Tryz.func122 rfl (by rfl) (Nat.le_of_ble_eq_true rfl) (by kernel_rfl) ?_;refine WsemQ.seq ttok mixed ?_;refine WsemQ.seq ttok mixed ?_;refine .inl ⟨_,zQL hd,?_⟩;refine⟨by rw[q];omega,?_⟩;refine WsemQ.seqS (WsemQ.regionI ttok mixed 10 (by kernel_rfl) ?_);refine .inl ⟨_,z8D w c.s (jM w.deep) hl (by omega),?_⟩;refine⟨eC p,by omega,zA5 hk,rfl,?_⟩;exact⟨by kernel_rfl,h1⟩
def jY:Tp->List ByteArray->Option (List ByteArray×Tp)
 | .all s a,vs=>if s∈vs then none else jY a (vs++[s])
 | t,vs=>some (vs,t)
def xJ:Nat->Tp->Option (List Tp×Tp)
 | 0,t=>some ([],t)
 | n+1,t=>if (partsOf t).2.2=true then (xJ n (partsOf t).2.1).map (fun q=>((partsOf t).1::q.1,q.2)) else none
def qF (f:Fd):Option (List Tp×ByteArray×List ByteArray):=match jY f.t [] with
 | none=>none
 | some (vs,t)=>match xJ f.ar.toNat t with
  | none=>none
  | some (l,u)=>if (zAC u).form=3/\(xB u).reverse=vs.map Tp.var then some (l,(zAC u).nam,vs) else none
theorem zFO {t:Tp} {vs:List ByteArray} (h:¬t.form=5):jY t vs=some (vs,t):=by cases t<;>first|rfl|exact absurd rfl h
theorem wY {s:ByteArray} {a:Tp} {vs:List ByteArray}:jY (.all s a) vs=if s∈vs then none else jY a (vs++[s]):=rfl
theorem zGY:∀(n:Nat) (t:Tp) (q:List Tp×Tp),xJ n t=some q->q.1.length=n
 | 0,t,q,h=>by cases h;rfl
 | n+1,t,q,h=>by
  simp only[xJ] at h;split at h
  ·cases hq:xJ n (partsOf t).2.1 with
   | none=>rw[hq] at h;cases h
   | some r=>rw[hq] at h;cases h;simp[zGY n _ r hq]
  ·cases h
theorem isVarP {x:Tp} {v:ByteArray}:(x.form=2/\x.nam=v)↔x = .var v:=by
 cases x<;>simp[Tp.form,Tp.nam]
abbrev St1 (f:Fd):={p:List ByteArray×Tp // jY p.2 p.1=jY f.t []/\p.1.length+dp p.2<=dp f.t}
abbrev St2 (f:Fd) (t:Tp):={p:List Tp×Tp // p.1.length<=f.ar.toNat/\(xJ (f.ar.toNat-p.1.length) p.2).map (fun q=>(p.1++q.1,q.2))=xJ f.ar.toNat t}
theorem zS4 {f:Fd} {l:List Tp} {n:ByteArray} {vs:List ByteArray} (hs:qF f=some (l,n,vs)) (hd:dp f.t<1000000) (ha:f.ar<=1000000):zF Tryz.prog 154 [eFd f] (.tup [.sl (yA l),.lit (.string n),.sl (eSs vs)]):=by
 obtain⟨t0,hA⟩:∃t0,jY f.t []=some (vs,t0):=by
  unfold qF at hs;split at hs
  ·cases hs
  ·rename_i vs' t0 hA;split at hs
   ·cases hs
   ·split at hs
    ·cases hs;exact⟨t0,hA⟩
    ·cases hs
 obtain⟨u,hF⟩:∃u,xJ f.ar.toNat t0=some (l,u):=by
  unfold qF at hs;rw[hA] at hs;simp only at hs;split at hs
  ·cases hs
  ·rename_i l' u hF;split at hs
   ·cases hs;exact⟨u,hF⟩
   ·cases hs
 have hS:(zAC u).form=3/\(xB u).reverse=vs.map Tp.var/\n=(zAC u).nam:=by
  unfold qF at hs;rw[hA] at hs;simp only[hF] at hs;split at hs
  ·rename_i h;cases hs;exact⟨h.1,h.2,rfl⟩
  ·cases hs
 obtain⟨hS1,hS2,rfl⟩:=hS;have hll:=zGY _ _ _ hF;simp only at hll;refine zG ttok mixed Tryz.func154 rfl (by rfl) (Nat.le_of_ble_eq_true rfl) (by kernel_rfl) ?_;refine⟨St1 f,fun p=>{vs:=[(1,.box 0 (eFd f)),(2,.v (.sl [])),(3,.v (.lit (.string ⟨#[]⟩))),(4,.v (.sl (eSs p.1.1))),(5,.box 0 (eTy p.1.2))],ow:=[(2,0,5),(4,0,2)]},fun p=>p.1.2.sz,⟨([],f.t),rfl,by simp⟩,⟨⟨rfl,rfl,rfl,rfl,rfl,trivial⟩,⟨trivial,trivial,trivial⟩,rfl⟩,?_⟩;rintro⟨⟨ws,cur⟩,hp,hlen⟩;simp only at hp hlen;refine⟨fun h=>?_,fun h=>?_⟩
 ·obtain⟨s,a,rfl⟩:=Tp.is_all (t:=cur) (by simpa using h);have hns:s∉ws:=fun hm=>by rw[wY,if_pos hm,hA] at hp;cases hp
  rw[wY,if_neg hns] at hp;simp only[dp] at hlen;refine .inl ⟨_,xN (l:=ws) (s:=s) (by omega),?_⟩;refine .inl ⟨_,yN (by rw[yM hns];rfl),?_⟩;refine⟨by simp[eSs];omega,yP _,yP [_],?_⟩;refine⟨eTy a,by omega,rfl,rfl,?_⟩;exact⟨⟨(ws++[s],a),hp,by simp;omega⟩,by simp only[Tp.sz];omega,⟨rfl,rfl,rfl,congrArg (fun l=>SV.v (AV.sl l)) (zDA ws s),rfl,trivial⟩,⟨rfl,rfl,trivial⟩,rfl⟩
 have h5:¬cur.form=5:=by simpa using h
 rw[zFO h5,hA] at hp;cases hp
 clear h h5;refine⟨St2 f t0,fun p=>{vs:=[(2,.v (.sl (yA p.1.1))),(4,.v (.sl (eSs vs))),(5,.box 0 (eTy p.1.2)),(34,sv f.ar),(35,sv (p.1.1.length:Nat))],ow:=[(2,0,5),(4,0,2)]},fun p=>f.ar.toNat-p.1.1.length,⟨([],t0),by simp,by simp⟩,⟨⟨rfl,rfl,rfl,rfl,rfl,trivial⟩,⟨rfl,rfl,trivial⟩,rfl⟩,?_⟩;rintro⟨⟨ls,cur⟩,hp1,hp2⟩;simp only at hp1 hp2;refine⟨fun h=>?_,fun h=>?_⟩
 ·have h:ls.length<f.ar.toNat:=by have h:=of_decide_eq_true h;simp only at h;omega
  rw[show f.ar.toNat-ls.length=(f.ar.toNat-(ls.length+1))+1 by omega] at hp2;have hf:(partsOf cur).2.2=true:=Classical.byContradiction fun hn=>by
   simp only[xJ,if_neg hn,Option.map_none,hF] at hp2;cases hp2
  simp only[xJ,if_pos hf,Option.map_map] at hp2;refine .inl ⟨_,split_ok cur,?_⟩;refine .inl ⟨_,yN hf,?_⟩;refine⟨by simp[yA];omega,zER _,zER [_],?_⟩;refine⟨by kernel_rfl,?_⟩;refine⟨⟨(ls++[(partsOf cur).1],(partsOf cur).2.1),by simp;omega,?_⟩,by simp;omega,⟨?_,rfl,rfl,rfl,?_,trivial⟩,⟨rfl,rfl,trivial⟩,rfl⟩
  ·rw[<-hp2];simp only[List.length_append,List.length_cons,List.length_nil,Nat.zero_add]
   congr 1
   funext q
   simp
  ·show _=SV.v (AV.sl (yA (ls++[(partsOf cur).1])));rw[show yA (ls++[(partsOf cur).1])=yA ls++[eTy (partsOf cur).1] by simp[yA]];exact rfl
  ·simp only[List.length_append,List.length_cons,List.length_nil,Nat.zero_add];exact svc (wrap_succ (k:=ls.length) (by omega))
 have h:ls.length=f.ar.toNat:=by have h:=of_decide_eq_false h;simp only at h;omega
 rw[h,Nat.sub_self] at hp2;simp only[xJ,Option.map_some,List.append_nil,hF,Option.some.injEq] at hp2;cases hp2
 have hlv:(xB u).length=vs.length:=by have:=congrArg List.length hS2;simpa using this
 have hvl:vs.length<1000000:=by omega
 refine .inl ⟨_,zG8 u (by omega),?_⟩;refine⟨fun _=>?_,fun h=>absurd hS1 (of_decide_eq_false h)⟩;refine .inl ⟨_,yN (decide_eq_true (by simp[yA,eSs,hlv])),?_⟩;rw[hS2];have hlm:(yA (vs.map Tp.var)).length=vs.length:=by simp[yA]
 refine⟨{k:Nat // k<=vs.length},fun k=>{vs:=[(2,.v (.sl (yA l))),(4,.v (.sl (eSs vs))),(9,.box 0 (eTy (zAC u))),(67,.v (.sl (yA (vs.map Tp.var)))),(68,sv (vs.length:Nat)),(69,sv (k.1:Nat))]},fun k=>vs.length-k.1,⟨0,Nat.zero_le _⟩,⟨⟨rfl,rfl,rfl,rfl,svc (by rw[hlm]),rfl,trivial⟩,trivial,rfl⟩,?_⟩;rintro⟨k,hk⟩;refine⟨fun h=>?_,fun h=>?_⟩
 ·have h:k<vs.length:=by have h:=of_decide_eq_true h;simp only at h;omega
  refine⟨eTy (.var vs[k]),by omega,by simp[yA,h],rfl,?_⟩;refine⟨fun _=>?_,fun h=>(by cases h)⟩;refine⟨_,by omega,zEK h,rfl,?_⟩;refine .inl ⟨_,yN (decide_eq_true rfl),?_⟩;refine⟨by kernel_rfl,?_⟩;exact⟨⟨k+1,h⟩,by simp;omega,⟨rfl,rfl,rfl,rfl,rfl,svc (wrap_succ (k:=k) (by omega)),trivial⟩,trivial,rfl⟩
 refine⟨by kernel_rfl,?_⟩;exact rfl
abbrev St3 (f:Fd):={p:List ByteArray×Tp // jY p.2 p.1=none/\p.1.length+dp p.2<=dp f.t}
abbrev St4 (f:Fd) (t:Tp):={p:List Tp×Tp // p.1.length<=f.ar.toNat/\xJ (f.ar.toNat-p.1.length) p.2=none}
theorem zWL {f:Fd} (hs:jY f.t []=none) (hd:dp f.t<1000000) (ha:f.ar<=1000000):yS Tryz.prog 154 [eFd f] wJ:=by
 refine zJ ttok mixed Tryz.func154 rfl (by rfl) (Nat.le_of_ble_eq_true rfl) (by kernel_rfl) ?_;refine WsemQ.seq ttok mixed ?_;refine WsemQ.seq ttok mixed ?_;refine WsemQ.seqS (WsemQ.block (WsemQ.loop (α:=St3 f) (fun p=>{vs:=[(1,.box 0 (eFd f)),(2,.v (.sl [])),(3,.v (.lit (.string ⟨#[]⟩))),(4,.v (.sl (eSs p.1.1))),(5,.box 0 (eTy p.1.2))],ow:=[(2,0,5),(4,0,2)]}) (fun p=>p.1.2.sz) ⟨([],f.t),hs,by simp⟩ ⟨⟨rfl,rfl,rfl,rfl,rfl,trivial⟩,⟨trivial,trivial,trivial⟩,rfl⟩ ?_));rintro⟨⟨ws,cur⟩,hp,hlen⟩;simp only at hp hlen;refine WsemQ.seq ttok mixed ?_;refine⟨fun h=>?_,fun h=>?_⟩
 ·obtain⟨s,a,rfl⟩:=Tp.is_all (t:=cur) (by simpa using h);simp only[dp] at hlen;refine WsemQ.seqS (WsemQ.block ?_);by_cases hns:s∈ws
  ·refine WsemQ.seqS (WsemQ.region ttok 5 ?_);refine .inl ⟨_,xN (l:=ws) (s:=s) (by omega),?_⟩;exact zAD (by rw[zS hns];rfl)
  ·rw[wY,if_neg hns] at hp;refine WsemQ.of ttok mixed ?_;refine .inl ⟨_,xN (l:=ws) (s:=s) (by omega),?_⟩;refine .inl ⟨_,yN (by rw[yM hns];rfl),?_⟩;refine⟨by simp[eSs];omega,yP _,yP [_],?_⟩;refine WsemQ.of ttok mixed ?_;refine⟨eTy a,by omega,rfl,rfl,?_⟩;exact⟨⟨(ws++[s],a),hp,by simp;omega⟩,by simp only[Tp.sz];omega,⟨rfl,rfl,rfl,congrArg (fun l=>SV.v (AV.sl l)) (zDA ws s),rfl,trivial⟩,⟨rfl,rfl,trivial⟩,rfl⟩
 ·exfalso;have h5:¬cur.form=5:=by simpa using h
  rw[zFO h5] at hp;cases hp
theorem zVA {f:Fd} {vs:List ByteArray} {t0:Tp} (hA:jY f.t []=some (vs,t0)) (hF:xJ f.ar.toNat t0=none) (hd:dp f.t<1000000) (ha:f.ar<=1000000):yS Tryz.prog 154 [eFd f] wJ:=by
 refine zJ ttok mixed Tryz.func154 rfl (by rfl) (Nat.le_of_ble_eq_true rfl) (by kernel_rfl) ?_;refine WsemQ.seq ttok mixed ?_;refine WsemQ.seq ttok mixed ?_;refine WsemQ.seq ttok mixed ?_;refine⟨St1 f,fun p=>{vs:=[(1,.box 0 (eFd f)),(2,.v (.sl [])),(3,.v (.lit (.string ⟨#[]⟩))),(4,.v (.sl (eSs p.1.1))),(5,.box 0 (eTy p.1.2))],ow:=[(2,0,5),(4,0,2)]},fun p=>p.1.2.sz,⟨([],f.t),rfl,by simp⟩,⟨⟨rfl,rfl,rfl,rfl,rfl,trivial⟩,⟨trivial,trivial,trivial⟩,rfl⟩,?_⟩;rintro⟨⟨ws,cur⟩,hp,hlen⟩;simp only at hp hlen;refine⟨fun h=>?_,fun h=>?_⟩
 ·obtain⟨s,a,rfl⟩:=Tp.is_all (t:=cur) (by simpa using h);have hns:s∉ws:=fun hm=>by rw[wY,if_pos hm,hA] at hp;cases hp
  rw[wY,if_neg hns] at hp;simp only[dp] at hlen;refine .inl ⟨_,xN (l:=ws) (s:=s) (by omega),?_⟩;refine .inl ⟨_,yN (by rw[yM hns];rfl),?_⟩;refine⟨by simp[eSs];omega,yP _,yP [_],?_⟩;refine⟨eTy a,by omega,rfl,rfl,?_⟩;exact⟨⟨(ws++[s],a),hp,by simp;omega⟩,by simp only[Tp.sz];omega,⟨rfl,rfl,rfl,congrArg (fun l=>SV.v (AV.sl l)) (zDA ws s),rfl,trivial⟩,⟨rfl,rfl,trivial⟩,rfl⟩
 have h5:¬cur.form=5:=by simpa using h
 rw[zFO h5,hA] at hp;cases hp
 clear h h5;refine WsemQ.seqS (WsemQ.seqS (WsemQ.of ttok mixed ?_));refine WsemQ.block (WsemQ.loop (α:=St4 f t0) (fun p=>{vs:=[(2,.v (.sl (yA p.1.1))),(4,.v (.sl (eSs vs))),(5,.box 0 (eTy p.1.2)),(34,sv f.ar),(35,sv (p.1.1.length:Nat))],ow:=[(2,0,5),(4,0,2)]}) (fun p=>f.ar.toNat-p.1.1.length) ⟨([],t0),by simp,hF⟩ ⟨⟨rfl,rfl,rfl,rfl,rfl,trivial⟩,⟨rfl,rfl,trivial⟩,rfl⟩ ?_);rintro⟨⟨ls,cur⟩,hp1,hp2⟩;simp only at hp1 hp2;refine WsemQ.seq ttok mixed ?_;refine WsemQ.seq ttok mixed ?_;refine⟨fun h=>?_,fun h=>?_⟩
 ·have h:ls.length<f.ar.toNat:=by have h:=of_decide_eq_true h;simp only at h;omega
  rw[show f.ar.toNat-ls.length=(f.ar.toNat-(ls.length+1))+1 by omega] at hp2;refine WsemQ.seqS (WsemQ.block ?_);refine WsemQ.seq ttok mixed ?_;refine .inl ⟨_,split_ok cur,?_⟩;by_cases hf:(partsOf cur).2.2=true
  ·simp only[xJ,if_pos hf,Option.map_eq_none_iff] at hp2;refine WsemQ.of ttok mixed ?_;refine .inl ⟨_,yN hf,?_⟩;refine⟨by simp[yA];omega,zER _,zER [_],?_⟩;refine⟨by kernel_rfl,?_⟩;refine WsemQ.of ttok mixed ?_;refine⟨⟨(ls++[(partsOf cur).1],(partsOf cur).2.1),by simp;omega,?_⟩,by simp;omega,⟨?_,rfl,rfl,rfl,?_,trivial⟩,⟨rfl,rfl,trivial⟩,rfl⟩
   ·simp only[List.length_append,List.length_cons,List.length_nil,Nat.zero_add];exact hp2
   ·show _=SV.v (AV.sl (yA (ls++[(partsOf cur).1])));rw[show yA (ls++[(partsOf cur).1])=yA ls++[eTy (partsOf cur).1] by simp[yA]];exact rfl
   ·simp only[List.length_append,List.length_cons,List.length_nil,Nat.zero_add];exact svc (wrap_succ (k:=ls.length) (by omega))
  ·refine WsemQ.seqS (WsemQ.region ttok 1 ?_);exact zAD (by simpa using hf)
 ·exfalso;have h:ls.length=f.ar.toNat:=by have h:=of_decide_eq_false h;simp only at h;omega
  rw[h,Nat.sub_self] at hp2;cases hp2
theorem zOT {α:Type}:∀{a b:List α},a.length=b.length->a≠b->∃k,∃(h1:k<a.length) (h2:k<b.length),a[k]≠b[k]/\∀(j:Nat) (h3:j<a.length) (h4:j<b.length),j<k->a[j]=b[j]
 | [],[],_,h=>absurd rfl h
 | x::a,y::b,hl,h=>by
  by_cases e:x=y
  ·obtain⟨k,h1,h2,h3,h4⟩:=zOT (a:=a) (b:=b) (by simpa using hl) (fun e2=>h (by rw[e,e2]));refine⟨k+1,by simp;omega,by simp;omega,by simpa using h3,fun j q1 q2 hj=>?_⟩
   match j with
   | 0=>simpa using e
   | j+1=>simpa using h4 j (by simpa using q1) (by simpa using q2) (by omega)
  ·exact⟨0,by simp,by simp,by simpa using e,fun j _ _ hj=>by omega⟩
theorem zWJ {f:Fd} {vs:List ByteArray} {t0 u:Tp} {l:List Tp} (hA:jY f.t []=some (vs,t0)) (hF:xJ f.ar.toNat t0=some (l,u)) (hb:¬((zAC u).form=3/\(xB u).reverse=vs.map Tp.var)) (hu:(xB u).length<1000000) (hd:dp f.t<1000000) (ha:f.ar<=1000000):yS Tryz.prog 154 [eFd f] wJ:=by
 have hll:=zGY _ _ _ hF;simp only at hll;refine zJ ttok mixed Tryz.func154 rfl (by rfl) (Nat.le_of_ble_eq_true rfl) (by kernel_rfl) ?_;refine WsemQ.seq ttok mixed ?_;refine WsemQ.seq ttok mixed ?_;refine WsemQ.seq ttok mixed ?_;refine⟨St1 f,fun p=>{vs:=[(1,.box 0 (eFd f)),(2,.v (.sl [])),(3,.v (.lit (.string ⟨#[]⟩))),(4,.v (.sl (eSs p.1.1))),(5,.box 0 (eTy p.1.2))],ow:=[(2,0,5),(4,0,2)]},fun p=>p.1.2.sz,⟨([],f.t),rfl,by simp⟩,⟨⟨rfl,rfl,rfl,rfl,rfl,trivial⟩,⟨trivial,trivial,trivial⟩,rfl⟩,?_⟩;rintro⟨⟨ws,cur⟩,hp,hlen⟩;simp only at hp hlen;refine⟨fun h=>?_,fun h=>?_⟩
 ·obtain⟨s,a,rfl⟩:=Tp.is_all (t:=cur) (by simpa using h);have hns:s∉ws:=fun hm=>by rw[wY,if_pos hm,hA] at hp;cases hp
  rw[wY,if_neg hns] at hp;simp only[dp] at hlen;refine .inl ⟨_,xN (l:=ws) (s:=s) (by omega),?_⟩;refine .inl ⟨_,yN (by rw[yM hns];rfl),?_⟩;refine⟨by simp[eSs];omega,yP _,yP [_],?_⟩;refine⟨eTy a,by omega,rfl,rfl,?_⟩;exact⟨⟨(ws++[s],a),hp,by simp;omega⟩,by simp only[Tp.sz];omega,⟨rfl,rfl,rfl,congrArg (fun l=>SV.v (AV.sl l)) (zDA ws s),rfl,trivial⟩,⟨rfl,rfl,trivial⟩,rfl⟩
 have h5:¬cur.form=5:=by simpa using h
 rw[zFO h5,hA] at hp;cases hp
 clear h h5;refine WsemQ.seq ttok mixed ?_;refine⟨St2 f t0,fun p=>{vs:=[(2,.v (.sl (yA p.1.1))),(4,.v (.sl (eSs vs))),(5,.box 0 (eTy p.1.2)),(34,sv f.ar),(35,sv (p.1.1.length:Nat))],ow:=[(2,0,5),(4,0,2)]},fun p=>f.ar.toNat-p.1.1.length,⟨([],t0),by simp,by simp⟩,⟨⟨rfl,rfl,rfl,rfl,rfl,trivial⟩,⟨rfl,rfl,trivial⟩,rfl⟩,?_⟩;rintro⟨⟨ls,cur⟩,hp1,hp2⟩;simp only at hp1 hp2;refine⟨fun h=>?_,fun h=>?_⟩
 ·have h:ls.length<f.ar.toNat:=by have h:=of_decide_eq_true h;simp only at h;omega
  rw[show f.ar.toNat-ls.length=(f.ar.toNat-(ls.length+1))+1 by omega] at hp2;have hf:(partsOf cur).2.2=true:=Classical.byContradiction fun hn=>by
   simp only[xJ,if_neg hn,Option.map_none,hF] at hp2;cases hp2
  simp only[xJ,if_pos hf,Option.map_map] at hp2;refine .inl ⟨_,split_ok cur,?_⟩;refine .inl ⟨_,yN hf,?_⟩;refine⟨by simp[yA];omega,zER _,zER [_],?_⟩;refine⟨by kernel_rfl,?_⟩;refine⟨⟨(ls++[(partsOf cur).1],(partsOf cur).2.1),by simp;omega,?_⟩,by simp;omega,⟨?_,rfl,rfl,rfl,?_,trivial⟩,⟨rfl,rfl,trivial⟩,rfl⟩
  ·rw[<-hp2];simp only[List.length_append,List.length_cons,List.length_nil,Nat.zero_add]
   congr 1
   funext q
   simp
  ·show _=SV.v (AV.sl (yA (ls++[(partsOf cur).1])));rw[show yA (ls++[(partsOf cur).1])=yA ls++[eTy (partsOf cur).1] by simp[yA]];exact rfl
  ·simp only[List.length_append,List.length_cons,List.length_nil,Nat.zero_add];exact svc (wrap_succ (k:=ls.length) (by omega))
 have h:ls.length=f.ar.toNat:=by have h:=of_decide_eq_false h;simp only at h;omega
 rw[h,Nat.sub_self] at hp2;simp only[xJ,Option.map_some,List.append_nil,hF,Option.some.injEq] at hp2;cases hp2
 have hvl:vs.length<1000000:=by omega
 refine WsemQ.seq ttok mixed ?_;refine .inl ⟨_,zG8 u (by omega),?_⟩;by_cases h3:(zAC u).form=3/\(xB u).length=vs.length
 ·refine WsemQ.seq ttok mixed ?_;refine⟨fun _=>?_,fun h=>absurd h3.1 (of_decide_eq_false h)⟩;refine .inl ⟨_,yN (decide_eq_true (by simp[yA,eSs,h3.2])),?_⟩;have hne:(xB u).reverse≠vs.map Tp.var:=fun e=>hb ⟨h3.1,e⟩;obtain⟨m,h1,h2,hm,hok⟩:=zOT (a:=(xB u).reverse) (b:=vs.map Tp.var) (by simp[h3.2]) hne;have hlr:(xB u).reverse.length=vs.length:=by simp[h3.2]
  have hmv:m<vs.length:=by simpa using h2
  have hlm:(yA (xB u).reverse).length=vs.length:=by rw[<-hlr];simp[yA]
  refine WsemQ.seqS (WsemQ.seqS (WsemQ.of ttok mixed ?_));refine WsemQ.block (WsemQ.loop (α:={k:Nat // k<=m}) (fun k=>{vs:=[(2,.v (.sl (yA l))),(4,.v (.sl (eSs vs))),(9,.box 0 (eTy (zAC u))),(67,.v (.sl (yA (xB u).reverse))),(68,sv (vs.length:Nat)),(69,sv (k.1:Nat))]}) (fun k=>m-k.1) ⟨0,Nat.zero_le _⟩ ⟨⟨rfl,rfl,rfl,rfl,svc (by rw[hlm]),rfl,trivial⟩,trivial,rfl⟩ ?_);rintro⟨k,hk⟩;refine WsemQ.seq ttok mixed ?_;refine WsemQ.seq ttok mixed ?_;refine⟨fun h=>?_,fun h=>absurd (of_decide_eq_false h) (by simp only;omega)⟩;have hkl:k<(xB u).reverse.length:=by omega
  refine WsemQ.seqS (WsemQ.block ?_);refine WsemQ.seq ttok mixed ?_;refine⟨eTy (xB u).reverse[k],by omega,zQI hkl,rfl,?_⟩;rcases Nat.lt_or_ge k m with hkm|hkm
  ·have hg:=hok k hkl (by simp;omega) hkm;simp only[List.getElem_map] at hg;rw[hg];refine WsemQ.of ttok mixed ?_;refine⟨fun _=>?_,fun h=>(by cases h)⟩;refine⟨_,by omega,zEK (l:=vs) (k:=k) (Nat.lt_trans hkm hmv),rfl,?_⟩;refine .inl ⟨_,yN (decide_eq_true rfl),?_⟩;refine⟨by kernel_rfl,?_⟩;refine WsemQ.of ttok mixed ?_;exact⟨⟨k+1,hkm⟩,by simp;omega,⟨rfl,rfl,rfl,rfl,rfl,svc (wrap_succ (k:=k) (by omega)),trivial⟩,trivial,rfl⟩
  ·obtain rfl:k=m:=by omega
   refine WsemQ.regionI ttok mixed 12 (by kernel_rfl) ?_;refine⟨fun hv=>?_,fun hv=>?_⟩
   ·refine⟨_,by omega,zEK hmv,rfl,?_⟩;refine⟨by kernel_rfl,zAD (decide_eq_false fun e=>hm ?_)⟩;simp only[List.getElem_map];exact isVarP.1 ⟨of_decide_eq_true hv,e⟩
   ·exact⟨by kernel_rfl,zAD rfl⟩
 ·refine WsemQ.seqS (WsemQ.region ttok 10 ?_);refine⟨fun h=>?_,fun h=>?_⟩
  ·refine zAD (decide_eq_false fun e=>h3 ⟨of_decide_eq_true h,?_⟩);have e2:((xB u).length:Int)=(vs.length:Int):=by simpa[yA,eSs] using e
   omega
  ·exact zAD rfl
end Go.Proofs.YtdmbahepaglcbaaGreatDoor
