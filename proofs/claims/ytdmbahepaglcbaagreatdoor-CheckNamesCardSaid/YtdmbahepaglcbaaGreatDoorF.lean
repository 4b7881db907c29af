/- SubstType, whole. No condition but that there is little. -/
import Derived.Test.YtdmbahepaglcbaaGreatDoorE
set_option linter.unusedSimpArgs false
set_option linter.unusedVariables false
namespace Go.Proofs.YtdmbahepaglcbaaGreatDoor
open Go Fp
set_option maxRecDepth 10000
set_option maxHeartbeats 16000000
set_option linter.unusedVariables false
theorem zeM {c:Cr} (ho:c.Ok) (hn:c.isN=true) (h7:c.f=7):∃n s q,c = .node 7 n s .no (.kid q .nil):=by
 cases c with
 | node f n s t g =>
  have h7:f=7:=h7;subst h7;obtain⟨h1,h2,h3,h4,h5,h6,_,h8⟩:=ho;have ht:=h3 rfl;subst ht;have hb:g.binds=[]:=by
   cases hb:g.binds with
   | nil=>rfl
   | cons a l=>have:=h5 (by rw[hb];exact List.cons_ne_nil _ _);exact absurd this (by decide)
  have ha:g.alts=[]:=by
   cases hb:g.alts with
   | nil=>rfl
   | cons a l=>have:=h6 (by rw[hb];exact List.cons_ne_nil _ _);exact absurd this (by decide)
  have hk:g.kids.length=1:=h4;cases g with
  | nil=>exact absurd hk (by decide)
  | node=>cases h1
  | bind=>exact absurd hb (List.cons_ne_nil _ _)
  | alt=>exact absurd ha (List.cons_ne_nil _ _)
  | kid q r =>
   have hr:r.isN=false:=h8.2.1;cases r with
   | nil=>exact⟨n,s,q,rfl⟩
   | node=>cases hr
   | kid=>simp[Cr.kids] at hk
   | bind=>exact absurd hb (List.cons_ne_nil _ _)
   | alt=>exact absurd ha (List.cons_ne_nil _ _)
 | _=>cases hn
set_option linter.unusedSimpArgs false
theorem z1Z (z:ByteArray):Sm (vr z):=⟨rfl,zIC _,by simp[Cr.wt,vr,Tp.sz],⟨trivial,trivial⟩⟩
section
variable {ren:ByteArray->ByteArray->Cr->Cr} {fin:Cr->Cr} {far:List ByteArray} {ps:List Pp}
end
section
variable {ren:ByteArray->ByteArray->Cr->Cr} {fin:Cr->Cr} {far:List ByteArray} {y:ByteArray}
end
theorem z1P (g:Cr):(g.kids.flatMap Cr.fv).length+(g.binds.flatMap fun b=>b.2.2.fv).length+(g.alts.flatMap fun a=>a.2.2.fv).length<=g.sz:=by
 induction g with
 | nil=>simp[Cr.kids,Cr.binds,Cr.alts]
 | node f n s t g ih=>simp only[Cr.kids,Cr.binds,Cr.alts,Cr.sz];omega
 | kid p r _ ih=>have:=zCN p;simp only[Cr.kids,Cr.binds,Cr.alts,Cr.sz,List.flatMap_cons,List.length_append] at ih⊢;omega
 | bind x t p r _ ih=>have:=zCN p;simp only[Cr.kids,Cr.binds,Cr.alts,Cr.sz,List.flatMap_cons,List.length_append] at ih⊢;omega
 | alt f n s vs p r _ ih=>have:=zCN p;simp only[Cr.kids,Cr.binds,Cr.alts,Cr.sz,List.flatMap_cons,List.length_append] at ih⊢;omega
section
variable {ren:ByteArray->ByteArray->Cr->Cr} {fin:Cr->Cr} {far:List ByteArray} {ps:List Pp}
end
section
variable {ren:ByteArray->ByteArray->Cr->Cr} {fin:Cr->Cr} {far:List ByteArray} {y:ByteArray}
end
section
variable {N:Nat} {y:ByteArray} {b:Cr}
end
section
variable {N:Nat} {y:ByteArray} {b:Cr}
end
theorem fv7 {n:Int} {s y:ByteArray} {q:Cr}:y∈(Cr.node 7 n s .no (.kid q .nil)).fv↔y∈q.fv:=by
 have e:(Cr.node 7 n s .no (.kid q .nil)).fv=zC (fun y=>memb y []) [] q.fv:=rfl;rw[e,mem_insAll];constructor
 ·rintro (h|⟨h,_⟩)
  ·cases h
  ·exact h
 ·exact fun h => .inr ⟨h,rfl⟩
section
variable {N:Nat} {y:ByteArray} {b:Cr} {n:Int} {s:ByteArray} {q:Cr}
theorem zaB (h:y∉q.fv):sbF (N+1) (.node 7 n s .no (.kid q .nil)) y b = .node 7 n s .no (.kid q .nil):=by
 rw[sbF,if_neg (by decide),if_pos rfl,if_neg fun e=>h (fv7.1 e)]
theorem z6E (h:y∈q.fv) (hs:s∉b.tv):sbF (N+1) (.node 7 n s .no (.kid q .nil)) y b = .node 7 n s .no (.kid (sbF N q y b) .nil):=by
 rw[sbF,if_neg (by decide),if_pos rfl,if_pos (fv7.2 h),if_neg hs];rfl
theorem z3Z (h:y∈q.fv) (hs:s∈b.tv):sbF (N+1) (.node 7 n s .no (.kid q .nil)) y b = .node 7 n (lett (ff (b.tv++q.tv))) .no (.kid (sbF N (stF N q s (.var (lett (ff (b.tv++q.tv))))) y b) .nil):=by
 rw[sbF,if_neg (by decide),if_pos rfl,if_pos (fv7.2 h),if_pos hs];rfl
end
theorem z5R (g:Cr):g.Ok->(g.kids.map Cr.sz).sum+(g.binds.map fun b=>b.2.2.sz).sum+(g.alts.map fun a=>a.2.2.sz).sum+(if g.isN then 1 else 0)=g.sz:=by
 induction g with
 | nil=>intro _;rfl
 | node f n s t g ih =>
  intro ho;obtain⟨h1,h2⟩:=zN ho;have:=ih h2;rw[h1] at this;simp only[Cr.kids,Cr.binds,Cr.alts,Cr.sz,Cr.isN,if_true];simp at this;omega
 | kid p r _ ih =>
  intro ho;have:=ih ho.2.2.2;rw[ho.2.1] at this;simp only[Cr.kids,Cr.binds,Cr.alts,Cr.sz,Cr.isN,List.map_cons,List.sum_cons];simp at this⊢;omega
 | bind x t p r _ ih =>
  intro ho;have:=ih ho.2.2.2.2;rw[ho.2.1] at this;simp only[Cr.kids,Cr.binds,Cr.alts,Cr.sz,Cr.isN,List.map_cons,List.sum_cons];simp at this⊢;omega
 | alt f n s vs p r _ ih =>
  intro ho;have:=ih ho.2.2.2.2.2.2;rw[ho.2.1] at this;simp only[Cr.kids,Cr.binds,Cr.alts,Cr.sz,Cr.isN,List.map_cons,List.sum_cons];simp at this⊢;omega
abbrev mkH (b:Nat) (l:List Int) (n:Int):List (Nat×HO):=[(b,HO.cells [.sl (eIs l),.lit (.int .i64 n)])]
structure Nums (l:List Int):Prop where
 len:l.length<=1000
 inR:∀i∈l,InR i
theorem Nums.drop {l:List Int} (h:Nums l):Nums (l.drop 1):=⟨by have:=h.len;rw[List.length_drop];omega,fun i hi=>h.inR i (List.mem_of_mem_drop hi)⟩
theorem zDE (l:List Int) (n:Int) (hl:Nums l):∃r:Nat,r<1000/\(l=[]->r=0)/\∀b,CallsG Tryz.prog (fnv 70) (mkH b l n) [pt b 0] [] fun r' o h=>r' = .lit (.int .i64 (r:Nat))/\o=0/\h=mkH b (l.drop 1) n:=by
 have hlen:=hl.len;cases l with
 | nil =>
  refine⟨0,by decide,fun _=>rfl,fun b=>?_⟩;refine yF (first:=[]) (cap:=[]) ttok mixed Tryz.func70 rfl (by rfl) rfl (Nat.le_of_ble_eq_true rfl) (by kernel_rfl) ?_;refine Wsem.of ttok mixed ?_;refine⟨0,_,_,rfl,rfl,?_⟩;exact⟨fun _=>⟨rfl,rfl,rfl⟩,fun h=>absurd rfl (of_decide_eq_false h)⟩
 | cons i l =>
  obtain⟨r,h1,h2⟩:=jS (n:=i) (m:=1000) (hl.inR i List.mem_cons_self) (by decide) (by decide);refine⟨r,by omega,(fun h=>by cases h),fun b=>?_⟩;refine yF (first:=[]) (cap:=[]) ttok mixed Tryz.func70 rfl (by rfl) rfl (Nat.le_of_ble_eq_true rfl) (by kernel_rfl) ?_;refine Wsem.of ttok mixed ?_;refine⟨0,_,_,rfl,rfl,?_⟩;refine⟨fun h=>?_,fun h=>?_⟩
  ·have h:=of_decide_eq_true h;simp[eIs] at h;omega
  ·refine⟨0,_,_,rfl,rfl,?_⟩;refine⟨_,Int.le_refl _,rfl,rfl,?_⟩;refine .inl ⟨_,h2,?_⟩;refine⟨0,_,_,rfl,rfl,?_⟩;refine⟨by decide,by simp[eIs];omega,Int.le_refl _,.inr (zcN _),?_⟩;refine⟨rfl,0,_,rfl,Nat.le_of_ble_eq_true rfl,?_⟩;refine⟨rfl,rfl,?_⟩;show [(b,HO.cells (setAt [AV.sl (eIs (i::l)),.lit (.int .i64 n)] (0+0) [AV.sl (((eIs (i::l)).take (eIs (i::l)).length).drop 1)]))]=_;rw[List.take_length];rfl
end Go.Proofs.YtdmbahepaglcbaaGreatDoor
