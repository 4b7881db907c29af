/- Names given anew. Plain. No condition. -/
import Derived.Test.YtdmbahepaglcbaaGreatDoorC
set_option linter.unusedSimpArgs false
set_option linter.unusedVariables false
namespace Go.Proofs.YtdmbahepaglcbaaGreatDoor
open Go Fp
set_option maxRecDepth 10000
set_option maxHeartbeats 2000000
set_option linter.unusedVariables false
set_option linter.unusedSimpArgs false
noncomputable def outs (far:List ByteArray):List ByteArray->List ByteArray->List ByteArray
 | [],_=>[]
 | n::ns,tk=>if n∈far then lett (ff tk)::outs far ns (tk++[lett (ff tk)]) else n::outs far ns tk
theorem zMB {a z n:ByteArray} {r:List (ByteArray×ByteArray)} (h:n≠a):nw ((a,z)::r) n=nw r n:=by simp[nw,Ne.symm h]
theorem zIP (far:List ByteArray):∀(ns tk:List ByteArray),∀q∈rens far ns tk,q.1∈ns
 | [],_,q,h=>by simp[rens] at h
 | n::ns,tk,q,h=>by
  simp only[rens] at h;split at h
  ·rcases List.mem_cons.1 h with rfl|h
   ·simp
   ·exact List.mem_cons_of_mem _ (zIP far ns _ q h)
  ·exact List.mem_cons_of_mem _ (zIP far ns _ q h)
theorem zbP:∀(r:List (ByteArray×ByteArray)) (n:ByteArray),(∀q∈r,q.1≠n)->nw r n=n
 | [],_,_=>rfl
 | (a,z)::r,n,h=>by
  rw[zMB (fun e=>h (a,z) (by simp) e.symm)];exact zbP r n fun q hq=>h q (by simp[hq])
theorem zIY (far:List ByteArray):∀(ns tk:List ByteArray),ns.Nodup->ns.map (nw (rens far ns tk))=outs far ns tk
 | [],_,_=>rfl
 | n::ns,tk,h=>by
  have hn:=List.nodup_cons.1 h;simp only[rens,outs];split
  ·rw[List.map_cons]
   congr 1
   ·simp[nw]
   ·rw[<-zIY far ns _ hn.2];refine List.map_congr_left fun x hx=>?_;have hxn:x≠n:=fun e=>hn.1 (by rw[<-e];exact hx);rw[zMB hxn]
  ·rw[List.map_cons,zIY far ns tk hn.2]
   congr 1
   exact zbP _ _ fun q hq e=>hn.1 (by have:=zIP far ns tk q hq;rw[e] at this;exact this)
theorem zEL (far:List ByteArray):∀(ns tk:List ByteArray),∀o∈outs far ns tk,(o∈ns/\o∉far)∨o∉tk
 | [],_,o,h=>by simp[outs] at h
 | n::ns,tk,o,h=>by
  simp only[outs] at h;split at h<;>rename_i hf
  ·rcases List.mem_cons.1 h with rfl|h
   ·exact .inr (zBA tk)
   ·rcases zEL far ns _ o h with⟨h1,h2⟩|h1
    ·exact .inl ⟨by simp[h1],h2⟩
    ·exact .inr fun q=>h1 (by simp[q])
  ·rcases List.mem_cons.1 h with rfl|h
   ·exact .inl ⟨by simp,hf⟩
   ·rcases zEL far ns _ o h with⟨h1,h2⟩|h1
    ·exact .inl ⟨by simp[h1],h2⟩
    ·exact .inr h1
theorem zDS (far:List ByteArray):∀(ns tk:List ByteArray),ns.Nodup->(∀x∈ns,x∈tk)->(outs far ns tk).Nodup
 | [],_,_,_=>List.nodup_nil
 | n::ns,tk,h,hs=>by
  have hn:=List.nodup_cons.1 h;simp only[outs];split<;>rename_i hf
  ·refine List.nodup_cons.2 ⟨fun hm=>?_,zDS far ns _ hn.2 fun x hx=>by simp[hs x (by simp[hx])]⟩;rcases zEL far ns _ _ hm with⟨h1,_⟩|h1
   ·exact zBA tk (hs _ (by simp[h1]))
   ·exact h1 (by simp)
  ·refine List.nodup_cons.2 ⟨fun hm=>?_,zDS far ns _ hn.2 fun x hx=>hs x (by simp[hx])⟩;rcases zEL far ns _ _ hm with⟨h1,_⟩|h1
   ·exact hn.1 h1
   ·exact h1 (hs _ (by simp))
theorem z8Z {R E:List ByteArray} {n z y:ByteArray} (h1:y≠n) (h2:y≠z):ixN (R++n::E) y=ixN (R++z::E) y:=by
 induction R with
 | nil=>simp only[List.nil_append,ixN,if_neg (Ne.symm h1),if_neg (Ne.symm h2)]
 | cons a R ih=>simp only[List.cons_append,ixN,ih]
theorem z7K {R E:List ByteArray} {n:ByteArray} (h:n∉R):ixN (R++n::E) n=R.length:=by
 induction R with
 | nil=>simp[ixN]
 | cons a R ih =>
  simp only[List.mem_cons,not_or] at h;simp only[List.cons_append,ixN,if_neg (Ne.symm h.1),ih h.2,List.length_cons]
theorem zVW {R E E':List ByteArray} {y:ByteArray} (h:y∈R):ixN (R++E) y=ixN (R++E') y:=by
 induction R with
 | nil=>cases h
 | cons a R ih =>
  simp only[List.cons_append,ixN];split
  ·rfl
  ·rename_i hn;rcases List.mem_cons.1 h with e|e
   ·exact absurd e.symm hn
   ·rw[ih e]
theorem zBL {R E:List ByteArray} {y:ByteArray} (h:y∉R):ixN (R++E) y=R.length+ixN E y:=by
 induction R with
 | nil=>simp
 | cons a R ih =>
  simp only[List.mem_cons,not_or] at h;simp only[List.cons_append,ixN,if_neg (Ne.symm h.1),ih h.2,List.length_cons];omega
def wF (y x:ByteArray) (b:Cr):Cr:=if x=y then b else vr y
theorem zJ5 (y:ByteArray):(vr y).fv=[y]:=zD1 _ _ _ _
theorem z1W (y:ByteArray):(vr y).tv=[]:=rfl
theorem zdY (y:ByteArray) (e d:List ByteArray):dbc (vr y) e d=if memb y e then .bv (ixN e y) else .fr y:=by simp[dbc]
theorem zGZ (y:ByteArray):dbc (vr y) [] [] = .fr y:=by simp[dbc,memb]
def AgC (S:List ByteArray) (x:ByteArray) (b:Cr) (e e' d:List ByteArray) (σ:ByteArray->DC):Prop :=
 ∀y∈S,(y∈e/\∃y',wF y x b=vr y'/\y'∈e'/\ixN e' y'=ixN e y)∨(y∉e/\(∀z∈(wF y x b).fv,z∉e')/\(∀z∈(wF y x b).tv,z∉d)/\σ y=dbc (wF y x b) [] [])
theorem z5Y (c:Cr):∀(l m e d:List ByteArray),c.Ok->(∀x∈c.fv,x∉l->x∉e)->(∀x∈c.tv,x∉m->x∉d)->dbc c (l++e) (m++d)=dbc c l m:=by
 induction c with
 | nil=>intros;rfl
 | node f n s t g ih =>
  intro l m e d ho h1 h2;simp only[dbc];by_cases hf:f=1
  ·subst hf;rw[if_pos rfl,if_pos rfl];rw[zD1] at h1;have h1:=h1 s (by simp);by_cases hs:s∈l
   ·rw[if_pos (zS (by simp[hs])),if_pos (zS hs),zH9 hs]
   ·rw[if_neg (by rw[yM (by simp[hs,h1 hs])];simp),if_neg (by rw[yM hs];simp)]
  ·rw[if_neg hf,if_neg hf,<-List.append_assoc];have h1':∀x∈g.fv,x∉(Cr.node f n s t g).names0.reverse++l->x∉e:=fun x hx hn=>by
    simp only[List.mem_append,List.mem_reverse,not_or] at hn;exact h1 x ((jO hf).2 ⟨hx,hn.1⟩) hn.2
   by_cases h7:f=7
   ·subst h7;have ht:t = .no:=ho.2.2.1 rfl;subst ht;simp only[if_pos];have:=ih ((Cr.node 7 n s .no g).names0.reverse++l) (s::m) e d (zN ho).2 h1' fun x hx hn=>by
     simp only[List.mem_cons,not_or] at hn;exact h2 x (mem_tv_node.2 (.inr ⟨hx,fun q=>hn.1 q.2⟩)) hn.2
    rw[show s::(m++d)=(s::m)++d from rfl,this];rfl
   ·rw[if_neg h7,if_neg h7,zQ0 t m d (fun x hx=>h2 x (mem_tv_node.2 (.inl hx)))];rw[ih _ m e d (zN ho).2 h1' fun x hx=>h2 x (mem_tv_node.2 (.inr ⟨hx,fun q=>h7 q.1⟩))]
 | kid p r ihp ihr =>
  intro l m e d ho h1 h2;simp only[dbc];rw[ihp l m e d ho.2.2.1 (fun x hx=>h1 x (mem_fv_kid.2 (.inl hx))) (fun x hx=>h2 x (mem_tv_kid.2 (.inl hx))),ihr l m e d ho.2.2.2 (fun x hx=>h1 x (mem_fv_kid.2 (.inr hx))) (fun x hx=>h2 x (mem_tv_kid.2 (.inr hx)))]
 | bind y t p r ihp ihr =>
  intro l m e d ho h1 h2;simp only[dbc];rw[zQ0 t m d (fun x hx=>h2 x (mem_tv_bind.2 (.inl hx))),ihp l m e d ho.2.2.2.1 (fun x hx=>h1 x (mem_fv_bind.2 (.inl hx))) (fun x hx=>h2 x (mem_tv_bind.2 (.inr (.inl hx)))),ihr l m e d ho.2.2.2.2 (fun x hx=>h1 x (mem_fv_bind.2 (.inr hx))) (fun x hx=>h2 x (mem_tv_bind.2 (.inr (.inr hx))))]
 | alt f n s vs p r ihp ihr =>
  intro l m e d ho h1 h2;simp only[dbc];rw[<-List.append_assoc,ihp (vs.reverse++l) m e d ho.2.2.2.2.2.1 (fun x hx hn=>by
    simp only[List.mem_append,List.mem_reverse,not_or] at hn;exact h1 x (mem_fv_alt.2 (.inl ⟨hx,hn.1⟩)) hn.2) (fun x hx=>h2 x (mem_tv_alt.2 (.inl hx))),ihr l m e d ho.2.2.2.2.2.2 (fun x hx=>h1 x (mem_fv_alt.2 (.inr hx))) (fun x hx=>h2 x (mem_tv_alt.2 (.inr hx)))]
theorem zXZ (c:Cr):∀(e e' d:List ByteArray) (σ:ByteArray->DC),c.Ok->(∀y∈c.fv,(y∈e/\y∈e'/\ixN e' y=ixN e y)∨(y∉e/\y∉e'/\σ y = .fr y))->dbc c e' d=sbD σ .fr (dbc c e d):=by
 have inner:∀(ns e e':List ByteArray) (y:ByteArray) (σ:ByteArray->DC),(y∉ns->(y∈e/\y∈e'/\ixN e' y=ixN e y)∨(y∉e/\y∉e'/\σ y = .fr y)) ->
   (y∈ns.reverse++e/\y∈ns.reverse++e'/\ixN (ns.reverse++e') y=ixN (ns.reverse++e) y)∨(y∉ns.reverse++e/\y∉ns.reverse++e'/\σ y = .fr y):=fun ns e e' y σ h=>by
  by_cases hy:y∈ns
  ·exact .inl ⟨by simp[hy],by simp[hy],zVW (by simpa using hy)⟩
  ·have hr:y∉ns.reverse:=by simpa using hy
   rcases h hy with⟨q1,q2,q3⟩|⟨q1,q2,q3⟩
   ·exact .inl ⟨by simp[q1],by simp[q2],by rw[zBL hr,zBL hr,q3]⟩
   ·exact .inr ⟨by simp[hy,q1],by simp[hy,q2],q3⟩
 induction c with
 | nil=>intros;rfl
 | node f n s t g ih =>
  intro e e' d σ ho h;simp only[dbc];by_cases hf:f=1
  ·subst hf;rw[if_pos rfl,if_pos rfl];rcases h s (by rw[zD1];simp) with⟨q1,q2,q3⟩|⟨q1,q2,q3⟩
   ·rw[if_pos (zS q1),if_pos (zS q2),q3];rfl
   ·rw[if_neg (by rw[yM q2];simp),if_neg (by rw[yM q1];simp)];exact q3.symm
  ·rw[if_neg hf,if_neg hf];simp only[sbD,zJZ];rw[ih _ _ _ σ (zN ho).2 fun y hy=>inner _ e e' y σ fun hn=>h y ((jO hf).2 ⟨hy,hn⟩)]
 | kid p r ihp ihr =>
  intro e e' d σ ho h;simp only[dbc,sbD];rw[ihp e e' d σ ho.2.2.1 (fun x hx=>h x (mem_fv_kid.2 (.inl hx))),ihr e e' d σ ho.2.2.2 (fun x hx=>h x (mem_fv_kid.2 (.inr hx)))]
 | bind y t p r ihp ihr =>
  intro e e' d σ ho h;simp only[dbc,sbD,zJZ];rw[ihp e e' d σ ho.2.2.2.1 (fun x hx=>h x (mem_fv_bind.2 (.inl hx))),ihr e e' d σ ho.2.2.2.2 (fun x hx=>h x (mem_fv_bind.2 (.inr hx)))]
 | alt f n s vs p r ihp ihr =>
  intro e e' d σ ho h;simp only[dbc,sbD];rw[ihp _ _ d σ ho.2.2.2.2.2.1 (fun y hy=>inner _ e e' y σ fun hn=>h y (mem_fv_alt.2 (.inl ⟨hy,hn⟩))),ihr e e' d σ ho.2.2.2.2.2.2 (fun x hx=>h x (mem_fv_alt.2 (.inr hx)))]
theorem zIA (c:Cr):∀(e d:List ByteArray) (x:ByteArray),0<wS (dbc c e d) x↔x∈c.fv/\x∉e:=by
 induction c with
 | nil=>intro e d x;simp[dbc,wS,Cr.fv]
 | node f n s t g ih =>
  intro e d x;simp only[dbc];by_cases hf:f=1
  ·subst hf;rw[if_pos rfl,zD1];by_cases hs:s∈e
   ·rw[if_pos (zS hs)];simp only[wS,Nat.lt_irrefl,List.mem_singleton,false_iff,not_and,Decidable.not_not];rintro rfl;exact hs
   ·rw[if_neg (by rw[yM hs];simp)];simp only[wS,List.mem_singleton];by_cases hx:x=s
    ·subst hx;simp[hs]
    ·simp[hx]
  ·rw[if_neg hf];simp only[wS,ih,jO hf,List.mem_append,List.mem_reverse,not_or,and_assoc]
 | kid p r ihp ihr =>
  intro e d x;have h1:=ihp e d x;have h2:=ihr e d x;simp only[dbc,wS,mem_fv_kid];rw[show 0<wS (dbc p e d) x+wS (dbc r e d) x↔0<wS (dbc p e d) x∨0<wS (dbc r e d) x by omega,h1,h2,or_and_right]
 | bind y t p r ihp ihr =>
  intro e d x;have h1:=ihp e d x;have h2:=ihr e d x;simp only[dbc,wS,mem_fv_bind];rw[show 0<wS (dbc p e d) x+wS (dbc r e d) x↔0<wS (dbc p e d) x∨0<wS (dbc r e d) x by omega,h1,h2,or_and_right]
 | alt f n s vs p r ihp ihr =>
  intro e d x;have h1:=ihp (vs.reverse++e) d x;have h2:=ihr e d x;simp only[dbc,wS,mem_fv_alt];rw[show 0<wS (dbc p (vs.reverse++e) d) x+wS (dbc r e d) x↔0<wS (dbc p (vs.reverse++e) d) x∨0<wS (dbc r e d) x by omega,h1,h2,or_and_right];simp only[List.mem_append,List.mem_reverse,not_or,and_assoc]
theorem zYC (c:Cr):∀(e d:List ByteArray),c.Ok->szD (dbc c e d)=c.sz:=by
 induction c with
 | nil=>intros;rfl
 | node f n s t g ih =>
  intro e d ho;simp only[dbc];by_cases hf:f=1
  ·rw[if_pos hf,(ho.2.1 hf).2];split<;>rfl
  ·rw[if_neg hf];simp only[szD,Cr.sz,ih _ _ (zN ho).2]
 | kid p r ihp ihr=>intro e d ho;simp only[dbc,szD,Cr.sz,ihp _ _ ho.2.2.1,ihr _ _ ho.2.2.2]
 | bind y t p r ihp ihr=>intro e d ho;simp only[dbc,szD,Cr.sz,ihp _ _ ho.2.2.2.1,ihr _ _ ho.2.2.2.2]
 | alt f n s vs p r ihp ihr=>intro e d ho;simp only[dbc,szD,Cr.sz,ihp _ _ ho.2.2.2.2.2.1,ihr _ _ ho.2.2.2.2.2.2]
theorem zaC (d:DC) (x:ByteArray) (b:DC) (σ:ByteArray->DC) (τ:ByteArray->Db) (hx:σ x=b) (ho:∀y,y≠x->σ y = .fr y) (y:ByteArray):wS (sbD σ τ d) y=(if y=x then 0 else wS d y)+wS d x*wS b y:=by
 induction d with
 | fr s =>
  by_cases hs:s=x
  ·subst hs;simp only[sbD,hx,wS,if_pos];by_cases hy:y=s
   ·simp[hy]
   ·simp[hy]
  ·simp only[sbD,ho s hs,wS,if_neg (Ne.symm hs)];by_cases hy:y=x
   ·subst hy;simp[Ne.symm hs]
   ·simp[hy]
 | node f n s t g ih=>simp only[sbD,wS,ih]
 | kid p r ihp ihr=>simp only[sbD,wS,ihp,ihr,Nat.add_mul];split<;>omega
 | bind t p r ihp ihr=>simp only[sbD,wS,ihp,ihr,Nat.add_mul];split<;>omega
 | alt f n s k p r ihp ihr=>simp only[sbD,wS,ihp,ihr,Nat.add_mul];split<;>omega
 | _=>simp[sbD,wS]
set_option maxHeartbeats 4000000
noncomputable abbrev zFR (k:Nat) (rs:List (ByteArray×ByteArray)) (p:Cr):Cr:=rs.foldl (fun p q=>sbF k p q.1 (vr q.2)) p
theorem zDI {f n:Int} {s:ByteArray} {t:Tp} {g:Cr} (ho:(Cr.node f n s t g).Ok):(Cr.node f n s t g).names0.Nodup:=by
 obtain⟨h1,h2,h3,h4,h5,h6,h7,h8⟩:=ho;simp only[Cr.names0,Cr.own,Cr.binds];by_cases hf:f=5
 ·have:g.binds=[]:=by by_cases hb:g.binds=[];exact hb;have:=h5 hb;omega
  rw[if_pos hf,this];simp
 ·rw[if_neg hf];exact h7
theorem zDH {f n:Int} {s:ByteArray} {t:Tp} {g:Cr} (ho:(Cr.node f n s t g).Ok) (h:g.alts≠[]):(Cr.node f n s t g).names0=[]:=by
 obtain⟨h1,h2,h3,h4,h5,h6,h7,h8⟩:=ho;have hf:=h6 h;simp only[Cr.names0,Cr.own,Cr.binds];have:g.binds=[]:=by by_cases hb:g.binds=[];exact hb;have:=h5 hb;omega
 rw[this,if_neg (by omega)];rfl
theorem zU3 {f n:Int} {s:ByteArray} {t t':Tp} {g:Cr} {φ:Cr->Cr} {τ:Tp->Tp} {ν:ByteArray->ByteArray} {α:List ByteArray->Cr->List ByteArray×Cr} (ho:(Cr.node f n s t g).Ok) :
  (Cr.node f n (if f=5 then ν s else s) t' (yO φ τ ν α g)).names0=(Cr.node f n s t g).names0.map ν:=by
 obtain⟨hg,hgo⟩:=zN ho;simp only[Cr.names0,Cr.own,Cr.binds,qA hg hgo,List.map_map,List.map_append]
 congr 1
 by_cases hf:f=5
 ·simp[hf]
 ·simp[hf]
theorem zN0 {g p:Cr} (h:p∈g.kids):∀y∈p.fv,y∈g.parts0.flatMap Cr.fv:=fun y hy=>List.mem_flatMap.2 ⟨p,List.mem_append_left _ h,hy⟩
theorem zMJ {g:Cr} {b:ByteArray×Tp×Cr} (h:b∈g.binds):∀y∈b.2.2.fv,y∈g.parts0.flatMap Cr.fv:=fun y hy=>List.mem_flatMap.2 ⟨b.2.2,List.mem_append_right _ (List.mem_map.2 ⟨b,h,rfl⟩),hy⟩
theorem fvk {g:Cr} (hg:g.isN=false) (ho:g.Ok):∀p∈g.kids,∀a∈p.fv,a∈g.fv:=by
 induction g with
 | nil=>simp[Cr.kids]
 | node=>cases hg
 | kid q r _ ihr =>
  simp only[Cr.kids,List.mem_cons,forall_eq_or_imp];exact⟨fun a ha=>mem_fv_kid.2 (.inl ha),fun p hp a ha=>mem_fv_kid.2 (.inr (ihr ho.2.1 ho.2.2.2 p hp a ha))⟩
 | bind x t q r _ ihr=>exact fun p hp a ha=>mem_fv_bind.2 (.inr (ihr ho.2.1 ho.2.2.2.2 p hp a ha))
 | alt f n s vs q r _ ihr=>exact fun p hp a ha=>mem_fv_alt.2 (.inr (ihr ho.2.1 ho.2.2.2.2.2.2 p hp a ha))
theorem fvb {g:Cr} (hg:g.isN=false) (ho:g.Ok):∀b∈g.binds,∀a∈b.2.2.fv,a∈g.fv:=by
 induction g with
 | nil=>simp[Cr.binds]
 | node=>cases hg
 | kid q r _ ihr=>exact fun b hb a ha=>mem_fv_kid.2 (.inr (ihr ho.2.1 ho.2.2.2 b hb a ha))
 | bind x t q r _ ihr =>
  simp only[Cr.binds,List.mem_cons,forall_eq_or_imp];exact⟨fun a ha=>mem_fv_bind.2 (.inl ha),fun b hb a ha=>mem_fv_bind.2 (.inr (ihr ho.2.1 ho.2.2.2.2 b hb a ha))⟩
 | alt f n s vs q r _ ihr=>exact fun b hb a ha=>mem_fv_alt.2 (.inr (ihr ho.2.1 ho.2.2.2.2.2.2 b hb a ha))
theorem fva {g:Cr} (hg:g.isN=false) (ho:g.Ok):∀b∈g.alts,∀a∈b.2.2.fv,a∉b.2.1->a∈g.fv:=by
 induction g with
 | nil=>simp[Cr.alts]
 | node=>cases hg
 | kid q r _ ihr=>exact fun b hb a ha hn=>mem_fv_kid.2 (.inr (ihr ho.2.1 ho.2.2.2 b hb a ha hn))
 | bind x t q r _ ihr=>exact fun b hb a ha hn=>mem_fv_bind.2 (.inr (ihr ho.2.1 ho.2.2.2.2 b hb a ha hn))
 | alt f n s vs q r _ ihr =>
  simp only[Cr.alts,List.mem_cons,forall_eq_or_imp];exact⟨fun a ha hn=>mem_fv_alt.2 (.inl ⟨ha,hn⟩),fun b hb a ha hn=>mem_fv_alt.2 (.inr (ihr ho.2.1 ho.2.2.2.2.2.2 b hb a ha hn))⟩
theorem zC1 {fr ns far:List ByteArray} {x:ByteArray} {rs:List (ByteArray×ByteArray)} (h:plan fr ns x far=some rs):x∈fr/\x∉ns/\rs=rens far ns (fr++ns++far):=by
 unfold plan at h;split at h
 ·rename_i q;injection h with h;exact⟨q.1,q.2,h.symm⟩
 ·cases h
theorem zI9 {fr ns far:List ByteArray} {x:ByteArray} (h:plan fr ns x far=none):x∈fr->x∈ns:=fun h1=>by
 unfold plan at h;split at h
 ·cases h
 ·rename_i q;by_cases hx:x∈ns
  ·exact hx
  ·exact absurd ⟨h1,hx⟩ q
theorem zIC (z:ByteArray):(vr z).Ok:=⟨rfl,fun _=>⟨rfl,rfl⟩,fun h=>absurd h (by decide),rfl,fun h=>absurd rfl h,fun h=>absurd rfl h,List.nodup_nil,trivial⟩
theorem z4V (z:ByteArray):(vr z).sz=1:=rfl
abbrev Stays (k:Nat):Prop := ∀(c:Cr) (x:ByteArray) (b:Cr),c.isN=true->c.Ok->b.isN=true->b.Ok->(sbF k c x b).isN=true/\(sbF k c x b).Ok/\(b.sz=1->(sbF k c x b).sz=c.sz)
theorem zRM {k:Nat} (ih:Stays k):∀(rs:List (ByteArray×ByteArray)) (p:Cr),p.isN=true->p.Ok->(zFR k rs p).isN=true/\(zFR k rs p).Ok/\(zFR k rs p).sz=p.sz
 | [],p,h1,h2=>⟨h1,h2,rfl⟩
 | q::rs,p,h1,h2=>by
  obtain⟨a1,a2,a3⟩:=ih p q.1 (vr q.2) h1 h2 rfl (zIC _);obtain⟨b1,b2,b3⟩:=zRM ih rs _ a1 a2;exact⟨b1,b2,b3.trans (a3 (z4V _))⟩
theorem z5V {φ:List (ByteArray×ByteArray)->Cr->Cr} {x:ByteArray} {far vs:List ByteArray} {p:Cr} {N:Prop} (hv:vs.Nodup) (h1:p.isN=true) (h2:p.Ok) (h:∀rs,(φ rs p).isN=true/\(φ rs p).Ok/\(N->(φ rs p).sz=p.sz)) :
  (zJQ φ x far vs p).1.Nodup/\(zJQ φ x far vs p).2.isN=true/\(zJQ φ x far vs p).2.Ok/\(N->(zJQ φ x far vs p).2.sz=p.sz):=by
 unfold zJQ;cases hp:plan p.fv vs x far with
 | none=>exact⟨hv,h1,h2,fun _=>rfl⟩
 | some rs =>
  obtain⟨q1,q2,q3⟩:=zC1 hp;refine⟨?_,h rs⟩;show (vs.map (nw rs)).Nodup;rw[q3,zIY _ _ _ hv];exact zDS _ _ _ hv fun y hy=>by simp[hy]
theorem zKY (k:Nat):Stays k:=by
 induction k with
 | zero=>intro c x b hn ho _ _;cases c<;>first|(cases hn;done)|exact⟨rfl,ho,fun _=>rfl⟩
 | succ k ih =>
  intro c x b hn ho hbn hbo;cases c with
  | node f n s t g =>
   obtain⟨hg,hgo⟩:=zN ho;simp only[sbF];have gen:∀(φ:Cr->Cr) (ν:ByteArray->ByteArray) (α:List ByteArray->Cr->List ByteArray×Cr) (s':ByteArray),((g.binds.map (·.1)).map ν).Nodup->(∀p,p.isN=true->p.Ok->(φ p).isN=true/\(φ p).Ok/\(b.sz=1->(φ p).sz=p.sz))->(∀vs p,vs.Nodup->p.isN=true->p.Ok->(α vs p).1.Nodup/\(α vs p).2.isN=true/\(α vs p).2.Ok/\(b.sz=1->(α vs p).2.sz=p.sz)) ->
     (Cr.node f n s' t (yO φ id ν α g)).isN=true/\(Cr.node f n s' t (yO φ id ν α g)).Ok/\(b.sz=1->(Cr.node f n s' t (yO φ id ν α g)).sz=(Cr.node f n s t g).sz):=fun φ ν α s' hν hφ hα=>by
    have hk:∀p∈g.kids,_:=fun p hp=>hφ p (hgo.kid hp).1 (hgo.kid hp).2;have hb:∀b∈g.binds,_:=fun b hb=>hφ b.2.2 (hgo.bind hb).1 (hgo.bind hb).2;have ha:∀a∈g.alts,_:=fun a ha=>hα a.2.1 a.2.2 (hgo.alt ha).2.2 (hgo.alt ha).1 (hgo.alt ha).2.1;refine⟨rfl,zYH ho id (zW9 hg hgo (fun p hp=>⟨(hk p hp).2.1,(hk p hp).1⟩) (fun b hp=>⟨(hb b hp).2.1,(hb b hp).1⟩) (fun a hp=>⟨(ha a hp).2.2.1,(ha a hp).2.1,(ha a hp).1⟩)) hν,fun h1=>?_⟩;simp only[Cr.sz];rw[zXA hg hgo (fun p hp=>(hk p hp).2.2 h1) (fun b hp=>(hb b hp).2.2 h1) (fun a hp=>(ha a hp).2.2.2 h1)]
   have one:∀(rs:List (ByteArray×ByteArray)) (p:Cr),p.isN=true->p.Ok->(sbF k (zFR k rs p) x b).isN=true/\(sbF k (zFR k rs p) x b).Ok/\(b.sz=1->(sbF k (zFR k rs p) x b).sz=p.sz):=fun rs p h1 h2=>by
    obtain⟨a1,a2,a3⟩:=zRM ih rs p h1 h2;obtain⟨b1,b2,b3⟩:=ih _ x b a1 a2 hbn hbo;exact⟨b1,b2,fun q=>(b3 q).trans a3⟩
   have alt:∀(vs:List ByteArray) (p:Cr),vs.Nodup->p.isN=true->p.Ok->_:=fun vs p hv h1 h2=>z5V (φ:=fun rs p=>sbF k (rs.foldl (fun p q=>sbF k p q.1 (vr q.2)) p) x b) (x:=x) (far:=b.fv) (N:=b.sz=1) hv h1 h2 fun rs=>one rs p h1 h2;have hid:((g.binds.map (·.1)).map id).Nodup:=by rw[List.map_id];exact ho.2.2.2.2.2.2.1
   split
   ·split
    ·exact⟨hbn,hbo,fun hb1=>by rename_i h1 _;rw[hb1,(ho.2.1 h1).2];rfl⟩
    ·exact⟨rfl,ho,fun _=>rfl⟩
   split
   ·split
    ·split
     ·refine gen _ _ _ _ hid (fun p hn hp=>?_) (fun vs p hv hn hp=>⟨hv,hn,hp,fun _=>rfl⟩);obtain⟨q1,q2,q3⟩:=zFF k p s (.var (lett (ff (b.tv++g.tv)))) hp;obtain⟨r1,r2,r3⟩:=ih _ x b (by rw[zHC];exact hn) q3 hbn hbo;exact⟨r1,r2,fun q=>(r3 q).trans q1⟩
     ·exact gen _ _ _ _ hid (fun p hn hp=>ih p x b hn hp hbn hbo) (fun vs p hv hn hp=>⟨hv,hn,hp,fun _=>rfl⟩)
    ·exact⟨rfl,ho,fun _=>rfl⟩
   ·split
    ·exact gen _ _ _ _ hid (fun p hn hp=>⟨hn,hp,fun _=>rfl⟩) alt
    ·rename_i rs hp;obtain⟨q1,q2,q3⟩:=zC1 hp;refine gen _ _ _ _ ?_ (one rs) alt;have hnd:=zDI ho;have:((Cr.node f n s t g).names0.map (nw rs)).Nodup:=by
      rw[q3,zIY _ _ _ hnd];exact zDS _ _ _ hnd fun y hy=>List.mem_append_left _ (List.mem_append_right _ hy)
     simp only[Cr.names0,List.map_append] at this;exact (List.nodup_append.1 this).2.1
  | _=>cases hn
abbrev z9L (k:Nat):Prop := ∀(c:Cr) (x:ByteArray) (b:Cr) (e e' d:List ByteArray) (σ:ByteArray->DC),c.Ok->c.isN=true->b.Ok->b.isN=true->c.sz<=k->AgC c.fv x b e e' d σ->dbc (sbF k c x b) e' d=sbD σ .fr (dbc c e d)
theorem z8A {k:Nat} (ih:z9L k) {c b:Cr} {x:ByteArray} (ho:c.Ok) (hn:c.isN=true) (hbo:b.Ok) (hbn:b.isN=true) (hk:c.sz<=k) (y:ByteArray):y∈(sbF k c x b).fv↔(y≠x/\y∈c.fv)∨(x∈c.fv/\y∈b.fv):=by
 have h1:dbc (sbF k c x b) [] []=sbD (fun y=>dbc (wF y x b) [] []) .fr (dbc c [] []):=ih c x b [] [] [] _ ho hn hbo hbn hk fun y hy => .inr ⟨by simp,by simp,by simp,rfl⟩;have h2:=zIA (sbF k c x b) [] [] y;rw[h1,zaC _ x (dbc b [] []) _ _ (by simp[wF]) (fun z hz=>by simp only[wF,if_neg (Ne.symm hz)];exact zGZ z)] at h2;have h3:=zIA c [] [] y;have h4:=zIA c [] [] x;have h5:=zIA b [] [] y;simp only[List.not_mem_nil,not_false_eq_true,and_true] at h2 h3 h4 h5;rw[<-h2,<-h3,<-h4,<-h5];by_cases hy:y=x
 ·rw[if_pos hy,Nat.zero_add];constructor
  ·intro h;exact .inr ⟨Nat.pos_of_mul_pos_right h,Nat.pos_of_mul_pos_left h⟩
  ·rintro (h|⟨h,h'⟩)
   ·exact absurd hy h.1
   ·exact Nat.mul_pos h h'
 ·rw[if_neg hy];constructor
  ·intro h;rcases Nat.eq_zero_or_pos (wS (dbc c [] []) y) with h0|h0
   ·rw[h0,Nat.zero_add] at h;exact .inr ⟨Nat.pos_of_mul_pos_right h,Nat.pos_of_mul_pos_left h⟩
   ·exact .inl ⟨hy,h0⟩
  ·rintro (⟨_,h⟩|⟨h,h'⟩)
   ·omega
   ·have:=Nat.mul_pos h h';omega
theorem zVR {k:Nat} (ih:z9L k) (far e d:List ByteArray):∀(ns tk pre:List ByteArray) (p:Cr),ns.Nodup->p.isN=true->p.Ok->p.sz<=k->(∀y∈p.fv,y∈tk)->(∀y∈ns,y∈tk) ->
  dbc (zFR k (rens far ns tk) p) ((pre++outs far ns tk).reverse++e) d=dbc p ((pre++ns).reverse++e) d/\(∀y∈(zFR k (rens far ns tk) p).fv,y∈outs far ns tk∨(y∈p.fv/\(y∈ns->y∉far)))
 | [],tk,pre,p,_,_,_,_,_,_=>⟨rfl,fun y hy => .inr ⟨hy,fun h=>by cases h⟩⟩
 | n::ns,tk,pre,p,hnd,hpn,hpo,hk,hfv,hns=>by
  have hn:=List.nodup_cons.1 hnd;simp only[rens,outs];by_cases hf:n∈far
  ·rw[if_pos hf,if_pos hf];obtain⟨z,hz⟩:∃z,z=lett (ff tk):=⟨_,rfl⟩
   have hnew:z∉tk:=hz ▸ zBA tk;rw[<-hz];obtain⟨a1,a2,a3⟩:=zKY k p n (vr z) hpn hpo rfl (zIC z);have a3:=a3 (z4V z);have hfree:∀y,y∈(sbF k p n (vr z)).fv↔(y≠n/\y∈p.fv)∨(n∈p.fv/\y=z):=fun y=>by rw[z8A ih hpo hpn (zIC z) rfl hk,zJ5];simp
   have hzns:z∉ns.reverse:=fun h=>hnew (hns z (by simp at h;simp[h]));have hnns:n∉ns.reverse:=by simpa using hn.1
   have e1:dbc (sbF k p n (vr z)) (ns.reverse++z::(pre.reverse++e)) d=dbc p (ns.reverse++n::(pre.reverse++e)) d:=by
    rw[ih p n (vr z) (ns.reverse++n::(pre.reverse++e)) (ns.reverse++z::(pre.reverse++e)) d .fr hpo hpn (zIC z) rfl hk (fun y hy=>?_),zNO];have hyz:y≠z:=fun h=>hnew (h ▸ hfv y hy);by_cases hyn:y=n
    ·subst hyn;exact .inl ⟨by simp,z,by simp[wF],by simp,by rw[z7K hnns,z7K hzns]⟩
    ·have hl:wF y n (vr z)=vr y:=by simp[wF,Ne.symm hyn]
     rw[hl];by_cases hin:y∈ns.reverse++(pre.reverse++e)
     ·have:y∈ns∨y∈pre∨y∈e:=by simpa using hin
      refine .inl ⟨?_,y,rfl,?_,(z8Z hyn hyz).symm⟩<;>(simp only[List.mem_append,List.mem_reverse,List.mem_cons];rcases this with h|h|h<;>simp[h])
     ·have:¬(y∈ns∨y∈pre∨y∈e):=by simpa using hin
      simp only[not_or] at this;refine .inr ⟨?_,fun w hw=>?_,by simp[z1W],(zGZ y).symm⟩
      ·simp[this,hyn]
      ·rw[zJ5] at hw;simp only[List.mem_singleton] at hw;subst hw;simp[this,hyz]
   obtain⟨i1,i2⟩:=zVR ih far e d ns (tk++[z]) (pre++[z]) (sbF k p n (vr z)) hn.2 a1 a2 (by omega) (fun y hy=>by
    rcases (hfree y).1 hy with⟨_,h⟩|⟨_,h⟩
    ·simp[hfv y h]
    ·simp[h]) (fun y hy=>by simp[hns y (by simp[hy])])
   refine⟨?_,fun y hy=>?_⟩
   ·have e2:(pre++z::outs far ns (tk++[z])).reverse++e=(pre++[z]++outs far ns (tk++[z])).reverse++e:=by simp
    have e3:(pre++[z]++ns).reverse++e=ns.reverse++z::(pre.reverse++e):=by simp
    have e4:(pre++n::ns).reverse++e=ns.reverse++n::(pre.reverse++e):=by simp
    rw[e2,e4,<-e1,<-e3];exact i1
   ·rcases i2 y hy with h|⟨h1,h2⟩
    ·exact .inl (by simp[h])
    ·rcases (hfree y).1 h1 with⟨h3,h4⟩|⟨_,h4⟩
     ·exact .inr ⟨h4,fun h=>by rcases List.mem_cons.1 h with h|h;exact absurd h h3;exact h2 h⟩
     ·exact .inl (by simp[h4])
  ·rw[if_neg hf,if_neg hf];obtain⟨i1,i2⟩:=zVR ih far e d ns tk (pre++[n]) p hn.2 hpn hpo hk hfv (fun y hy=>hns y (by simp[hy]));refine⟨by simpa using i1,fun y hy=>?_⟩;rcases i2 y hy with h|⟨h1,h2⟩
   ·exact .inl (by simp[h])
   ·exact .inr ⟨h1,fun h=>by rcases List.mem_cons.1 h with h|h;exact h ▸ hf;exact h2 h⟩
theorem zO8 (far:List ByteArray):∀(ns tk:List ByteArray) (y:ByteArray),y∈ns->y∉far->y∈outs far ns tk
 | n::ns,tk,y,h,hf=>by
  simp only[outs];rcases List.mem_cons.1 h with rfl|h
  ·rw[if_neg hf];simp
  ·split<;>exact List.mem_cons_of_mem _ (zO8 far ns _ y h hf)
theorem AgC.stay {S:List ByteArray} {x:ByteArray} {b:Cr} {e e' d:List ByteArray} {σ:ByteArray->DC} (h:AgC S x b e e' d σ) (hx:∀y∈S,y≠x):∀y∈S,(y∈e/\y∈e'/\ixN e' y=ixN e y)∨(y∉e/\y∉e'/\σ y = .fr y):=fun y hy=>by
 have h:=h y hy;rw[show wF y x b=vr y by simp[wF,Ne.symm (hx y hy)]] at h;rcases h with⟨q1,y',q2,q3,q4⟩|⟨q1,q2,q3,q4⟩
 ·injection q2 with _ _ q2;subst q2;exact .inl ⟨q1,q3,q4⟩
 ·exact .inr ⟨q1,q2 y (by rw[zJ5];simp),by rw[q4,zGZ]⟩
theorem zTT {k:Nat} (ih:z9L k) {ns fr:List ByteArray} {p b:Cr} {x:ByteArray} {e e' d:List ByteArray} {σ:ByteArray->DC} (hnd:ns.Nodup) (hpn:p.isN=true) (hpo:p.Ok) (hbo:b.Ok) (hbn:b.isN=true) (hk:p.sz<=k) (hfr:∀y∈p.fv,y∈fr)
  (h:∀y∈p.fv,y∉ns->(y∈e/\∃y',wF y x b=vr y'/\y'∈e'/\ixN e' y'=ixN e y)∨(y∉e/\(∀z∈(wF y x b).fv,z∉e')/\(∀z∈(wF y x b).tv,z∉d)/\σ y=dbc (wF y x b) [] [])) :
  (plan fr ns x b.fv=none->dbc p (ns.reverse++e') d=sbD σ .fr (dbc p (ns.reverse++e) d)) /\
  ∀rs,plan fr ns x b.fv=some rs->dbc (sbF k (zFR k rs p) x b) ((ns.map (nw rs)).reverse++e') d=sbD σ .fr (dbc p (ns.reverse++e) d):=by
 refine⟨fun hp=>?_,fun rs hp=>?_⟩
 ·have hx:=zI9 hp;refine zXZ p _ _ d σ hpo fun y hy=>?_;by_cases hyn:y∈ns
  ·exact .inl ⟨by simp[hyn],by simp[hyn],zVW (by simpa using hyn)⟩
  ·have hr:y∉ns.reverse:=by simpa using hyn
   have hyx:y≠x:=fun q=>hyn (q ▸ hx (q ▸ hfr y hy));have:=h y hy hyn;rw[show wF y x b=vr y by simp[wF,Ne.symm hyx]] at this;rcases this with⟨q1,y',q2,q3,q4⟩|⟨q1,q2,q3,q4⟩
   ·injection q2 with _ _ q2;subst q2
    exact .inl ⟨by simp[q1],by simp[q3],by rw[zBL hr,zBL hr,q4]⟩
   ·exact .inr ⟨by simp[hyn,q1],by simp[hyn,q2 y (by rw[zJ5];simp)],by rw[q4,zGZ]⟩
 ·obtain⟨hx1,hx2,rfl⟩:=zC1 hp;obtain⟨tk,htk⟩:∃tk,tk=fr++ns++b.fv:=⟨_,rfl⟩
  rw[<-htk,zIY _ _ _ hnd];obtain⟨r1,r2⟩:=zVR ih b.fv e d ns tk [] p hnd hpn hpo hk (fun y hy=>by rw[htk];simp[hfr y hy]) (fun y hy=>by rw[htk];simp[hy]);obtain⟨a1,a2,a3⟩:=zRM (zKY k) (rens b.fv ns tk) p hpn hpo;have hom:=zEL b.fv ns tk;simp only[List.nil_append] at r1;rw[<-r1];refine ih _ x b _ _ d σ a2 a1 hbo hbn (by omega) fun y hy=>?_;by_cases hyo:y∈outs b.fv ns tk
  ·have hyx:y≠x:=fun q=>by
    subst q;rcases hom y hyo with⟨q1,_⟩|q1
    ·exact hx2 q1
    ·exact q1 (by rw[htk];simp[hx1])
   rw[show wF y x b=vr y by simp[wF,Ne.symm hyx]];exact .inl ⟨by simp[hyo],y,rfl,by simp[hyo],zVW (by simpa using hyo)⟩
  ·have hr:y∉(outs b.fv ns tk).reverse:=by simpa using hyo
   obtain⟨hyp,hyf⟩:y∈p.fv/\(y∈ns->y∉b.fv):=(r2 y hy).resolve_left hyo;have hyn:y∉ns:=fun q=>hyo (zO8 _ _ _ _ q (hyf q));have hno:∀w∈(wF y x b).fv,w∉outs b.fv ns tk:=fun w hw hwo=>by
    unfold wF at hw;split at hw
    ·rcases hom w hwo with⟨_,q⟩|q
     ·exact q hw
     ·exact q (by rw[htk];simp[hw])
    ·rw[zJ5] at hw;simp only[List.mem_singleton] at hw;subst hw;exact hyo hwo
   rcases h y hyp hyn with⟨q1,y',q2,q3,q4⟩|⟨q1,q2,q3,q4⟩
   ·have hy':y'∉(outs b.fv ns tk).reverse:=by
     have:=hno y' (by rw[q2,zJ5];simp);simpa using this
    exact .inl ⟨by simp[q1],y',q2,by simp[q3],by rw[zBL hr,zBL hy',q4]⟩
   ·exact .inr ⟨by simp[hyo,q1],fun w hw=>by
     simp only[List.mem_append,List.mem_reverse,not_or];exact⟨hno w hw,q2 w hw⟩,q3,q4⟩
theorem zLX (n:Int) (s:ByteArray) (e d:List ByteArray):dbc (.node 1 n s .no .nil) e d=if memb s e then .bv (ixN e s) else .fr s:=by
 show (if (1:Int)=1 then _ else _)=_;rw[if_pos rfl]
theorem z3K (k:Nat):z9L k:=by
 induction k with
 | zero=>intro c x b e e' d σ ho hn _ _ hk;cases c<;>first|(cases hn;done)|(simp only[Cr.sz] at hk;omega)
 | succ k ih =>
  intro c x b e e' d σ ho hn hbo hbn hk h;cases c with
  | node f n s t g =>
   obtain⟨hg,hgo⟩:=zN ho;have hkg:g.sz<=k:=by simp only[Cr.sz] at hk;omega
   simp only[sbF];by_cases h1:f=1
   ·obtain⟨ht,hgn⟩:=ho.2.1 h1;subst h1;subst ht;subst hgn;rw[if_pos rfl];have h:=h s (by rw[zD1];simp);by_cases hsx:s=x
    ·subst hsx;rw[if_pos rfl];rw[show wF s s b=b by simp[wF]] at h;rw[zLX];rcases h with⟨q1,y',q2,q3,q4⟩|⟨q1,q2,q3,q4⟩
     ·rw[if_pos (zS q1),q2,zdY,if_pos (zS q3),q4];rfl
     ·rw[if_neg (by rw[yM q1];simp)];have:=z5Y b [] [] e' d hbo (fun w hw _=>q2 w hw) (fun w hw _=>q3 w hw);simp only[List.nil_append] at this;rw[this,<-q4];rfl
    ·rw[if_neg hsx];rw[show wF s x b=vr s by simp[wF,Ne.symm hsx]] at h;rw[zLX,zLX];rcases h with⟨q1,y',q2,q3,q4⟩|⟨q1,q2,q3,q4⟩
     ·injection q2 with _ _ q2;subst q2
      rw[if_pos (zS q1),if_pos (zS q3),q4];rfl
     ·rw[if_neg (by rw[yM (q2 s (by rw[zJ5];simp))];simp),if_neg (by rw[yM q1];simp)];rw[zGZ] at q4;exact q4.symm
   rw[if_neg h1];by_cases h7:f=7
   ·subst h7;obtain⟨hty,p,rfl,hpn,hpo⟩:=zR1 ho;subst hty;rw[z7A] at hkg;rw[if_pos rfl,zRB];have hfv:∀y,y∈(Cr.node 7 n s .no (.kid p .nil)).fv↔y∈p.fv:=fun y=>by rw[jO (by decide),zc1];simp[Cr.names0,Cr.own,Cr.binds]
    have names:∀(p':Cr) (z:ByteArray) (e:List ByteArray),(Cr.node 7 n z .no (.kid p' .nil)).names0.reverse++e=e:=fun p' z e=>rfl;have hz2:∀(z:ByteArray),z∉b.tv->AgC p.fv x b e e' (z::d) σ:=fun z hz y hy=>by
     rcases h y ((hfv y).2 hy) with q|⟨q1,q2,q3,q4⟩
     ·exact .inl q
     ·refine .inr ⟨q1,q2,fun w hw=>?_,q4⟩;simp only[List.mem_cons,not_or];refine⟨?_,q3 w hw⟩;unfold wF at hw;split at hw
      ·exact fun e=>hz (e ▸ hw)
      ·simp[z1W] at hw
    split
    ·split
     ·rename_i hsb;obtain⟨z,hz⟩:∃z,z=lett (ff (b.tv++p.tv)):=⟨_,rfl⟩
      have hnew:z∉b.tv++p.tv:=hz ▸ zBA _;simp only[List.mem_append,not_or] at hnew;rw[<-hz];obtain⟨q1,q2,q3⟩:=zFF k p s (.var z) hpo;have qn:(stF k p s (.var z)).isN=true:=by rw[zHC];exact hpn
      simp only[yO];rw[zA9,zA9];simp only[sbD];have e1:dbc (stF k p s (.var z)) e (z::d)=dbc p e (s::d):=by
       rw[zW5 k p s (.var z) e (s::d) (z::d) .fr hpo hpn hkg (AgT.renew hnew.2),zNO]
      rw[ih _ x b e e' (z::d) σ q3 qn hbo hbn (by rw[q1];exact hkg) (by rw[q2];exact hz2 z hnew.1),e1]
      rfl
     ·rename_i hsb;simp only[yO];rw[zA9,zA9];simp only[sbD];rw[ih _ x b e e' (s::d) σ hpo hpn hbo hbn hkg (hz2 s hsb)]
      rfl
    ·rename_i hx;exact zXZ _ e e' d σ ho (h.stay fun y hy q=>hx (q ▸ hy))
   rw[if_neg h7];obtain⟨ns,hns⟩:∃ns,ns=(Cr.node f n s t g).names0:=⟨_,rfl⟩
   have hnd:ns.Nodup:=hns ▸ zDI ho;have hup:∀y,y∈g.fv->y∉ns->y∈(Cr.node f n s t g).fv:=fun y h1' h2=>(jO h1).2 ⟨h1',hns ▸ h2⟩;have alts:∀a∈g.alts,∀(m:List ByteArray),m=[]->∀r,r=zJQ (fun rs p=>sbF k (rs.foldl (fun p q=>sbF k p q.1 (vr q.2)) p) x b) x b.fv a.2.1 a.2.2 ->
     r.1.length=a.2.1.length/\dbc r.2 (r.1.reverse++(m.reverse++e')) d=sbD σ .fr (dbc a.2.2 (a.2.1.reverse++(ns.reverse++e)) d):=fun a ha m hm r hr=>by
    have hne:g.alts≠[]:=fun q=>by rw[q] at ha;cases ha
    have hn0:ns=[]:=hns ▸ zDH ho hne;have hs:=zEH ha;have hl:g.isN=false:=hg;rw[hl] at hs;obtain⟨p1,p2⟩:=zTT ih (ns:=a.2.1) (fr:=a.2.2.fv) (p:=a.2.2) (b:=b) (x:=x) (e:=e) (e':=e') (d:=d) (σ:=σ) (hgo.alt ha).2.2 (hgo.alt ha).1 (hgo.alt ha).2.1 hbo hbn (by simp at hs;omega) (fun _ h=>h) fun y hy hyn=>h y (hup y (fva hg hgo a ha y hy hyn) (by rw[hn0];simp));rw[hm,hn0];simp only[List.reverse_nil,List.nil_append];cases hp:plan a.2.2.fv a.2.1 x b.fv with
    | none=>simp only[zJQ,hp] at hr;subst hr;exact⟨rfl,p1 hp⟩
    | some rs=>simp only[zJQ,hp] at hr;subst hr;exact⟨by simp,p2 rs hp⟩
   have part:∀(p:Cr),p.isN=true->p.Ok->p.sz<=k->(∀y∈p.fv,y∈g.fv/\y∈g.parts0.flatMap Cr.fv)->_:=fun p q1 q2 q3 q4=>zTT ih (ns:=ns) (fr:=g.parts0.flatMap Cr.fv) (p:=p) (b:=b) (x:=x) (e:=e) (e':=e') (d:=d) (σ:=σ) hnd q1 q2 hbo hbn q3 (fun y hy=>(q4 y hy).2) fun y hy hyn=>h y (hup y (q4 y hy).1 hyn);have pk:∀p∈g.kids,_:=fun p hp=>part p (hgo.kid hp).1 (hgo.kid hp).2 (by have:=zBF hp;rw[hg] at this;simp at this;omega) fun y hy=>⟨fvk hg hgo p hp y hy,zN0 hp y hy⟩
   have pb:∀b'∈g.binds,_:=fun b' hb=>part b'.2.2 (hgo.bind hb).1 (hgo.bind hb).2 (by have:=zCF hb;rw[hg] at this;simp at this;omega) fun y hy=>⟨fvb hg hgo b' hb y hy,zMJ hb y hy⟩
   rw[<-hns];cases hp:plan (g.parts0.flatMap Cr.fv) ns x b.fv with
   | none =>
    simp only[dbc];have hn1:∀(α:List ByteArray->Cr->List ByteArray×Cr),(Cr.node f n s t (yO id id id α g)).names0=ns:=fun α=>by
     rw[hns];simp only[Cr.names0,Cr.own,Cr.binds,qA hg hgo,List.map_map];rfl
    rw[if_neg h1,if_neg h1,if_neg h7,hn1,<-hns];simp only[sbD,zJZ];rw[zMX (σ:=σ) (υ := .fr) (e:=ns.reverse++e) (d:=d) hg hgo]
    ·exact fun p hp'=>(pk p hp').1 hp
    ·exact fun b' hb=>⟨(pb b' hb).1 hp,(zJZ _).symm⟩
    ·intro a ha;have hne:g.alts≠[]:=fun q=>by rw[q] at ha;cases ha
     have hn0:ns=[]:=hns ▸ zDH ho hne;exact alts a ha ns hn0 _ rfl
   | some rs =>
    simp only[dbc];have hn1:∀(φ:Cr->Cr) (α:List ByteArray->Cr->List ByteArray×Cr),(Cr.node f n (if f=5 then nw rs s else s) t (yO φ id (nw rs) α g)).names0=ns.map (nw rs):=fun φ α=>by rw[hns];exact zU3 ho
    have hl:(if f=5∨f=7 then ByteArray.empty else (if f=5 then nw rs s else s))=(if f=5∨f=7 then ByteArray.empty else s):=by
     by_cases h5:f=5
     ·simp[h5]
     ·simp[h5]
    rw[if_neg h1,if_neg h1,if_neg h7,if_neg h7,hn1,<-hns,hl];simp only[sbD,zJZ];rw[zMX (σ:=σ) (υ := .fr) (e:=ns.reverse++e) (d:=d) hg hgo]
    ·exact fun p hp'=>(pk p hp').2 rs hp
    ·exact fun b' hb=>⟨(pb b' hb).2 rs hp,(zJZ _).symm⟩
    ·intro a ha;have hne:g.alts≠[]:=fun q=>by rw[q] at ha;cases ha
     have hn0:ns=[]:=hns ▸ zDH ho hne;exact alts a ha (ns.map (nw rs)) (by rw[hn0];rfl) _ rfl
  | _=>cases hn
set_option maxHeartbeats 8000000
theorem zB5 (l:List ByteArray):(eSs l).length=l.length:=by simp[eSs]
def Cr.Few:Cr->Prop
 | .nil=>True
 | .node _ _ _ _ g=>g.Few
 | .kid p r=>p.Few/\r.Few
 | .bind _ _ p r=>p.Few/\r.Few
 | .alt _ _ _ vs p r=>vs.length<=10000/\p.Few/\r.Few
theorem Cr.Few.kid {c p:Cr} (h:c.Few) (hp:p∈c.kids):p.Few:=by
 induction c with
 | nil=>cases hp
 | node f n s t g ih=>exact ih h hp
 | kid q r _ ih=>rcases List.mem_cons.1 hp with rfl|hp;exact h.1;exact ih h.2 hp
 | bind x t q r _ ih=>exact ih h.2 hp
 | alt f n s vs q r _ ih=>exact ih h.2.2 hp
theorem Cr.Few.bind {c:Cr} {b:Bdg} (h:c.Few) (hp:b∈c.binds):b.2.2.Few:=by
 induction c with
 | nil=>cases hp
 | node f n s t g ih=>exact ih h hp
 | kid q r _ ih=>exact ih h.2 hp
 | bind x t q r _ ih=>rcases List.mem_cons.1 hp with rfl|hp;exact h.1;exact ih h.2 hp
 | alt f n s vs q r _ ih=>exact ih h.2.2 hp
theorem Cr.Few.alt {c:Cr} {a:Alg} (h:c.Few) (hp:a∈c.alts):a.2.2.Few/\a.2.1.length<=10000:=by
 induction c with
 | nil=>cases hp
 | node f n s t g ih=>exact ih h hp
 | kid q r _ ih=>exact ih h.2 hp
 | bind x t q r _ ih=>exact ih h.2 hp
 | alt f n s vs q r _ ih=>rcases List.mem_cons.1 hp with rfl|hp;exact⟨h.2.1,h.1⟩;exact ih h.2.2 hp
theorem zAY {c:Cr} (h:c.isN=true):0<c.sz:=by cases c<;>first|(cases h;done)|(simp[Cr.sz];omega)
theorem zD3 (g:Cr):g.Ok->g.kids.length+g.binds.length+g.alts.length<=g.sz:=by
 induction g with
 | nil=>intro _;simp[Cr.kids,Cr.binds,Cr.alts]
 | node f n s t g ih=>intro ho;have:=ih (zN ho).2;simp only[Cr.kids,Cr.binds,Cr.alts,Cr.sz];omega
 | kid p r _ ih=>intro ho;have:=ih ho.2.2.2;have:=zAY ho.1;simp only[Cr.kids,Cr.binds,Cr.alts,Cr.sz,List.length_cons];omega
 | bind x t p r _ ih=>intro ho;have:=ih ho.2.2.2.2;have:=zAY ho.1;simp only[Cr.kids,Cr.binds,Cr.alts,Cr.sz,List.length_cons];omega
 | alt f n s vs p r _ ih=>intro ho;have:=ih ho.2.2.2.2.2.2;have:=zAY ho.1;simp only[Cr.kids,Cr.binds,Cr.alts,Cr.sz,List.length_cons];omega
theorem zCN (c:Cr):c.fv.length<=c.sz:=by
 induction c with
 | nil=>simp[Cr.fv]
 | node f n s t g ih =>
  simp only[Cr.fv,Cr.sz];split
  ·simp
  ·have:=zM (fun y=>memb y (Cr.node f n s t g).names0) g.fv [];simp at this;omega
 | kid p r ihp ihr=>have:=zM no r.fv p.fv;simp only[Cr.fv,Cr.sz];omega
 | bind x t p r ihp ihr=>have:=zM no r.fv p.fv;simp only[Cr.fv,Cr.sz];omega
 | alt f n s vs p r ihp ihr =>
  have h1:=zM no r.fv (zC (fun y=>memb y vs) [] p.fv);have h2:=zM (fun y=>memb y vs) p.fv [];simp only[List.length_nil] at h2;simp only[Cr.fv,Cr.sz];omega
def Cr.tn:Cr->Nat
 | .nil=>0
 | .node _ _ _ t g=>t.sz+g.tn
 | .kid p r=>p.tn+r.tn
 | .bind _ t p r=>t.sz+p.tn+r.tn
 | .alt _ _ _ _ p r=>p.tn+r.tn
theorem z5I {c p:Cr} (hp:p∈c.kids):p.tn<=c.tn:=by
 induction c with
 | nil=>cases hp
 | node f n s t g ih=>have:=ih hp;simp only[Cr.tn];omega
 | kid q r _ ih=>simp only[Cr.tn];rcases List.mem_cons.1 hp with rfl|hp;omega;have:=ih hp;omega
 | bind x t q r _ ih=>have:=ih hp;simp only[Cr.tn];omega
 | alt f n s vs q r _ ih=>have:=ih hp;simp only[Cr.tn];omega
theorem zXU {c:Cr} {b:Bdg} (hp:b∈c.binds):b.2.1.sz+b.2.2.tn<=c.tn:=by
 induction c with
 | nil=>cases hp
 | node f n s t g ih=>have:=ih hp;simp only[Cr.tn];omega
 | kid q r _ ih=>have:=ih hp;simp only[Cr.tn];omega
 | bind x t q r _ ih=>simp only[Cr.tn];rcases List.mem_cons.1 hp with rfl|hp;simp only;omega;have:=ih hp;omega
 | alt f n s vs q r _ ih=>have:=ih hp;simp only[Cr.tn];omega
theorem z1S {c:Cr} {a:Alg} (hp:a∈c.alts):a.2.2.tn<=c.tn:=by
 induction c with
 | nil=>cases hp
 | node f n s t g ih=>have:=ih hp;simp only[Cr.tn];omega
 | kid q r _ ih=>have:=ih hp;simp only[Cr.tn];omega
 | bind x t q r _ ih=>have:=ih hp;simp only[Cr.tn];omega
 | alt f n s vs q r _ ih=>simp only[Cr.tn];rcases List.mem_cons.1 hp with rfl|hp;simp only;omega;have:=ih hp;omega
theorem ze0 {c:Cr} (hN:c.isN=true):c.t.sz<=c.tn:=by cases c<;>first|(cases hN;done)|(simp only[Cr.t,Cr.tn];omega)
theorem zEM (c:Cr):c.tv.length<=c.tn:=by
 induction c with
 | nil=>simp[Cr.tv]
 | node f n s t g ih=>have:=zM (fun y=>decide (f=7) && decide (y=s)) g.tv (fvT t);have:=qU t;simp only[Cr.tv,Cr.tn];simp only[fvT] at *;omega
 | kid p r ihp ihr=>have:=zM no r.tv p.tv;simp only[Cr.tv,Cr.tn];omega
 | bind x t p r ihp ihr =>
  have h1:=zM no r.tv (zC no (fvT t) p.tv);have h2:=zM no p.tv (fvT t);have h3:=qU t;simp only[Cr.tv,Cr.tn];simp only[fvT] at *;omega
 | alt f n s vs p r ihp ihr=>have:=zM no r.tv p.tv;simp only[Cr.tv,Cr.tn];omega
theorem zBR {α β:Type} (F:α->List β) {l:List α} {k:Nat} (h:k<l.length):(l.take (k+1)).flatMap F=(l.take k).flatMap F++F l[k]:=by
 rw[List.take_succ_eq_append_getElem h,List.flatMap_append];simp
set_option maxHeartbeats 16000000
abbrev tB (b:Bdg):List ByteArray:=fvT b.2.1++b.2.2.tv
abbrev tA (a:Alg):List ByteArray:=a.2.2.tv
theorem zLP {f:Nat} {a:List AV} {x:AV} {k:Nat} (h:CallsG Tryz.prog (fnv f) [] a [] fun r o h=>r=x/\o=k/\h=[]):zF Tryz.prog f a x :=
 h.lessS fun r o h hp=>⟨h,List.Sublist.refl _,hp.1,rfl,hp.2.2⟩
structure TyS (t:Tp):Prop where
 sub:qB t []
theorem zQJ {t:Tp} (h:TyS t):zF Tryz.prog zMR [eTy t] (eTy t):=by
 have hc:qB t []:=h.sub;unfold qB at hc;rw[zKX] at hc;refine zG ttok mixed Tryz.func57 rfl (by rfl) (Nat.le_of_ble_eq_true rfl) (by kernel_rfl) ?_;refine .inl ⟨_,hc,?_⟩;exact rfl
abbrev pt (b off:Nat):AV := .lit (.pointer (some ⟨b,off,none⟩))
def zB1 (ad:Ad) (x:Nd):List AV:=if x.f=5 then [pt ad.b0 2] else []
def z4I (ad:Ad) (j:Nat):AV:=pt ad.b.no (j*15)
def zFT (ad:Ad) (j:Nat):AV:=pt ad.k.no (j*10)
def zJH (ad:Ad) (j:Nat):AV:=pt ad.b.no (j*15+5)
def zS1 (v:VA) (i:Nat):AV:=pt v.no i
abbrev rg (F:Nat->AV) (n:Nat):List AV:=(List.range n).map F
def mGA (ad:Ad) (x:Nd) (j:Nat):AV:=match x.ls[j]?,ad.vs[j]? with
 | some a,some v => .agg [.sl (rg (zS1 v) a.2.1.length),.sl [pt ad.a.no (j*14+4)]]
 | _,_ => .agg [.sl [],.sl []]
def mNm (ad:Ad) (x:Nd):List AV:=zB1 ad x++rg (z4I ad) x.bs.length
def mPt (ad:Ad) (x:Nd):List AV:=rg (zFT ad) x.ks.length++rg (zJH ad) x.bs.length
def mG (ad:Ad) (x:Nd):List AV:=eG0 (.sl (mNm ad x)) (mPt ad x)::rg (mGA ad x) x.ls.length
theorem rgS (F:Nat->AV) (k:Nat):rg F k++[F k]=rg F (k+1):=by simp[rg,List.range_succ]
theorem zeL (F:Nat->AV) (k:Nat) (r:List AV):(r++rg F k)++[F k]=r++rg F (k+1):=by rw[List.append_assoc,rgS]
theorem zG4 (F:Nat->AV) (hF:∀j,(F j).cells.length=1) (k:Nat):Uni 1 (rg F k):=zcO F hF _
theorem zaH (ad:Ad) (x:Nd):(zB1 ad x).length<=1:=by unfold zB1;split<;>simp
theorem zeO (ad:Ad) (x:Nd):Uni 1 (zB1 ad x):=by unfold zB1;split;exact jF rfl;exact zRQ 1
theorem zbZ {α:Type} (l1 l2:List α) (x:α) (tl:List α):((l1++x::l2)++tl)[l1.length]? = some x:=by simp
theorem zMT (ad:Ad) (x:Nd) (tl:List (Nat×HO)) {off:Nat} {c:AV} (hc:(zBJ ad x)[off]? = some c):∃(i:Nat) (l:List AV),(HP ad x++tl)[i]? = some (ad.b0,HO.cells l)/\l[off]? = some c :=
 ⟨(hM ad x).length,_,zbZ _ [] _ tl,hc⟩
theorem zJW {ls:List Alg} {vs:List VA} {j:Nat} {a:Alg} {v:VA} (ha:ls[j]? = some a) (hv:vs[j]? = some v):(wR ls vs)[j]? = some (zW0 a v):=by
 rw[wR,List.getElem?_zipWith,ha,hv]
theorem zdW {ad:Ad} {x:Nd} (hok:AdOk ad x) (tl:List (Nat×HO)) {j:Nat} {a:Alg} {v:VA} (ha:x.ls[j]? = some a) (hv:ad.vs[j]? = some v) {off:Nat} (ho:off<14) {c:AV} (hc:(zW0 a v).cells[off]? = some c):∃(i:Nat) (l:List AV),(HP ad x++tl)[i]? = some (ad.a.no,HO.cells l)/\l[j*14+off]? = some c:=by
 have hj:=(List.getElem?_eq_some_iff.1 ha).1;have hb:blk ad.a x.ls.length (flR (wR x.ls ad.vs) ad.a.z)=[(ad.a.no,HO.cells (flR (wR x.ls ad.vs) ad.a.z))]:=zEJ hok.a (by omega);have hg:=zJW ha hv;have hj2:=(List.getElem?_eq_some_iff.1 hg).1;have hx:(wR x.ls ad.vs)[j]=zW0 a v:=by rw[List.getElem?_eq_getElem hj2] at hg;exact Option.some.inj hg
 refine⟨(blk ad.k x.ks.length (flR (eCs x.ks) ad.k.z)++blk ad.b x.bs.length (flR (yK x.bs) ad.b.z)).length,flR (wR x.ls ad.vs) ad.a.z,?_,?_⟩
 ·unfold HP hM;rw[hb];simp only[List.append_assoc,List.cons_append,List.nil_append];rw[<-List.append_assoc];simp
 ·rw[zKU (zIL _ _) ad.a.z hj2 off ho,hx];exact hc
theorem zRE {ad : Ad} {x : Nd} (hok : AdOk ad x) (v : VA) (N : Nat) (tl : List (Nat × HO)) (post : AV -> Nat -> List (Nat × HO) -> Prop) (hpost : post (.sl (eG0 (slA v N) (mPt ad x) :: rg (mGA ad x) x.ls.length)) 3 (HP ad x ++ tl)) (ha : x.ls.length <= 1000000) (hv : ∀ a ∈ x.ls, a.2.1.length <= 1000000) :
    Wsem Tryz.prog (zCS (sn4 (bodyC Tryz.f102))) (mkC { vs := [(0, .v (pt ad.b0 0)), (3, .box 0 (eG0 (slA v N) (mPt ad x)))], hp := HP ad x ++ tl })
      (fun c2 => wZ tt Tryz.f102.results.toList post (den c2)) (fun _ _ => False) (fun c2 => wZ tt Tryz.f102.results.toList post (den c2)) := by
  refine Wsem.seq ttok mixed ?_;refine Wsem.seq ttok mixed ?_;obtain ⟨i0, l0, q1, q2⟩ := zMT ad x tl (off := 9) (c := slA ad.a x.ls.length) rfl;refine ⟨i0, l0, _, q1, q2, ?_⟩;refine ⟨{k : Nat // k <= x.ls.length}, fun k => { vs := [(0, .v (pt ad.b0 0)), (7, .v (.sl (eG0 (slA v N) (mPt ad x) :: rg (mGA ad x) k.1))), (82, sv (x.ls.length : Nat)), (83, sv (k.1 : Nat))], ow := [(7, 0, 3)], hp := HP ad x ++ tl },
    fun k => x.ls.length - k.1, ⟨0, Nat.zero_le _⟩, ⟨⟨rfl, rfl, rfl, rfl, trivial⟩, ⟨rfl, trivial⟩, rfl⟩, ?_⟩
  rintro ⟨k, hkk⟩;refine ⟨fun h => ?_, fun h => ?_⟩
  · have h : k < x.ls.length := by have h := of_decide_eq_true h; simp only at h; omega
    have hvv := hv _ (List.getElem_mem h);have hal := List.getElem?_eq_getElem h;have hvl : k < ad.vs.length := by rw [hok.len]; exact h
    have hva := List.getElem?_eq_getElem hvl;have hvok := hok.vs k _ _ hal hva;have hmga : mGA ad x k = .agg [.sl (rg (zS1 ad.vs[k]) x.ls[k].2.1.length), .sl [pt ad.a.no (k * 14 + 4)]] := by unfold mGA; rw [hal, hva]
    generalize x.ls[k] = A at hal hvok hmga hvv;generalize ad.vs[k] = V at hva hvok hmga;have hA0 := hok.a.at (by omega);obtain ⟨i1, l1, q3, q4⟩ := zMT ad x tl (off := 9) (c := .lit (.slice (some ⟨ad.a.no, 0, none⟩) x.ls.length ad.a.cap)) (by show some (slA ad.a x.ls.length) = _; unfold slA; rw [hA0]);refine ⟨i1, l1, _, q3, q4, ?_⟩;refine ⟨by omega, by show (k : Int) < _; omega, ?_⟩;obtain ⟨i2, l2, q5, q6⟩ := zdW hok tl hal hva (off := 3) (by decide) (c := slA V A.2.1.length) rfl;refine ⟨i2, l2, _, q5, by show l2[0 + k * 14 + 3]? = _; rw [Nat.zero_add]; exact q6, ?_⟩
    refine ⟨{j : Nat // j <= A.2.1.length}, fun j => { vs := [(0, .v (pt ad.b0 0)), (7, .v (.sl (eG0 (slA v N) (mPt ad x) :: rg (mGA ad x) k))), (82, sv (x.ls.length : Nat)), (83, sv (k : Nat)),
        (9, .v (pt ad.a.no (k * 14))), (10, .box 0 (.agg [.sl (rg (zS1 V) j.1), .sl [pt ad.a.no (k * 14 + 4)]])), (101, sv (A.2.1.length : Nat)), (102, sv (j.1 : Nat))], ow := [(7, 0, 3), (10, 0, 2)], hp := HP ad x ++ tl },
      fun j => A.2.1.length - j.1, ⟨0, Nat.zero_le _⟩, ⟨⟨rfl, rfl, rfl, rfl, ?_, ?_, rfl, rfl, trivial⟩, ⟨rfl, trivial, trivial⟩, rfl⟩, ?_⟩
    · show SV.v (pt ad.a.no (0 + k * 14)) = _; rw [Nat.zero_add]
    · show SV.box 0 (AV.agg [AV.sl [], AV.sl [pt ad.a.no (0 + k * 14 + 4)]]) = _; rw [Nat.zero_add]; rfl
    rintro ⟨j, hjj⟩;refine ⟨fun h2 => ?_, fun h2 => ?_⟩
    · have h2 : j < A.2.1.length := by have h := of_decide_eq_true h2; simp only at h; omega
      have hV0 := hvok.at (by omega);obtain ⟨i3, l3, q7, q8⟩ := zdW hok tl hal hva (off := 3) (by decide) (c := .lit (.slice (some ⟨V.no, 0, none⟩) A.2.1.length V.cap)) (by show some (slA V A.2.1.length) = _; unfold slA; rw [hV0]);refine ⟨i3, l3, _, q7, q8, ?_⟩;refine ⟨by omega, by show (j : Int) < _; omega, ?_⟩;refine ⟨by simp; omega, zG4 _ (fun _ => rfl) _, jF rfl, ?_⟩;refine ⟨by kernel_rfl, ?_⟩;refine ⟨⟨j + 1, h2⟩, by simp; omega, ⟨rfl, rfl, rfl, rfl, rfl, ?_, rfl, svc (hcut h2 hvv), trivial⟩, ⟨rfl, rfl, trivial⟩, rfl⟩;show SV.box 0 (AV.agg [AV.sl (rg (zS1 V) j ++ [pt V.no (0 + j * 1)]), AV.sl [pt ad.a.no (k * 14 + 4)]]) = SV.box 0 (AV.agg [AV.sl (rg (zS1 V) (j + 1)), AV.sl [pt ad.a.no (k * 14 + 4)]]);rw [<- rgS, show 0 + j * 1 = j by omega]; rfl
    · have h2 : j = A.2.1.length := by have h := of_decide_eq_false h2; simp only at h; omega
      subst h2;refine ⟨by simp; omega, ?_, jF rfl, ?_⟩
      · intro a ha2
        rcases List.mem_cons.1 ha2 with rfl | ha2
        · rfl
        · obtain ⟨y, _, rfl⟩ := List.mem_map.1 ha2; unfold mGA; split <;> rfl
      refine ⟨⟨k + 1, h⟩, by simp; omega, ⟨rfl, ?_, rfl, svc (hcut h ha), trivial⟩, ⟨rfl, trivial⟩, rfl⟩;show SV.v (AV.sl ((_ :: rg (mGA ad x) k) ++ [AV.agg [AV.sl (rg (zS1 V) A.2.1.length), AV.sl [pt ad.a.no (k * 14 + 4)]]])) = SV.v (AV.sl (_ :: rg (mGA ad x) (k + 1)));rw [List.cons_append, <- hmga, rgS]
  · have h : k = x.ls.length := by have h := of_decide_eq_false h; simp only at h; omega
    subst h;refine Wsem.of ttok mixed ?_;exact hpost
abbrev ML (ad:Ad) (x:Nd) (k:Nat):List AV:=zB1 ad x++rg (z4I ad) k
theorem zbH (ad:Ad) (x:Nd) (k:Nat):Uni 1 (ML ad x k):=zNW (zeO ad x) (zG4 _ (fun _=>rfl) _)
def zRA (ad:Ad) (x:Nd) (r:AV) (h:List (Nat×HO)):Prop := ∃v:VA,Grown v (mNm ad x).length/\r = .sl (eG0 (slA v (mNm ad x).length) (mPt ad x)::rg (mGA ad x) x.ls.length)/\h=HP ad x++blk v (mNm ad x).length (flR (mNm ad x) v.z)
theorem zF6 {ad:Ad} {x:Nd} (hok:AdOk ad x) (v0:VA) (hG0:Grown v0 (zB1 ad x).length) (hb:x.bs.length<=1000000) (hk:x.ks.length<=1000000) (ha:x.ls.length<=1000000) (hv:∀a∈x.ls,a.2.1.length<=1000000) :
  Wsem Tryz.prog (sn4 (bodyC Tryz.f102)) (mkC {vs:=[(0,.v (pt ad.b0 0)),(3,.box 0 (eG0 (slA v0 (zB1 ad x).length) (rg (zFT ad) x.ks.length)))],ow:=[(3,1,2)],hp:=HP ad x++blk v0 (zB1 ad x).length (flR (zB1 ad x) v0.z)})
   (fun c2=>wZ tt Tryz.f102.results.toList (fun r _ h=>zRA ad x r h) (den c2)) (fun _ _=>False) (fun c2=>wZ tt Tryz.f102.results.toList (fun r _ h=>zRA ad x r h) (den c2)):=by
 have hn1:=zaH ad x;obtain⟨i0,l0,q1,q2⟩:=zMT ad x (blk v0 (zB1 ad x).length (flR (zB1 ad x) v0.z)) (off:=8) (c:=slA ad.b x.bs.length) rfl;refine Wsem.seqS (Wsem.seq ttok mixed ?_);refine⟨i0,l0,_,q1,q2,?_⟩;refine Wsem.block (Wsem.loop (α:={p:Nat×VA // p.1<=x.bs.length/\Grown p.2 (ML ad x p.1).length}) (fun p=>{vs:=[(0,.v (pt ad.b0 0)),(3,.box 0 (eG0 (slA p.1.2 (ML ad x p.1.1).length) (rg (zFT ad) x.ks.length++rg (zJH ad) p.1.1))),(49,sv (x.bs.length:Nat)),(50,sv (p.1.1:Nat))],ow:=[(3,1,2)],hp:=HP ad x++blk p.1.2 (ML ad x p.1.1).length (flR (ML ad x p.1.1) p.1.2.z)})
  (fun p=>x.bs.length-p.1.1) ⟨(0,v0),Nat.zero_le _,by simpa[ML] using hG0⟩ ⟨⟨rfl,?_,rfl,rfl,trivial⟩,⟨rfl,trivial⟩,?_⟩ ?_)
 ·show SV.box 0 (eG0 _ _)=SV.box 0 (eG0 _ _);simp[ML]
 ·show HP ad x++blk v0 _ _=HP ad x++blk v0 _ _;simp[ML,rg]
 rintro⟨⟨k,v⟩,hkk,hG⟩;simp only at hkk hG;have hlen:(ML ad x k).length=(zB1 ad x).length+k:=by simp[ML]
 refine Wsem.seq ttok mixed ?_;refine Wsem.seq ttok mixed ?_;refine⟨fun h0=>?_,fun h0=>?_⟩
 ·have h:k<x.bs.length:=by have h:=of_decide_eq_true h0;simp only at h;omega
  clear h0;have hB0:=hok.b.at (by omega);obtain⟨i1,l1,q3,q4⟩:=zMT ad x (blk v (ML ad x k).length (flR (ML ad x k) v.z)) (off:=8) (c := .lit (.slice (some ⟨ad.b.no,0,none⟩) x.bs.length ad.b.cap)) (by show some (slA ad.b x.bs.length)=_;unfold slA;rw[hB0]);refine Wsem.seqS (Wsem.block ?_);refine Wsem.seq ttok mixed ?_;refine Wsem.seq ttok mixed ?_;refine⟨i1,l1,_,q3,q4,?_⟩;refine⟨by omega,by show (k:Int)<_;omega,?_⟩;clear q3 q4;obtain⟨A,cap,z⟩:=v;have hun:=zbH ad x k;have e2:ML ad x k++[z4I ad k]=ML ad x (k+1):=zeL (z4I ad) k _;have e3:(rg (zFT ad) x.ks.length++rg (zJH ad) k)++[zJH ad k]=rg (zFT ad) x.ks.length++rg (zJH ad) (k+1):=zeL (zJH ad) k _;have hlen1:(ML ad x (k+1)).length=(ML ad x k).length+1:=by rw[<-e2,List.length_append];rfl
  have hpos:0<(ML ad x (k+1)).length:=by omega
  have ep:(0+k*15+5)=k*15+5:=by omega
  have en:(0+k*15+0)=k*15:=by omega
  have pb:pt ad.b.no (0+k*15+5)=zJH ad k:=by rw[ep];rfl
  have nb:pt ad.b.no (0+k*15+0)=z4I ad k:=by rw[en];rfl
  rcases hG with⟨h0,hA,hcap⟩|⟨h0,b,hA,hcap,hz⟩
  ·simp only at hA hcap;subst hA;subst hcap;rw[show blk (⟨none,0,z⟩:VA) (ML ad x k).length (flR (ML ad x k) z)=[] from zaT rfl];refine Wsem.regionTA (zE2 ttok).two ttok mixed [0,1,2,3,4,5,7,8,9,10,11,12,6,13,14,15,16,17] [false,false,false,false,false,false,false,false,false,false,false,false,true] (by kernel_rfl) ?_;refine⟨by simp,by show (ML ad x k).length+1<=_;omega,jF rfl,h0,rfl,fun b' cap' zs g1 g2=>?_⟩;refine⟨by simp;omega,zNW (zG4 _ (fun _=>rfl) _) (zG4 _ (fun _=>rfl) _),jF rfl,?_⟩;refine⟨by kernel_rfl,?_⟩;refine Wsem.of ttok mixed ?_;have h00:ML ad x k=[]:=List.length_eq_zero_iff.1 h0;have g1':1<=cap':=g1;have g2':zs.length=(cap'-1)*1:=g2;have hg:Grown (⟨some ⟨b',0,none⟩,cap',zs⟩:VA) (ML ad x (k+1)).length := .inr ⟨hpos,b',rfl,by simp only;omega,by simp only;omega⟩;refine⟨⟨(k+1,⟨some ⟨b',0,none⟩,cap',zs⟩),h,hg⟩,by show x.bs.length-(k+1)<x.bs.length-k;omega,⟨rfl,?_,rfl,svc (hcut h hb),trivial⟩,⟨rfl,trivial⟩,?_⟩
   ·show SV.box 0 (eG0 (.lit (.slice (some ⟨b',0,none⟩) (0+1) cap')) ((rg (zFT ad) x.ks.length++rg (zJH ad) k)++[pt ad.b.no (0+k*15+5)]))=SV.box 0 (eG0 (.lit (.slice (some ⟨b',0,none⟩) (ML ad x (k+1)).length cap')) (rg (zFT ad) x.ks.length++rg (zJH ad) (k+1)));rw[hlen1,pb,e3,h0]
   ·show (HP ad x++[])++[(b',HO.cells ([]++([pt ad.b.no (0+k*15+0)].flatMap AV.cells++zs)))]=HP ad x++blk (⟨some ⟨b',0,none⟩,cap',zs⟩:VA) (ML ad x (k+1)).length (flR (ML ad x (k+1)) zs);rw[zI2 hpos rfl,<-e2,h00,List.append_nil,nb];rfl
  ·simp only at hA hcap hz;subst hA;rw[show blk (⟨some ⟨b,0,none⟩,cap,z⟩:VA) (ML ad x k).length (flR (ML ad x k) z)=[(b,HO.cells (flR (ML ad x k) z))] from zI2 h0 rfl];refine Wsem.regionTA (zE2 ttok).two ttok mixed [0,1,2,3,4,5,7,8,9,10,11,12,6,13,14,15,16,17] [false,false,false,false,false,false,false,false,false,false,false,false,true] (by kernel_rfl) ?_;refine⟨by simp,by show (ML ad x k).length+1<=_;omega,jF rfl,(HP ad x).length,flR (ML ad x k) z,by show (HP ad x++[(b,HO.cells (flR (ML ad x k) z))])[(HP ad x).length]? = _;simp,hcap,by have e:(flR (ML ad x k) z).length=(ML ad x k).length*1+z.length:=zFE hun z;show 0+cap*1<=(flR (ML ad x k) z).length;omega,fun hgr b' cap' zs g1 g2=>?_,fun hin=>?_⟩
   ·refine⟨by simp;omega,zNW (zG4 _ (fun _=>rfl) _) (zG4 _ (fun _=>rfl) _),jF rfl,?_⟩;refine⟨by kernel_rfl,?_⟩;refine Wsem.of ttok mixed ?_;have g1':(ML ad x k).length+1<=cap':=g1;have g2':zs.length=(cap'-((ML ad x k).length+1))*1:=g2;have hg:Grown (⟨some ⟨b',0,none⟩,cap',zs⟩:VA) (ML ad x (k+1)).length := .inr ⟨hpos,b',rfl,by simp only;omega,by simp only;omega⟩;refine⟨⟨(k+1,⟨some ⟨b',0,none⟩,cap',zs⟩),h,hg⟩,by show x.bs.length-(k+1)<x.bs.length-k;omega,⟨rfl,?_,rfl,svc (hcut h hb),trivial⟩,⟨rfl,trivial⟩,?_⟩
    ·show SV.box 0 (eG0 (.lit (.slice (some ⟨b',0,none⟩) ((ML ad x k).length+1) cap')) ((rg (zFT ad) x.ks.length++rg (zJH ad) k)++[pt ad.b.no (0+k*15+5)]))=SV.box 0 (eG0 (.lit (.slice (some ⟨b',0,none⟩) (ML ad x (k+1)).length cap')) (rg (zFT ad) x.ks.length++rg (zJH ad) (k+1)));rw[hlen1,pb,e3]
    ·show (HP ad x++[(b,HO.cells (flR (ML ad x k) z))]).set (HP ad x).length (b',HO.cells (((flR (ML ad x k) z).drop 0).take ((ML ad x k).length*1)++([pt ad.b.no (0+k*15+0)].flatMap AV.cells++zs)))=HP ad x++blk (⟨some ⟨b',0,none⟩,cap',zs⟩:VA) (ML ad x (k+1)).length (flR (ML ad x (k+1)) zs);rw[zI2 hpos rfl,<-e2,zK7,nb,zdH rfl hun rfl]
   ·refine⟨by simp;omega,zNW (zG4 _ (fun _=>rfl) _) (zG4 _ (fun _=>rfl) _),jF rfl,?_⟩;refine⟨by kernel_rfl,?_⟩;refine Wsem.of ttok mixed ?_;have hin':(ML ad x k).length+1<=cap:=hin;have hg:Grown (⟨some ⟨b,0,none⟩,cap,z.drop 1⟩:VA) (ML ad x (k+1)).length := .inr ⟨hpos,b,rfl,by simp only;omega,by simp only[List.length_drop];omega⟩;refine⟨⟨(k+1,⟨some ⟨b,0,none⟩,cap,z.drop 1⟩),h,hg⟩,by show x.bs.length-(k+1)<x.bs.length-k;omega,⟨rfl,?_,rfl,svc (hcut h hb),trivial⟩,⟨rfl,trivial⟩,?_⟩
    ·show SV.box 0 (eG0 (.lit (.slice (some ⟨b,0,none⟩) ((ML ad x k).length+1) cap)) ((rg (zFT ad) x.ks.length++rg (zJH ad) k)++[pt ad.b.no (0+k*15+5)]))=SV.box 0 (eG0 (.lit (.slice (some ⟨b,0,none⟩) (ML ad x (k+1)).length cap)) (rg (zFT ad) x.ks.length++rg (zJH ad) (k+1)));rw[hlen1,pb,e3]
    ·show (HP ad x++[(b,HO.cells (flR (ML ad x k) z))]).set (HP ad x).length (b,HO.cells (setAt (flR (ML ad x k) z) (0+(ML ad x k).length*1) ([pt ad.b.no (0+k*15+0)].flatMap AV.cells)))=HP ad x++blk (⟨some ⟨b,0,none⟩,cap,z.drop 1⟩:VA) (ML ad x (k+1)).length (flR (ML ad x (k+1)) (z.drop 1));rw[zI2 hpos rfl,<-e2,zK7,nb,zeD rfl hun rfl (by omega)]
 ·have h:k=x.bs.length:=by have h:=of_decide_eq_false h0;simp only at h;omega
  clear h0;subst h;have e1:ML ad x x.bs.length=mNm ad x:=rfl;simp only[e1] at hG hlen⊢;refine Wsem.cut _ ?_ (zRE hok v (mNm ad x).length (blk v (mNm ad x).length (flR (mNm ad x) v.z)) _ ⟨v,hG,rfl,rfl⟩ ha hv);exact⟨⟨rfl,rfl,trivial⟩,trivial,rfl⟩
theorem z0D {ad:Ad} {x:Nd} (hok:AdOk ad x) (hk:x.ks.length<=1000000) (hb:x.bs.length<=1000000) (ha:x.ls.length<=1000000) (hv:∀a∈x.ls,a.2.1.length<=1000000):CallsG Tryz.prog (fnv zF5) (HP ad x) [pt ad.b0 0] [] fun r _ h=>zRA ad x r h:=by
 obtain⟨i0,l0,q1,q2⟩:=zMT ad x [] (off:=7) (c:=slA ad.k x.ks.length) rfl;rw[List.append_nil] at q1;refine yF (first:=[]) (cap:=[]) ttok mixed Tryz.func102 rfl (by rfl) rfl (Nat.le_of_ble_eq_true rfl) (by kernel_rfl) ?_;refine Wsem.seq ttok mixed ?_;refine Wsem.seq ttok mixed ?_;refine Wsem.nilBox 3 0 rfl rfl ?_;refine Wsem.seq ttok mixed ?_;refine⟨i0,l0,_,q1,q2,?_⟩;refine⟨{k:Nat // k<=x.ks.length},fun k=>{vs:=[(0,.v (pt ad.b0 0)),(3,.box 0 (eG0 (.lit (.slice none 0 0)) (rg (zFT ad) k.1))),(16,sv (x.ks.length:Nat)),(17,sv (k.1:Nat))],ow:=[(3,1,2)],hp:=HP ad x},
  fun k=>x.ks.length-k.1,⟨0,Nat.zero_le _⟩,⟨⟨rfl,rfl,rfl,rfl,trivial⟩,⟨trivial,trivial⟩,rfl⟩,?_⟩
 rintro⟨k,hkk⟩;refine⟨fun h=>?_,fun h=>?_⟩
 ·have h:k<x.ks.length:=by have h:=of_decide_eq_true h;simp only at h;omega
  have hK0:=hok.k.at (by omega);obtain⟨i1,l1,q3,q4⟩:=zMT ad x [] (off:=7) (c := .lit (.slice (some ⟨ad.k.no,0,none⟩) x.ks.length ad.k.cap)) (by show some (slA ad.k x.ks.length)=_;unfold slA;rw[hK0]);rw[List.append_nil] at q3;refine⟨i1,l1,_,q3,q4,?_⟩;refine⟨by omega,by show (k:Int)<_;omega,?_⟩;refine⟨by simp;omega,zG4 _ (fun _=>rfl) _,jF rfl,?_⟩;refine⟨by kernel_rfl,?_⟩;refine⟨⟨k+1,h⟩,by simp;omega,⟨rfl,?_,rfl,svc (hcut h hk),trivial⟩,⟨rfl,trivial⟩,rfl⟩;show SV.box 0 (eG0 (.lit (.slice none 0 0)) (rg (zFT ad) k++[pt ad.k.no (0+k*10)]))=SV.box 0 (eG0 (.lit (.slice none 0 0)) (rg (zFT ad) (k+1)));rw[<-rgS,Nat.zero_add];rfl
 ·have h:k=x.ks.length:=by have h:=of_decide_eq_false h;simp only at h;omega
  subst h;obtain⟨i2,l2,q5,q6⟩:=zMT ad x [] (off:=0) (c := .lit (.int .i64 x.f)) rfl;rw[List.append_nil] at q5;refine Wsem.seqS (Wsem.seq ttok mixed ?_);refine⟨i2,l2,_,q5,q6,?_⟩;refine Wsem.cond rfl (fun h5=>?_) (fun h5=>?_)
  ·have h5:x.f=5:=of_decide_eq_true h5;have hnm:zB1 ad x=[pt ad.b0 2]:=by unfold zB1;rw[if_pos h5]
   refine Wsem.regionTA (zE2 ttok).two ttok mixed [0,1,2,3,4,5,6,7,8] [false,false,false,false,false,false,true] (by kernel_rfl) ?_;refine⟨by simp,by simp,jF rfl,rfl,rfl,fun b' cap' zs g1 g2=>?_⟩;refine⟨by kernel_rfl,?_⟩;have g1':1<=cap':=g1;have g2':zs.length=(cap'-1)*1:=g2;refine Wsem.cut _ ?_ (zF6 hok ⟨some ⟨b',0,none⟩,cap',zs⟩ (.inr ⟨by rw[hnm];exact Nat.zero_lt_one,b',rfl,by rw[hnm];exact g1',by rw[hnm];simp only[List.length_cons,List.length_nil];omega⟩) hb hk ha hv);refine⟨⟨rfl,?_,trivial⟩,⟨rfl,trivial⟩,?_⟩
   ·show SV.box 0 (eG0 (.lit (.slice (some ⟨b',0,none⟩) (0+1) cap')) (rg (zFT ad) x.ks.length))=SV.box 0 (eG0 (slA _ (zB1 ad x).length) (rg (zFT ad) x.ks.length));rw[hnm];rfl
   ·show HP ad x++[(b',HO.cells ([]++([pt ad.b0 (0+2)].flatMap AV.cells++zs)))]=HP ad x++blk _ (zB1 ad x).length (flR (zB1 ad x) zs);rw[hnm];rfl
  ·have h5:¬x.f=5:=of_decide_eq_false h5;have hnm:zB1 ad x=[]:=by unfold zB1;rw[if_neg h5]
   refine Wsem.of ttok mixed ?_;refine Wsem.cut _ ?_ (zF6 hok ⟨none,0,[]⟩ (.inl ⟨by rw[hnm];rfl,rfl,rfl⟩) hb hk ha hv);refine⟨⟨rfl,?_,trivial⟩,⟨rfl,trivial⟩,?_⟩
   ·rw[hnm];rfl
   ·show HP ad x=HP ad x++blk _ (zB1 ad x).length _;rw[hnm];simp[blk]
theorem z8T {P:Program} {fv:Value} {hin:List (Nat×HO)} {args:List AV} {os:List Nat} {post:AV->Nat->List (Nat×HO)->Prop} (hc:CallsG P fv hin args os post):CallsG P fv hin args os fun r o h=>post r o h/\(keys h).Nodup:=by
 obtain⟨f,first,cap,he,hen,hcalls⟩:=hc;refine⟨f,first,cap,he,hen,fun F w vs h1 h2 h3 h4=>(hcalls F w vs h1 h2 h3 h4).mono fun e w' hpo=>?_⟩;obtain⟨v,r,o,hout,F',rfl,hpost,p2,p3,p4,p5,p6,p7,p8⟩:=hpo;exact⟨v,r,o,hout,F',rfl,⟨hpost,p7.nodup⟩,p2,p3,p4,p5,p6,p7,p8⟩
theorem zUY {l:List AV} (h:∀a∈l,∃b off,a=pt b off):∀x∈l,∀a∈x.cells,a.isCell=true:=fun x hx a ha=>by
 obtain⟨b,off,rfl⟩:=h x hx;simp[AV.cells] at ha;subst ha;rfl
theorem zV1 {ad:Ad} {x:Nd} (hok:AdOk ad x) (hk:x.ks.length<=1000000) (hb:x.bs.length<=1000000) (ha:x.ls.length<=1000000) (hv:∀a∈x.ls,a.2.1.length<=1000000):CallsG Tryz.prog (fnv zF5) (HP ad x) [pt ad.b0 0] [] fun r o h=>r = .sl (mG ad x)/\o=0/\h=HP ad x:=by
 refine CallsG.freeze (z8T ((z0D hok hk hb ha hv).less0 (post':=fun r o h=>o=0/\zRA ad x r h) fun r o h hp=>⟨h,[],by simp,rfl,hp⟩)) ?_;rintro r o h ⟨⟨rfl,v,hG,rfl,rfl⟩,hnd⟩;have hun:Uni 1 (mNm ad x):=zbH ad x _;have hcell:∀a∈mNm ad x,∃b off,a=pt b off:=fun a ha=>by
  rcases List.mem_append.1 ha with h|h
  ·unfold zB1 at h;split at h
   ·simp at h;exact⟨_,_,h⟩
   ·cases h
  ·obtain⟨j,_,rfl⟩:=List.mem_map.1 h;exact⟨_,_,rfl⟩
 have hf:=hG.frz hun (zUY hcell) (blk v (mNm ad x).length (flR (mNm ad x) v.z)) fun y hy=>hy;refine⟨HP ad x,_,.sl (mG ad x),rfl,fun b hb hb2=>?_,?_,rfl,rfl,rfl,rfl⟩
 ·rw[show keys (HP ad x++blk v (mNm ad x).length (flR (mNm ad x) v.z))=keys (HP ad x)++keys (blk v (mNm ad x).length (flR (mNm ad x) v.z)) by simp[keys]] at hnd;exact (List.nodup_append.1 hnd).2.2 b hb2 b hb rfl
 ·refine .sls _ _ rfl (fun i a y ha hy=>?_) (fun y hy c2 hc2=>?_) (fun i a y j c1 c2 ha hy hxa hyb=>?_)
  ·cases i with
   | zero=>simp[mG] at ha hy;subst ha;subst hy;rfl
   | succ i =>
    have ha:(rg (mGA ad x) x.ls.length)[i]? = some a:=ha;have hy:(rg (mGA ad x) x.ls.length)[i]? = some y:=hy;rw[ha] at hy;injection hy with hy;subst hy;rfl
  ·have:∃p q,y = .agg [.sl p,.sl q]:=by
    rcases List.mem_cons.1 hy with rfl|hy
    ·exact⟨_,_,rfl⟩
    ·obtain⟨a,_,rfl⟩:=List.mem_map.1 hy;unfold mGA;split<;>exact⟨_,_,rfl⟩
   obtain⟨p,q,rfl⟩:=this;simp[AV.cells] at hc2;rcases hc2 with rfl|rfl<;>rfl
  ·cases i with
   | zero =>
    simp[mG] at ha hy;subst ha;subst hy
    match j with
    | 0=>simp[AV.cells] at hxa hyb;subst hxa;subst hyb;exact hf
    | 1=>simp[AV.cells] at hxa hyb;subst hxa;subst hyb;exact .refl _
    | j+2=>simp[AV.cells] at hxa
   | succ i =>
    have ha:(rg (mGA ad x) x.ls.length)[i]? = some a:=ha;have hy:(rg (mGA ad x) x.ls.length)[i]? = some y:=hy;rw[ha] at hy;injection hy with hy;subst hy;rw[hxa] at hyb;injection hyb with hyb;subst hyb;exact .refl _
inductive Pp where
 | kid (j:Nat)
 | bind (j:Nat)
 | alt (j:Nat)
inductive Pn where
 | own
 | bind (j:Nat)
 | var (j i:Nat)
def zOA (x:Nd):Pp->Option Cr
 | .kid j=>x.ks[j]?
 | .bind j=>(x.bs[j]?).map (·.2.2)
 | .alt j=>(x.ls[j]?).map (·.2.2)
def zNU (x:Nd) (p:Pp) (c:Cr):Nd:=match p with
 | .kid j=>{x with ks:=x.ks.set j c}
 | .bind j=>{x with bs:=x.bs.modify j fun b=>(b.1,b.2.1,c)}
 | .alt j=>{x with ls:=x.ls.modify j fun a=>(a.1,a.2.1,c)}
def ze3 (x:Nd):Pn->Option ByteArray
 | .own=>if x.f=5 then some x.s else none
 | .bind j=>(x.bs[j]?).map (·.1)
 | .var j i=>(x.ls[j]?).bind (·.2.1[i]?)
def adP (ad:Ad):Pp->Nat×Nat
 | .kid j=>(ad.k.no,j*10)
 | .bind j=>(ad.b.no,j*15+5)
 | .alt j=>(ad.a.no,j*14+4)
def adN (ad:Ad):Pn->Nat×Nat
 | .own=>(ad.b0,2)
 | .bind j=>(ad.b.no,j*15)
 | .var j i=>((ad.vs[j]?.map VA.no).getD 0,i)
theorem zBT {α:Type} {l:List α} {j:Nat} {a:α} (h:l[j]? = some a) (f:α->α):l.modify j f=l.set j (f a):=by
 have hj:=(List.getElem?_eq_some_iff.1 h).1;apply List.ext_getElem?;intro i;rw[List.getElem?_modify,List.getElem?_set];by_cases hi:j=i
 ·subst hi;rw[h];simp[hj]
 ·simp[hi]
theorem zR8 {α:Type} (f:α->AV) (l:List α) (j:Nat) (a:α):(l.set j a).map f=(l.map f).set j (f a):=List.map_set
theorem zP6 {α β γ:Type} (f:α->β->γ):∀(l:List α) (m:List β) (j:Nat) (a:α) (b:β),m[j]? = some b->List.zipWith f (l.set j a) m=(List.zipWith f l m).set j (f a b)
 | [],m,j,a,b,_=>by simp
 | x::l,[],j,a,b,h=>by simp at h
 | x::l,y::m,0,a,b,h=>by simp at h;subst h;simp
 | x::l,y::m,j+1,a,b,h=>by simp only[List.set_cons_succ,List.zipWith_cons_cons];rw[zP6 f l m j a b (by simpa using h)]
theorem z9A {ad:Ad} {x:Nd} (hok:AdOk ad x) {p:Pp} {c:Cr} (hc:zOA x p=some c):∃(i:Nat) (l:List AV),(HP ad x)[i]? = some ((adP ad p).1,HO.cells l)/\(adP ad p).2+10<=l.length/\(l.drop (adP ad p).2).take 10=(eC c).cells /\
  ∀c',(HP ad x).set i ((adP ad p).1,HO.cells (setAt l (adP ad p).2 (eC c').cells))=HP ad (zNU x p c')/\AdOk ad (zNU x p c'):=by
 cases p with
 | kid j =>
  have hc:x.ks[j]? = some c:=hc;have hj:=(List.getElem?_eq_some_iff.1 hc).1;have hbk:∀l,blk ad.k x.ks.length l=[(ad.k.no,HO.cells l)]:=fun l=>zEJ hok.k (by omega);have hjc:j<(eCs x.ks).length:=by simp[eCs];exact hj
  have hx:(eCs x.ks)[j]=eC c:=by
   have:=z0C hj;rw[List.getElem?_eq_getElem hjc] at this;rw[List.getElem?_eq_getElem hj] at hc;injection hc with hc
   rw[hc] at this;exact Option.some.inj this
  refine⟨0,flR (eCs x.ks) ad.k.z,?_,?_,?_,fun c'=>⟨?_,?_⟩⟩
  ·unfold HP hM;rw[hbk];rfl
  ·exact zEE (z0I _) ad.k.z hjc 0 10 (by decide)
  ·have:=zIB (z0I x.ks) ad.k.z hjc 0 10 (by decide);rw[hx] at this;exact this
  ·unfold HP hM;have e1:=zZZ (z0I x.ks) ad.k.z hjc (eC c') rfl;show _=(blk ad.k (x.ks.set j c').length (flR (eCs (x.ks.set j c')) ad.k.z)++(blk ad.b x.bs.length (flR (yK x.bs) ad.b.z)++(blk ad.a x.ls.length (flR (wR x.ls ad.vs) ad.a.z)++hV x.ls ad.vs)))++[(ad.b0,HO.cells (zBJ ad (zNU x (.kid j) c')))];have e2:zBJ ad (zNU x (.kid j) c')=zBJ ad x:=by simp[zBJ,zNU]
   rw[e2,List.length_set,hbk,hbk];show ((ad.k.no,HO.cells (setAt (flR (eCs x.ks) ad.k.z) (j*10) (eC c').cells))::_)++_=_;rw[e1,eCs,eCs,zR8];rfl
  ·exact⟨by simpa[zNU] using hok.k,hok.b,hok.a,hok.len,hok.vs⟩
 | bind j =>
  have hc:(x.bs[j]?).map (·.2.2)=some c:=hc;cases hb:x.bs[j]? with
  | none=>rw[hb] at hc;cases hc
  | some b =>
   rw[hb] at hc;simp at hc;subst hc;have hj:=(List.getElem?_eq_some_iff.1 hb).1;have hbk:∀l,blk ad.b x.bs.length l=[(ad.b.no,HO.cells l)]:=fun l=>zEJ hok.b (by omega);have hjc:j<(yK x.bs).length:=by simp[yK];exact hj
   have hx:(yK x.bs)[j]=eBd b:=by
    have:=zF4 hj;rw[List.getElem?_eq_getElem hjc] at this;rw[List.getElem?_eq_getElem hj] at hb;injection hb with hb
    rw[hb] at this;exact Option.some.inj this
   refine⟨(blk ad.k x.ks.length (flR (eCs x.ks) ad.k.z)).length,flR (yK x.bs) ad.b.z,?_,?_,?_,fun c'=>⟨?_,?_⟩⟩
   ·unfold HP hM;rw[hbk,List.append_assoc];simp[adP]
   ·exact zEE (zF3 _) ad.b.z hjc 5 10 (by decide)
   ·have:=zIB (zF3 x.bs) ad.b.z hjc 5 10 (by decide);rw[hx] at this;exact this
   ·have hm:zNU x (.bind j) c'={x with bs:=x.bs.set j (b.1,b.2.1,c')}:=by show ({x with bs:=x.bs.modify j _}:Nd)=_;rw[zBT hb]
    rw[hm];unfold HP hM;have e1:=zID (zF3 x.bs) ad.b.z hjc 5 (eC c').cells (by show 5+10<=15;decide);rw[hx] at e1;have e2:zBJ ad {x with bs:=x.bs.set j (b.1,b.2.1,c')} = zBJ ad x:=by simp[zBJ]
    rw[e2];simp only[List.length_set];rw[hbk,hbk];simp only[List.append_assoc,List.cons_append,List.nil_append,adP];rw[zK7,e1]
    congr 4
    rw[yK,yK,zR8];rfl
   ·have hm:zNU x (.bind j) c'={x with bs:=x.bs.set j (b.1,b.2.1,c')}:=by show ({x with bs:=x.bs.modify j _}:Nd)=_;rw[zBT hb]
    rw[hm];exact⟨hok.k,by simpa using hok.b,hok.a,hok.len,hok.vs⟩
 | alt j =>
  have hc:(x.ls[j]?).map (·.2.2)=some c:=hc;cases hb:x.ls[j]? with
  | none=>rw[hb] at hc;cases hc
  | some b =>
   rw[hb] at hc;simp at hc;subst hc;have hj:=(List.getElem?_eq_some_iff.1 hb).1;have hvl:j<ad.vs.length:=by rw[hok.len];exact hj
   have hv:=List.getElem?_eq_getElem hvl;have hbk:∀l,blk ad.a x.ls.length l=[(ad.a.no,HO.cells l)]:=fun l=>zEJ hok.a (by omega);have hg:=zJW hb hv;have hjc:=(List.getElem?_eq_some_iff.1 hg).1;have hx:(wR x.ls ad.vs)[j]=zW0 b ad.vs[j]:=by rw[List.getElem?_eq_getElem hjc] at hg;exact Option.some.inj hg
   refine⟨(blk ad.k x.ks.length (flR (eCs x.ks) ad.k.z)++blk ad.b x.bs.length (flR (yK x.bs) ad.b.z)).length,flR (wR x.ls ad.vs) ad.a.z,?_,?_,?_,fun c'=>⟨?_,?_⟩⟩
   ·unfold HP hM;rw[hbk];simp only[List.append_assoc,List.cons_append,List.nil_append];rw[<-List.append_assoc];simp[adP]
   ·exact zEE (zIL _ _) ad.a.z hjc 4 10 (by decide)
   ·have:=zIB (zIL x.ls ad.vs) ad.a.z hjc 4 10 (by decide);rw[hx] at this;exact this
   ·have hm:zNU x (.alt j) c'={x with ls:=x.ls.set j (b.1,b.2.1,c')}:=by show ({x with ls:=x.ls.modify j _}:Nd)=_;rw[zBT hb]
    rw[hm];unfold HP hM;have e1:=zID (zIL x.ls ad.vs) ad.a.z hjc 4 (eC c').cells (by show 4+10<=14;decide);rw[hx] at e1;have e2:zBJ ad {x with ls:=x.ls.set j (b.1,b.2.1,c')} = zBJ ad x:=by simp[zBJ]
    have e3:hV (x.ls.set j (b.1,b.2.1,c')) ad.vs=hV x.ls ad.vs:=by
     unfold hV;rw[zP6 _ _ _ _ _ _ hv]
     congr 1
     apply List.ext_getElem?;intro i;rw[List.getElem?_set];by_cases hi:j=i
     ·subst hi;have:(List.zipWith (fun (a:Alg) (v:VA)=>blk v a.2.1.length (flR (eSs a.2.1) v.z)) x.ls ad.vs)[j]? = some (blk ad.vs[j] b.2.1.length (flR (eSs b.2.1) ad.vs[j].z)):=by rw[List.getElem?_zipWith,hb,hv]
      have hl:=(List.getElem?_eq_some_iff.1 this).1;rw[if_pos rfl,if_pos hl,this]
     ·simp[hi]
    rw[e2];simp only[List.length_set];rw[hbk,hbk,e3];simp only[List.append_assoc,List.cons_append,List.nil_append,adP];rw[<-List.append_assoc,<-List.append_assoc (blk ad.k x.ks.length _),zK7,e1]
    congr 3
    unfold wR;rw[zP6 _ _ _ _ _ _ hv];rfl
   ·have hm:zNU x (.alt j) c'={x with ls:=x.ls.set j (b.1,b.2.1,c')}:=by show ({x with ls:=x.ls.modify j _}:Nd)=_;rw[zBT hb]
    rw[hm];refine⟨hok.k,hok.b,by simpa using hok.a,by simpa using hok.len,fun i a v ha hv2=>?_⟩;have ha:(x.ls.set j (b.1,b.2.1,c'))[i]? = some a:=ha;rw[List.getElem?_set] at ha;by_cases hi:j=i
    ·subst hi;rw[if_pos rfl,if_pos hj] at ha;injection ha with ha;subst ha
     exact hok.vs j b v hb hv2
    ·rw[if_neg hi] at ha;exact hok.vs i a v ha hv2
def ptP (ad:Ad) (p:Pp):AV:=pt (adP ad p).1 (adP ad p).2
def ptN (ad:Ad) (p:Pn):AV:=pt (adN ad p).1 (adN ad p).2
def nvs (x:Nd) (j:Nat):Nat:=match x.ls[j]? with|some a=>a.2.1.length|none=>0
def zc3 (x:Nd):List Pp:=(List.range x.ks.length).map .kid++(List.range x.bs.length).map .bind
def zeP (x:Nd):List Pn:=(if x.f=5 then [.own] else [])++(List.range x.bs.length).map .bind
def zEZ (x:Nd):List (List Pn×List Pp):=(zeP x,zc3 x)::(List.range x.ls.length).map fun j=>((List.range (nvs x j)).map (.var j),[.alt j])
def eGp (ad:Ad) (g:List Pn×List Pp):AV:=eG0 (.sl (g.1.map (ptN ad))) (g.2.map (ptP ad))
theorem zbO {ad:Ad} {x:Nd} (hok:AdOk ad x):mG ad x=(zEZ x).map (eGp ad):=by
 unfold mG zEZ;rw[List.map_cons,List.map_map]
 congr 1
 ·unfold eGp mNm mPt zeP zc3 zB1;simp only[List.map_append,List.map_map]
  congr 2
  by_cases h5:x.f=5
  ·rw[if_pos h5,if_pos h5];rfl
  ·rw[if_neg h5,if_neg h5];rfl
 ·refine List.map_congr_left fun j hj=>?_;have hj:=List.mem_range.1 hj;have hvl:j<ad.vs.length:=by rw[hok.len];exact hj
  unfold mGA nvs;simp only[Function.comp];rw[List.getElem?_eq_getElem hj,List.getElem?_eq_getElem hvl];unfold eGp;simp only[List.map_map,List.map_cons,List.map_nil]
  congr 1
  have:rg (zS1 ad.vs[j]) x.ls[j].2.1.length=(List.range x.ls[j].2.1.length).map (ptN ad ∘ Pn.var j):=by
   refine List.map_congr_left fun i _=>?_;simp only[Function.comp,ptN,adN,List.getElem?_eq_getElem hvl,Option.map_some,Option.getD_some,zS1]
  rw[this]
  rfl
theorem za3 {x:Nd}:∀g∈zEZ x,∀p∈g.2,∃c,zOA x p=some c:=by
 intro g hg p hp;rcases List.mem_cons.1 hg with rfl|hg
 ·rcases List.mem_append.1 hp with h|h
  ·obtain⟨j,hj,rfl⟩:=List.mem_map.1 h;exact⟨_,List.getElem?_eq_getElem (List.mem_range.1 hj)⟩
  ·obtain⟨j,hj,rfl⟩:=List.mem_map.1 h;exact⟨_,by show (x.bs[j]?).map _=_;rw[List.getElem?_eq_getElem (List.mem_range.1 hj)];rfl⟩
 ·obtain⟨j,hj,rfl⟩:=List.mem_map.1 hg;simp at hp;subst hp;exact⟨_,by show (x.ls[j]?).map _=_;rw[List.getElem?_eq_getElem (List.mem_range.1 hj)];rfl⟩
theorem zI3 {α:Type} {l:List α} {j:Nat} {a:α} (h:l[j]? = some a):l.set j a=l:=by
 have hj:=(List.getElem?_eq_some_iff.1 h)
 obtain⟨h1,h2⟩:=hj;rw[<-h2];exact List.set_getElem_self h1
theorem zZY {x:Nd} {p:Pp} {c:Cr} (h:zOA x p=some c):zNU x p c=x:=by
 cases p with
 | kid j=>show ({x with ks:=x.ks.set j c}:Nd)=x;rw[zI3 h]
 | bind j =>
  have h:(x.bs[j]?).map (·.2.2)=some c:=h;cases hb:x.bs[j]? with
  | none=>rw[hb] at h;cases h
  | some b =>
   rw[hb] at h;simp at h;subst h;show ({x with bs:=x.bs.modify j _}:Nd)=x;rw[zBT hb,zI3 hb]
 | alt j =>
  have h:(x.ls[j]?).map (·.2.2)=some c:=h;cases hb:x.ls[j]? with
  | none=>rw[hb] at h;cases h
  | some b =>
   rw[hb] at h;simp at h;subst h;show ({x with ls:=x.ls.modify j _}:Nd)=x;rw[zBT hb,zI3 hb]
theorem zR9 (h:List (Nat×HO)):xQ (List.range h.length) h=some h:=by
 have:∀(n:Nat),n<=h.length->xQ ((List.range h.length).drop (h.length-n)) h=some (h.drop (h.length-n)):=by
  intro n;induction n with
  | zero=>intro _;rw[Nat.sub_zero,List.drop_eq_nil_of_le (by simp),List.drop_eq_nil_of_le (Nat.le_refl _)];rfl
  | succ n ih =>
   intro hn;have hlt:h.length-(n+1)<h.length:=by omega
   have e1:(List.range h.length).drop (h.length-(n+1))=(h.length-(n+1))::(List.range h.length).drop (h.length-n):=by
    rw[List.drop_eq_getElem_cons (by simp;omega)];simp only[List.getElem_range]
    congr 2;omega
   have e2:h.drop (h.length-(n+1))=h[h.length-(n+1)]::h.drop (h.length-n):=by
    rw[List.drop_eq_getElem_cons hlt];congr 2;omega
   rw[e1,e2];simp only[xQ,List.getElem?_eq_getElem hlt,ih (by omega)]
 have h0:=this h.length (Nat.le_refl _);simpa using h0
theorem zLB:∀(h:List (Nat×HO)) (k n:Nat),k+h.length<=n->qE (List.range n) k h=[]
 | [],_,_,_=>rfl
 | x::r,k,n,hk=>by
  have:(List.range n).any (Nat.beq k)=true:=List.any_eq_true.2 ⟨k,List.mem_range.2 (by simp at hk;omega),Nat.beq_refl k⟩;simp only[qE,this];exact zLB r (k+1) n (by simp at hk;omega)
theorem zT2 (h:List (Nat×HO)):yD (List.range h.length) h=[]:=zLB h 0 h.length (by omega)
def ClK {α:Type} (l:List α) (L:List AV) (r:AV) (o:Nat) (h:List (Nat×HO)):Prop:=o=0/\∃v:VA,VAok v l.length/\r=slA v l.length/\h=blk v l.length (flR L v.z)
theorem zJN {α:Type} {l:List α} {L:List AV} (hl:L.length=l.length) {r:AV} {o:Nat} {h:List (Nat×HO)} (hp:zGO L r o h):ClK l L r o h:=by
 obtain⟨h1,v,h2,h3,h4⟩:=hp;rw[hl] at h2 h3 h4;exact⟨h1,v,h2,h3,h4⟩
theorem zQG {α:Type} (l:List α) {L:List AV} (hl:L.length=l.length):∃r o h,ClK l L r o h:=by
 cases L with
 | nil=>exact⟨_,_,_,zJN hl (zHN none 0 (.inl ⟨rfl,rfl⟩))⟩
 | cons a L=>exact⟨_,_,_,zJN hl (zH8 (l:=a::L) (by simp) (b:=0) (cap:=(a::L).length) (Nat.le_refl _) [])⟩
theorem zcV (c:Cr) (h:c.kids.length<=1000000):CallsG Tryz.prog (fnv 98) [] [.sl (c.e3 0)] [] (ClK c.kids (eCs c.kids)):=by
 rw[zNB];exact (z0Q _ (z0I _) (by simpa[eCs] using h)).post fun r o h hp=>zJN (by simp[eCs]) hp
theorem zc9 (c:Cr) (h:c.binds.length<=1000000):CallsG Tryz.prog (fnv 99) [] [.sl (c.e3 1)] [] (ClK c.binds (yK c.binds)):=by
 rw[zI4];exact (zZF _ (zF3 _) (by simpa[yK] using h)).post fun r o h hp=>zJN (by simp[yK]) hp
theorem zbU (c:Cr) (h:c.alts.length<=1000000):CallsG Tryz.prog (fnv 100) [] [.sl (c.e3 2)] [] (ClK c.alts (yY c.alts)):=by
 rw[zKQ];exact (zZ9 _ (zHW _) (by simpa[yY] using h)).post fun r o h hp=>zJN (by simp[yY]) hp
theorem zbR (l:List ByteArray) (h:l.length<=1000000):CallsG Tryz.prog (fnv 101) [] [.sl (eSs l)] [] (ClK l (eSs l)) :=
 (z1I _ (yP _) (by simpa[eSs] using h)).post fun r o h hp=>zJN (by simp[eSs]) hp
theorem zWK {l:List AV} {off m:Nat} (h:off+m<=l.length):setAt l off ((l.drop off).take m)=l:=by
 unfold setAt;have h1:((l.drop off).take m).length=m:=by simp;omega
 rw[h1,<-List.drop_drop,List.take_append_drop,List.take_append_drop]
def zeZ (c:Cr) (r:AV) (o:Nat) (h:List (Nat×HO)):Prop:=o=0/\∃ad:Ad,AdOk ad (zA6 c)/\r = .agg (zBJ ad (zA6 c))/\h=hM ad (zA6 c)
theorem zaZ {bs:List Bdg} {z:List AV} {k:Nat} (h:k<bs.length):((flR (yK bs) z).drop (0+k*15+1)).take 4=(eTy bs[k].2.1).cells/\0+k*15+1+4<=(flR (yK bs) z).length:=by
 have hjc:k<(yK bs).length:=by simp[yK];exact h
 have hx:(yK bs)[k]=eBd bs[k]:=by
  have:=zF4 h;rw[List.getElem?_eq_getElem hjc] at this;exact Option.some.inj this
 have h1:=zIB (zF3 bs) z hjc 1 4 (by decide);have h2:=zEE (zF3 bs) z hjc 1 4 (by decide);rw[hx] at h1;rw[Nat.zero_add];exact⟨h1,by omega⟩
theorem zAQ:∀(n:Nat) (h:List (Nat×HO)),qE [] n h=h
 | _,[]=>rfl
 | n,x::r=>by show x::qE [] (n+1) r=_;rw[zAQ]
theorem zIF (h:List (Nat×HO)):yD [] h=h:=zAQ 0 h
def eZ:AV := .agg [.lit (.int .i64 0),.lit (.int .i64 0),.lit (.string ⟨#[]⟩),.lit (.int .i64 0),.lit (.int .i64 0),.lit (.string ⟨#[]⟩),.sl [],.sl [],.sl [],.sl []]
def zMW (c:Cr) (r:AV) (o:Nat) (h:List (Nat×HO)):Prop:=o=0/\∃ad:Ad,AdOk ad (zA6 c)/\r = .agg (zBJ ad (zA6 c))/\h=HP ad (zA6 c)
theorem z7J {x:Nd}:(zEZ x).length=x.ls.length+1:=by simp[zEZ]
theorem za9 {x:Nd} {g:List Pn×List Pp} (h:g∈zEZ x):g.2.length<=x.ks.length+x.bs.length+1:=by
 rcases List.mem_cons.1 h with rfl|h
 ·simp[zc3]
 ·obtain⟨j,hj,rfl⟩:=List.mem_map.1 h;simp
theorem z4Z (c:Cr) (ad:Ad) (x:Nd) (hok:AdOk ad x) (hk:x.ks.length<=100000) (hb:x.bs.length<=100000) (ha:x.ls.length<=100000) (hx:x=zA6 c)
  (ih:∀(p:Pp) (d:Cr),zOA x p=some d->zF Tryz.prog wH [eC d] (eC d)) :
  Wsem Tryz.prog (zCS (zeV (zCS (sn4 (bodyC Tryz.f56))))) (mkC {vs:=[(1,.v (pt ad.b0 0)),(2,.box 0 eZ),(63,.v (.sl ((zEZ x).map (eGp ad)))),(64,sv ((zEZ x).length:Nat)),(65,sv 0)],hp:=HP ad x})
   (fun c2=>Wsem Tryz.prog (zCS (zCS (sn4 (bodyC Tryz.f56)))) c2 (fun c2=>wZ tt Tryz.f56.results.toList (fun r o h=>zMW c r o h) (den c2)) (fun _ _=>False) (fun c2=>wZ tt Tryz.f56.results.toList (fun r o h=>zMW c r o h) (den c2))) (fun _ _=>False) (fun c2=>wZ tt Tryz.f56.results.toList (fun r o h=>zMW c r o h) (den c2)):=by
 have hgl := @z7J x;refine Wsem.of ttok mixed ?_;refine⟨{k:Nat // k<=(zEZ x).length},fun k=>{vs:=[(1,.v (pt ad.b0 0)),(2,.box 0 eZ),(63,.v (.sl ((zEZ x).map (eGp ad)))),(64,sv ((zEZ x).length:Nat)),(65,sv (k.1:Nat))],hp:=HP ad x},
  fun k=>(zEZ x).length-k.1,⟨0,Nat.zero_le _⟩,⟨⟨rfl,rfl,rfl,rfl,rfl,trivial⟩,trivial,rfl⟩,?_⟩
 rintro⟨k,hkk⟩;refine⟨fun h=>?_,fun h=>?_⟩
 ·have h:k<(zEZ x).length:=by have h:=of_decide_eq_true h;simp only at h;omega
  have hg:=List.getElem?_eq_getElem h;have hgm:=List.getElem_mem h;have hg2:=za9 hgm;have hg3:=za3 _ hgm;generalize (zEZ x)[k]=G at hg hgm hg2 hg3;refine⟨_,by omega,by show ((zEZ x).map (eGp ad))[(k:Int).toNat]? = _;rw[show (k:Int).toNat=k from rfl,List.getElem?_map,hg];rfl,rfl,?_⟩;refine⟨{j:Nat // j<=G.2.length},fun j=>{vs:=[(1,.v (pt ad.b0 0)),(2,.box 0 eZ),(63,.v (.sl ((zEZ x).map (eGp ad)))),(64,sv ((zEZ x).length:Nat)),(65,sv (k:Nat)),(70,.v (.sl (G.2.map (ptP ad)))),(71,sv (G.2.length:Nat)),(72,sv (j.1:Nat))],hp:=HP ad x},
   fun j=>G.2.length-j.1,⟨0,Nat.zero_le _⟩,⟨⟨rfl,rfl,rfl,rfl,rfl,rfl,?_,rfl,trivial⟩,trivial,rfl⟩,?_⟩
  ·show sv _=sv _;simp
  rintro⟨j,hjj⟩;refine⟨fun h2=>?_,fun h2=>?_⟩
  ·have h2:j<G.2.length:=by have h:=of_decide_eq_true h2;simp only at h;omega
   have hp:=List.getElem?_eq_getElem h2;obtain⟨d,hd⟩:=hg3 _ (List.getElem_mem h2);generalize G.2[j]=p at hp hd;obtain⟨i,l,r1,r2,r3,r4⟩:=z9A hok hd;refine⟨_,by omega,by show (G.2.map (ptP ad))[(j:Int).toNat]? = _;rw[show (j:Int).toNat=j from rfl,List.getElem?_map,hp];rfl,rfl,?_⟩;refine⟨i,l,r1,r2,?_⟩;refine .inr (.inl ⟨eC d,by rw[r3];exact ih p d hd,?_⟩);refine⟨rfl,i,l,r1,r2,?_⟩;refine⟨⟨j+1,h2⟩,by simp;omega,⟨rfl,rfl,rfl,rfl,rfl,rfl,rfl,svc (wrap_succ (k:=j) (by omega)),trivial⟩,trivial,?_⟩;show (HP ad x).set i ((adP ad p).1,HO.cells (setAt l (adP ad p).2 (eC d).cells))=HP ad x;rw[(r4 d).1,zZY hd]
  ·refine⟨⟨k+1,h⟩,by simp;omega,⟨rfl,rfl,rfl,rfl,svc (wrap_succ (k:=k) (by omega)),trivial⟩,trivial,rfl⟩
 ·refine Wsem.seq ttok mixed ?_;refine⟨(hM ad x).length,zBJ ad x,by show (hM ad x++[(ad.b0,HO.cells (zBJ ad x))])[(hM ad x).length]? = _;simp,by show 0+10<=10;decide,?_⟩;subst hx;refine Wsem.of ttok mixed ?_;exact⟨rfl,ad,hok,rfl,rfl⟩
theorem z9Q (c:Cr) (ad:Ad) (x:Nd) (hok:AdOk ad x) (hk:x.ks.length<=100000) (hb:x.bs.length<=100000) (ha:x.ls.length<=100000) (hv:∀a∈x.ls,a.2.1.length<=1000000) (hx:x=zA6 c)
  (ih:∀(p:Pp) (d:Cr),zOA x p=some d->zF Tryz.prog wH [eC d] (eC d)) :
  Wsem Tryz.prog (zCS (sn4 (bodyC Tryz.f56))) (mkC {vs:=[(1,.box 0 (.agg (zBJ ad x))),(2,.box 0 eZ)],hp:=hM ad x})
   (fun c2=>wZ tt Tryz.f56.results.toList (fun r o h=>zMW c r o h) (den c2)) (fun _ _=>False) (fun c2=>wZ tt Tryz.f56.results.toList (fun r o h=>zMW c r o h) (den c2)):=by
 refine Wsem.seqS (Wsem.seqS (Wsem.of ttok mixed ?_));refine .inr (.inr (.inr (.inr (.inr (.inr ⟨rfl,fun b => .inr ?_⟩)))));have hok1:AdOk {ad with b0:=b} x:=⟨hok.k,hok.b,hok.a,hok.len,hok.vs⟩
 refine⟨rfl,List.range (HP {ad with b0:=b} x).length,HP {ad with b0:=b} x,[],_,zR9 _,List.nodup_range,rfl,zV1 (ad:={ad with b0:=b}) hok1 (by omega) (by omega) (by omega) hv,?_⟩;rintro _ _ _ ⟨rfl,rfl,rfl⟩;have hl:=z4Z c {ad with b0:=b} x hok1 hk hb ha hx ih;rw[<-zbO hok1] at hl;refine Wsem.cut _ ?_ hl;refine⟨⟨rfl,rfl,rfl,?_,rfl,trivial⟩,trivial,?_⟩
 ·show sv _=sv _;rw[zbO hok1];simp
 ·show yD (List.range _) (HP {ad with b0:=b} x)++HP {ad with b0:=b} x=_;rw[zT2,List.nil_append]
end Go.Proofs.YtdmbahepaglcbaaGreatDoor
