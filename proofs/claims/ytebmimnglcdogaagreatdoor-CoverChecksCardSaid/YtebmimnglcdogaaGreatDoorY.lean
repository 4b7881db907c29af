/- own, of core of whatever size whose lists are short. No condition but on lengths. -/
import Derived.Test.YtebmimnglcdogaaGreatDoorR
set_option linter.unusedSimpArgs false
set_option linter.unusedVariables false
namespace Go.Proofs.YtebmimnglcdogaaGreatDoor.Ck
open Go Fp
set_option maxRecDepth 10000
set_option maxHeartbeats 4000000
set_option linter.unusedVariables false
abbrev z6K (c:Cr):Nat:=c.kids.length+c.binds.length+c.alts.length
def Lw:Cr->Prop
 | .nil=>True
 | .node _ _ _ _ g=>z6K g<90000/\Lw g
 | .kid p r=>Lw p/\Lw r
 | .bind _ _ p r=>Lw p/\Lw r
 | .alt _ _ _ _ p r=>Lw p/\Lw r
theorem Lw.kid {c p:Cr} (h:Lw c) (hp:p∈c.kids):Lw p:=by
 induction c with
 | nil=>cases hp
 | node f n s t g ih=>exact ih h.2 hp
 | kid q r _ ih=>rcases List.mem_cons.1 hp with rfl|hp;exact h.1;exact ih h.2 hp
 | bind x t q r _ ih=>exact ih h.2 hp
 | alt f n s vs q r _ ih=>exact ih h.2 hp
theorem Lw.bind {c:Cr} {b:Bdg} (h:Lw c) (hp:b∈c.binds):Lw b.2.2:=by
 induction c with
 | nil=>cases hp
 | node f n s t g ih=>exact ih h.2 hp
 | kid q r _ ih=>exact ih h.2 hp
 | bind x t q r _ ih=>rcases List.mem_cons.1 hp with rfl|hp;exact h.1;exact ih h.2 hp
 | alt f n s vs q r _ ih=>exact ih h.2 hp
theorem Lw.alt {c:Cr} {a:Alg} (h:Lw c) (hp:a∈c.alts):Lw a.2.2:=by
 induction c with
 | nil=>cases hp
 | node f n s t g ih=>exact ih h.2 hp
 | kid q r _ ih=>exact ih h.2 hp
 | bind x t q r _ ih=>exact ih h.2 hp
 | alt f n s vs q r _ ih=>rcases List.mem_cons.1 hp with rfl|hp;exact h.1;exact ih h.2 hp
theorem Lw.part {c d:Cr} (h:Lw c) {p:Pp} (hd:zEN (jW c) p=some d):Lw d:=by
 cases p with
 | kid j=>exact h.kid (List.mem_of_getElem? hd)
 | bind j =>
  have hd:(c.binds[j]?).map (·.2.2)=some d:=hd;cases hb:c.binds[j]? with
  | none=>rw[hb] at hd;cases hd
  | some b=>rw[hb] at hd;simp at hd;subst hd;exact h.bind (List.mem_of_getElem? hb)
 | alt j =>
  have hd:(c.alts[j]?).map (·.2.2)=some d:=hd;cases hb:c.alts[j]? with
  | none=>rw[hb] at hd;cases hd
  | some b=>rw[hb] at hd;simp at hd;subst hd;exact h.alt (List.mem_of_getElem? hb)
theorem Lw.len {c:Cr} (h:Lw c) (hn:c.isN=true):c.kids.length+c.binds.length+c.alts.length<90000:=by cases c<;>first|(cases hn;done)|exact h.1
theorem z14 (N:Nat):∀c:Cr,Gd c->Lw c->c.sz<=N->CallsG Tryz.prog (fnv wE) [] [eC c] [] fun r o h=>zI7 c r o h:=by
 induction N with
 | zero=>intro c hg hl hs;have:=z06 hg.n;omega
 | succ N ih =>
  intro c hg hl hs;refine zX6 c hg.n hg.ok hg.few (hl.len hg.n) (hg.ty.node hg.n) (fun b hb=>(hg.ty.bind hb).1) fun p d hd=>?_;have:=hg.part hd;exact zOX this.1 (ih d this.1 (hl.part hd) (by omega))
theorem ownOkL {c:Cr} (h:Gd c) (hl:Lw c):OwnOk c:=zOX h (z14 c.sz c h hl (Nat.le_refl _))
end Go.Proofs.YtebmimnglcdogaaGreatDoor.Ck
