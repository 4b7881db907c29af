/- A part of the proof of a given statement: contracts of functions of the program, under no condition but those that each states. -/
import Derived.Test.YtebmimnglcdogaaGreatDoorJC
import Derived.Test.YtebmimnglcdogaaGreatDoorAE
set_option linter.unusedSimpArgs false
set_option linter.unusedVariables false
namespace Go.Proofs.YtebmimnglcdogaaGreatDoor
open Go Fp Go.ChangeShapes Go.WideShapes Go.ChangeAt Go.RowKit
namespace coverChecks
set_option maxRecDepth 100000
theorem contract (H:Type) (enc:TypeId×Value->H) (W:World) (base:Nat) (args:Array Value) (ds gs:List (DataW H)) (before:List MemPlace)
  (hval:∀(j:Nat) t v,Tryz.f4.params[j]? = some t->args[j]? = some v->Value.okWide Tryz.prog W .any base t v)
  (hW:DataW.Whole enc Tryz.prog Tryz.f4.params.toList Rows.coverChecksSpec.vars false W args.toList ds gs before) :
  Calls Tryz.prog 4 args W fun e W' => ∃v,e = .returned v/\Rows.coverChecksSpec.post enc Tryz.prog Tryz.f4 false true false false W args v W':=by
 have hW':=hW;obtain⟨p,q,hA0,hV,rfl,hfz,hnd⟩:=hW;have hA:DataW.TrodAll enc Tryz.prog W 0 (fun _=>true) true Tryz.f4.params.toList args.toList ds p:=hA0;rw[show Tryz.f4.params.toList=[22] from rfl] at hA;obtain⟨v0,vs0,d0,ds0,p0,q0,hargs,rfl,rfl,h0,r0⟩:=trodAll_cons hA;obtain⟨rfl,rfl,rfl⟩:=trodAll_nil r0;obtain rfl:args = #[v0]:=by cases args;simp_all
 obtain⟨rfl,rfl⟩:=trodVars_none hV;obtain⟨l0,hrep0,hr0,hl0⟩:=zSN u22 u3 c3 h0 (by obtain⟨a,n,c,rfl⟩:=okWide_slice u22 (hval 0 22 v0 rfl rfl);rfl);refine (zVR (vs:=[v0]) (zIX hl0 hr0) rfl (fun i v a hv ha=>?_)).mono fun e W' ⟨he,hb⟩=>?_
 ·match i with
  | 0=>simp at hv ha;subst hv;subst ha;exact hrep0
  | i+1=>simp at hv
 ·subst he;exact⟨_,rfl,zWQ hW' hb zX3 (fun t ht=>by
   have:t∈[22]:=by first|(simpa using ht;done)|(simp at ht⊢;rcases ht with h|h|h<;>simp[h])
   have hall:([22].all fun u=>Tryz.prog.readableRec u && decide (u<Tryz.prog.types.size))=true:=by kernel_rfl
   have:=List.all_eq_true.1 hall t this;simp only[Bool.and_eq_true,decide_eq_true_eq] at this;exact this) rfl u4 rfl rfl⟩
theorem reads (os:Os) {H:Type} (enc:TypeId×Value->H):∃places,DataW.whole enc Tryz.prog ((laidWorld os).forCall (fun _ _=>0) ⟨#[],#[.slice none 0 0],[]⟩).memory Tryz.f4.params.toList Rows.coverChecksSpec.vars false #[Value.slice none 0 0].toList 8=some ([.nil],[],places) :=
 ⟨[],by kernel_rfl⟩
theorem laid_met (os:Os):laidMet Tryz.prog Rows.coverChecksRow.laid ((laidWorld os).forCall (fun _ _=>0) ⟨#[],#[.slice none 0 0],[]⟩).memory :=
 laidMet_of_run' 8 (by kernel_rfl) (by kernel_rfl)
set_option maxRecDepth 100000 in
theorem lifted (os:Os) (started:os.Started) (H:Type) (enc:TypeId×Value->H) (F:Stop.Interp) :
  ReturnsInHanded {} Tryz.checked os 4 .any ((OpenSpec.ofChange Rows.coverChecksSpec).preRow enc Tryz.prog Tryz.f4 Rows.coverChecksRow.domain false Rows.coverChecksRow.laid) (((OpenSpec.ofChange Rows.coverChecksSpec).at F).post enc Tryz.prog Tryz.f4 false true false false):=by
 obtain⟨places,hx⟩:=reads os enc;refine returnsInHanded_of_row (C:=Tryz.checked) (s:=OpenSpec.ofChange Rows.coverChecksSpec) z5O started (by kernel_rfl) Tryz.func4
  (witness_row_at (enc:=enc) (C:=Tryz.checked) false (laidWorld os) #[.slice none 0 0] rfl (by kernel_rfl) (by kernel_rfl) (by kernel_rfl)
   (OpenSpec.preRow_of_cond 8 hx (by kernel_rfl) (fun k hk=>by cases hk) (by kernel_rfl) (laid_met os))) ?_
 intro W base args ds gs before hval hW _ _ _ hL _ _;exact contract H enc W base args ds gs before hval hW
theorem said:Rows.CoverChecksSaid :=
 OpenClaim.holds_of_cond 4 Tryz.f4 rfl rfl rfl rfl rfl rfl rfl ⟨rfl,rfl,rfl,rfl,rfl⟩ rfl rfl rfl rfl rfl (by kernel_rfl) Tryz.func4 (by kernel_rfl)
  (of_decide_eq_true (by kernel_rfl)) (by unfold Func.isWrapper;first|(rw[if_pos (by decide +kernel)];kernel_rfl)|(rw[if_neg (by decide +kernel)];exact⟨rfl,rfl⟩))
  (fun os started H enc _ F=>by rw[OpenClaim.pre_eq_preRow];exact lifted os started H enc F)
theorem plain (f : FuncId) (fn : Func) (hf : Tryz.pinned.checked.prog.funcNamed "fugue/fuguelaw20.CoverChecks" = some f) (hfn : Tryz.pinned.checked.prog.funcs[f]? = some fn) :
  true=Tryz.pinned.checked.prog.looks []/\∀(j:Nat) t,fn.params[j]? = some t->Tryz.pinned.checked.prog.wantsStandIn t=false:=by
 obtain rfl : f = 4 := Option.some.inj ((show Tryz.prog.funcNamed "fugue/fuguelaw20.CoverChecks" = some 4 by kernel_rfl).symm.trans hf) |>.symm
 obtain rfl:fn=Tryz.f4:=(Option.some.inj (Tryz.func4.symm.trans hfn)).symm;refine⟨by kernel_rfl,fun j t ht=>?_⟩;have ht:t∈[22]:=Array.mem_of_getElem? ht |> fun h=>by first|(simpa using h;done)|(simp at h⊢;rcases h with h|h|h<;>simp[h])
 have hall:([22].all fun u => !Tryz.prog.wantsStandIn u)=true:=by kernel_rfl
 exact (show Tryz.prog.wantsStandIn t=false by simpa using List.all_eq_true.1 hall t ht)
theorem card:Rows.CoverChecksCardSaid :=
 Claim7.holds_tied_plain_at .later [] _ _ _ _ said (fun _ h=>by cases h) (by kernel_rfl) (fun _ h=>by cases h) coverChecks_row_tie rfl ⟨rfl,rfl⟩ (by kernel_rfl) rfl plain (by kernel_rfl)
end coverChecks
end Go.Proofs.YtebmimnglcdogaaGreatDoor
