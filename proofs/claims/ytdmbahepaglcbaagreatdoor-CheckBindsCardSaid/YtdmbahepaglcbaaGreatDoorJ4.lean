/- A part of the proof of a given statement: contracts of functions of the program, under no condition but those that each states. -/
import Derived.Test.YtdmbahepaglcbaaGreatDoorJC
import Derived.Test.YtdmbahepaglcbaaGreatDoorAA
set_option linter.unusedSimpArgs false
set_option linter.unusedVariables false
namespace Go.Proofs.YtdmbahepaglcbaaGreatDoor
open Go Fp Go.ChangeShapes Go.WideShapes Go.ChangeAt Go.RowKit
namespace checkBinds
set_option maxRecDepth 100000
theorem contract (H:Type) (enc:TypeId×Value->H) (W:World) (base:Nat) (args:Array Value) (ds gs:List (DataW H)) (before:List MemPlace)
  (hval:∀(j:Nat) t v,Tryz.f7.params[j]? = some t->args[j]? = some v->Value.okWide Tryz.prog W .any base t v)
  (hW:DataW.Whole enc Tryz.prog Tryz.f7.params.toList Rows.checkBindsSpec.vars false W args.toList ds gs before) :
  Calls Tryz.prog 7 args W fun e W' => ∃v,e = .returned v/\Rows.checkBindsSpec.post enc Tryz.prog Tryz.f7 false true false false W args v W':=by
 have hW':=hW;obtain⟨p,q,hA0,hV,rfl,hfz,hnd⟩:=hW;have hA:DataW.TrodAll enc Tryz.prog W 0 (fun _=>true) true Tryz.f7.params.toList args.toList ds p:=hA0;rw[show Tryz.f7.params.toList=[23,3] from rfl] at hA;obtain⟨v0,vs0,d0,ds0,p0,q0,hargs,rfl,rfl,h0,r0⟩:=trodAll_cons hA;obtain⟨v1,vs1,d1,ds1,p1,q1,rfl,rfl,rfl,h1,r1⟩:=trodAll_cons r0;obtain⟨rfl,rfl,rfl⟩:=trodAll_nil r1;obtain rfl:args = #[v0,v1]:=by cases args;simp_all
 obtain⟨rfl,rfl⟩:=trodVars_none hV;obtain⟨l0,hrep0,hr0,hl0⟩:=zSS u23 u22 u3 c22 c3 h0 (by obtain⟨a,n,c,rfl⟩:=okWide_slice u23 (hval 0 23 v0 rfl rfl);rfl);obtain⟨n1,rfl,_,_,hw1⟩:=open_int u3 (hval 1 3 v1 rfl rfl) h1;have hrep1:Rep noF W (.int .i64 n1) (.lit (.int .i64 n1)) := .lit _ rfl;refine (zWE (vs:=[v0,.int .i64 n1]) (zLH hl0 hr0 (zYZ hw1)) rfl (fun i v a hv ha=>?_)).mono fun e W' ⟨he,hb⟩=>?_
 ·match i with
  | 0=>simp at hv ha;subst hv;subst ha;exact hrep0
  | 1=>simp at hv ha;subst hv;subst ha;exact hrep1
  | i+2=>simp at hv
 ·subst he;exact⟨_,rfl,zU8 hW' hb zZ7 (fun t ht=>by
   have:t∈[23,3]:=by first|(simpa using ht;done)|(simp at ht⊢;rcases ht with h|h|h<;>simp[h])
   have hall:([23,3].all fun u=>Tryz.prog.readableRec u && decide (u<Tryz.prog.types.size))=true:=by kernel_rfl
   have:=List.all_eq_true.1 hall t this;simp only[Bool.and_eq_true,decide_eq_true_eq] at this;exact this) rfl u4 rfl rfl⟩
theorem reads (os:Os) {H:Type} (enc:TypeId×Value->H):∃places,DataW.whole enc Tryz.prog ((laidWorld os).forCall (fun _ _=>0) ⟨#[],#[.slice none 0 0,.int .i64 0],[]⟩).memory Tryz.f7.params.toList Rows.checkBindsSpec.vars false #[Value.slice none 0 0,Value.int .i64 0].toList 8=some ([.nil,.lit (.int .i64 0)],[],places) :=
 ⟨[],by kernel_rfl⟩
theorem laid_met (os:Os):laidMet Tryz.prog Rows.checkBindsRow.laid ((laidWorld os).forCall (fun _ _=>0) ⟨#[],#[.slice none 0 0,.int .i64 0],[]⟩).memory :=
 laidMet_of_run' 8 (by kernel_rfl) (by kernel_rfl)
set_option maxRecDepth 100000 in
theorem lifted (os:Os) (started:os.Started) (H:Type) (enc:TypeId×Value->H) (F:Stop.Interp) :
  ReturnsInHanded {} Tryz.checked os 7 .any ((OpenSpec.ofChange Rows.checkBindsSpec).preRow enc Tryz.prog Tryz.f7 Rows.checkBindsRow.domain false Rows.checkBindsRow.laid) (((OpenSpec.ofChange Rows.checkBindsSpec).at F).post enc Tryz.prog Tryz.f7 false true false false):=by
 obtain⟨places,hx⟩:=reads os enc;refine returnsInHanded_of_row (C:=Tryz.checked) (s:=OpenSpec.ofChange Rows.checkBindsSpec) z6F started (by kernel_rfl) Tryz.func7
  (witness_row_at (enc:=enc) (C:=Tryz.checked) false (laidWorld os) #[.slice none 0 0,.int .i64 0] rfl (by kernel_rfl) (by kernel_rfl) (by kernel_rfl)
   (OpenSpec.preRow_of_cond 8 hx (by kernel_rfl) (fun k hk=>by cases hk) (by kernel_rfl) (laid_met os))) ?_
 intro W base args ds gs before hval hW _ _ _ hL _ _;exact contract H enc W base args ds gs before hval hW
theorem said:Rows.CheckBindsSaid :=
 OpenClaim.holds_of_cond 7 Tryz.f7 rfl rfl rfl rfl rfl rfl rfl ⟨rfl,rfl,rfl,rfl,rfl⟩ rfl rfl rfl rfl rfl (by kernel_rfl) Tryz.func7 (by kernel_rfl)
  (of_decide_eq_true (by kernel_rfl)) (by unfold Func.isWrapper;first|(rw[if_pos (by decide +kernel)];kernel_rfl)|(rw[if_neg (by decide +kernel)];exact⟨rfl,rfl⟩))
  (fun os started H enc _ F=>by rw[OpenClaim.pre_eq_preRow];exact lifted os started H enc F)
theorem plain (f : FuncId) (fn : Func) (hf : Tryz.pinned.checked.prog.funcNamed "fugue/fuguelaw19.CheckBinds" = some f) (hfn : Tryz.pinned.checked.prog.funcs[f]? = some fn) :
  true=Tryz.pinned.checked.prog.looks []/\∀(j:Nat) t,fn.params[j]? = some t->Tryz.pinned.checked.prog.wantsStandIn t=false:=by
 obtain rfl : f = 7 := Option.some.inj ((show Tryz.prog.funcNamed "fugue/fuguelaw19.CheckBinds" = some 7 by kernel_rfl).symm.trans hf) |>.symm
 obtain rfl:fn=Tryz.f7:=(Option.some.inj (Tryz.func7.symm.trans hfn)).symm;refine⟨by kernel_rfl,fun j t ht=>?_⟩;have ht:t∈[23,3]:=Array.mem_of_getElem? ht |> fun h=>by first|(simpa using h;done)|(simp at h⊢;rcases h with h|h|h<;>simp[h])
 have hall:([23,3].all fun u => !Tryz.prog.wantsStandIn u)=true:=by kernel_rfl
 exact (show Tryz.prog.wantsStandIn t=false by simpa using List.all_eq_true.1 hall t ht)
theorem card:Rows.CheckBindsCardSaid :=
 Claim7.holds_tied_plain_at .later [] _ _ _ _ said (fun _ h=>by cases h) (by kernel_rfl) (fun _ h=>by cases h) checkBinds_row_tie rfl ⟨rfl,rfl⟩ (by kernel_rfl) rfl plain (by kernel_rfl)
end checkBinds
end Go.Proofs.YtdmbahepaglcbaaGreatDoor
