/- TermEvals: whatever is built and found well typed, the pool evaluates as the document does. Where what comes in is of bulk at most 1048576. -/
import Derived.Test.YtbbajekecppioaaGreatDoorGa44
import Derived.Test.YtbbajekecppioaaGreatDoorCards
import Derived.Test.YtbbajekecppioaaGreatDoorTie
import Derived.WalkKit
set_option linter.unusedSimpArgs false
set_option linter.unusedVariables false
namespace Go.Proofs.YtbbajekecppioaaGreatDoor
open Go.RowKit Go.Mem Go.ChangeShapes Go.WideShapes Go.ChangeAt Go.Deep
namespace LawT
theorem evals_reads (os : Os) {H : Type} (enc : TypeId × Value → H) : ∃ places, DataW.whole enc Tryz.prog ((laidWorld os).forCall (fun _ _ => 0) ⟨#[], #[wit], []⟩).memory Tryz.f3.params.toList Rows.termEvalsSpec.vars false #[wit].toList 8 = some ([.agg [.agg [.lit (.string []), .agg [.lit (.int .i64 0), .lit (.bool false)], .lit (.int .u64 0), .lit (.int .i64 0), .lit (.bool false), .lit (.int .i64 0), .lit (.int .i64 0), .nil], .nil, .nil]], [], places) :=
  ⟨[], by kernel_rfl⟩
set_option maxRecDepth 100000 in
theorem evals_lifted (os : Os) (started : os.Started) (H : Type) (enc : TypeId × Value → H) (F : Stop.Interp) :
    ReturnsInHanded {} Tryz.checked os 3 .any ((Rows.OpenSpec.upto Rows.termEvalsSpec).preRow enc Tryz.prog Tryz.f3 Rows.termEvalsUptoRow.domain false Rows.termEvalsUptoRow.laid) (((Rows.OpenSpec.upto Rows.termEvalsSpec).at F).post enc Tryz.prog Tryz.f3 false true false false) := by
  obtain ⟨places, hx⟩ := evals_reads os enc
  refine returnsInHanded_of_row (C := Tryz.checked) (s := Rows.OpenSpec.upto Rows.termEvalsSpec) own_knob started (by kernel_rfl) Tryz.func3
    (witness_row_at (enc := enc) (C := Tryz.checked) false (laidWorld os) #[wit] rfl (by kernel_rfl) (by kernel_rfl) (by kernel_rfl)
      (OpenSpec.preRow_of_cond 8 hx (by kernel_rfl) (fun k hk => by cases hk; kernel_rfl) (by kernel_rfl) (laid_met os _))) ?_
  intro W base args ds gs before hval0 hW _ hcond _ hL _ _
  have hval : ∀ (j : Nat) t v, Tryz.f3.params[j]? = some t → args[j]? = some v → Value.okWide Tryz.prog W .any base t v := hval0
  have hk : Rows.uptoSmall H (ds ++ gs) = true := hcond _ rfl
  have hW' := hW
  obtain ⟨p, q, hA0, hV, rfl, hfz, hnd⟩ := hW
  have hA : DataW.TrodAll enc Tryz.prog W 0 (fun _ => true) true Tryz.f3.params.toList args.toList ds p := hA0
  have hAk := hA
  rw [Tryz.params3] at hA hval
  obtain ⟨v0, vs0, d0, ds0, p0, q0, hargs, rfl, rfl, h0, r0⟩ := trodAll_cons hA
  obtain ⟨rfl, rfl, rfl⟩ := trodAll_nil r0
  obtain rfl : args = #[v0] := by cases args; simp_all
  obtain ⟨rfl, rfl⟩ := trodVars_none hV
  have hb : Rows.uptoBulkAll [d0] ≤ 1048576 := of_decide_eq_true hk
  simp only [Rows.uptoBulkAll] at hb
  obtain ⟨a0, a1, a2, a3, a4, a5, a6, a7, a8, VA, IA, VC, IC, x, vs, is, rfl, hArgs⟩ := args_read (okWide_struct Tryz.underlying31 (hval 0 31 v0 rfl rfl)) h0 (by omega)
  clear hA0 hval0 hcond hk
  simp only [List.append_nil] at hW'
  refine (evals_walk W (env_of hL) a0 a1 a2 a3 a4 a5 a6 a7 a8 VA IA VC IC x vs is hArgs).mono fun e W' ⟨he, hf⟩ => ?_
  subst he
  have hb := hf.below
  exact ⟨_, rfl, post_below (pa := _) (pv := []) hW' (fun _ _ _ => trodAll_mk1 (shut_bool Tryz.underlying4 _)) (fun sp hsp => args_again (by rw [Tryz.params3]; decide) hAk hb sp (by simpa using hsp)) (fun _ _ => rfl) (by simp) hb (ok_one (by kernel_rfl) rfl (okWide_bool_mk Tryz.underlying4 _))⟩
theorem evals_said : Rows.TermEvalsUptoSaid :=
  OpenClaim.holds_of_cond 3 Tryz.f3 rfl rfl rfl rfl rfl rfl rfl ⟨rfl, rfl, rfl, rfl, rfl⟩ rfl rfl rfl rfl rfl (by kernel_rfl) Tryz.func3 (by kernel_rfl)
    (of_decide_eq_true (by kernel_rfl)) (by unfold Func.isWrapper; first | (rw [if_pos (by decide +kernel)]; kernel_rfl) | (rw [if_neg (by decide +kernel)]; exact ⟨rfl, rfl⟩))
    (fun os started H enc _ F => by rw [OpenClaim.pre_eq_preRow]; exact evals_lifted os started H enc F)
theorem evals_plain (f : FuncId) (fn : Func) (hf : Tryz.pinned.checked.prog.funcNamed "skua/skualaw10.TermEvals" = some f) (hfn : Tryz.pinned.checked.prog.funcs[f]? = some fn) :
    false = Tryz.pinned.checked.prog.looks [] ∧ ∀ (j : Nat) t, fn.params[j]? = some t → Tryz.pinned.checked.prog.wantsStandIn t = false := by
  obtain rfl : f = 3 := Option.some.inj ((show Tryz.prog.funcNamed "skua/skualaw10.TermEvals" = some 3 by kernel_rfl).symm.trans hf) |>.symm
  obtain rfl : fn = Tryz.f3 := (Option.some.inj (Tryz.func3.symm.trans hfn)).symm
  refine ⟨by kernel_rfl, fun j t ht => ?_⟩
  rw [Tryz.params3] at ht
  obtain rfl : t = 31 := by simpa using Array.mem_of_getElem? ht
  exact (show Tryz.prog.wantsStandIn 31 = false by kernel_rfl)
end LawT
theorem termEvalsUpto_holds : Rows.TermEvalsUptoCardSaid :=
  Claim7.holds_tied_plain_at .later [] _ _ _ _ LawT.evals_said (fun _ h => by cases h) (by kernel_rfl) (fun _ h => by cases h) termEvalsUpto_row_tie rfl ⟨rfl, rfl⟩ (by kernel_rfl) rfl LawT.evals_plain (by kernel_rfl)
#print axioms termEvalsUpto_holds
end Go.Proofs.YtbbajekecppioaaGreatDoor
