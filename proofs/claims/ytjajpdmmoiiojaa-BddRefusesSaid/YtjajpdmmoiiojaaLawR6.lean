/- BddRefuses: nodes and variables that aren't there are refused, and nothing else. No condition. -/
import Derived.Test.YtjajpdmmoiiojaaLawB6a
import Derived.Test.YtjajpdmmoiiojaaLawB6b
import Derived.Test.YtjajpdmmoiiojaaLawK
namespace Go.Proofs.Ytjajpdmmoiiojaa
open Go.RowKit Go.Mem Go.Bdd Go.ChangeShapes Go.WideShapes Go.ChangeAt Go.Deep
namespace LawW
theorem refuses_walk (vars f v : Int) (w : World) : Calls Try.prog 9 #[.int .i64 vars, .int .i64 f, .int .i64 v] w fun e w' => e = .returned (.bool true) ∧ Below w.heap.size w w' := by
  by_cases h : 0 ≤ vars ∧ vars ≤ 256
  · obtain ⟨h0, h1⟩ := h
    by_cases hf : 0 ≤ f
    · by_cases hv : 0 ≤ v
      · by_cases hvv : v < vars
        · exact refuses_bb vars f v h0 h1 hf ⟨hv, hvv⟩ w
        · exact refuses_bc vars f v h0 h1 hf ⟨hv, by omega⟩ w
      · exact refuses_ba vars f v h0 h1 hf (by omega) w
    · by_cases hv : 0 ≤ v
      · by_cases hvv : v < vars
        · exact refuses_ab vars f v h0 h1 (by omega) ⟨hv, hvv⟩ w
        · exact refuses_ac vars f v h0 h1 (by omega) ⟨hv, by omega⟩ w
      · exact refuses_aa vars f v h0 h1 (by omega) (by omega) w
  · exact refuses_out vars f v h w
set_option maxRecDepth 100000 in
theorem bddRefuses_lifted (os : Os) (started : os.Started) (H : Type) (enc : TypeId × Value → H) :
    ReturnsInHanded {} Try.checked os 9 .any (Rows.bddRefusesSpec.pre6 enc Try.prog Try.f9 Rows.bddRefusesRow.domain false) (Rows.bddRefusesSpec.post enc Try.prog Try.f9 false true false false) := by
  refine returnsInHanded_of_change (C := Try.checked) own_knob started (by kernel_rfl) Try.func9
    (ChangeSpec.witness6 (enc := enc) (C := Try.checked) false ⟨#[], #[.int .i64 0, .int .i64 0, .int .i64 0], []⟩ 8 (by kernel_rfl) (by kernel_rfl) (by kernel_rfl) (by kernel_rfl)) ?_
  intro W base args ds gs before hval0 hW hcnd _
  have hval : ∀ (j : Nat) t v, Try.f9.params[j]? = some t → args[j]? = some v → Value.okWide Try.prog W .any base t v := hval0
  have hW' := hW
  obtain ⟨p, q, hA0, hV, rfl, hfz, hnd⟩ := hW
  have hA : DataW.TrodAll enc Try.prog W 0 (fun _ => true) true Try.f9.params.toList args.toList ds p := hA0
  have hAk := hA
  rw [Try.params9] at hA hval
  obtain ⟨v0, v1, v2, d0, d1, d2, p0, p1, p2, rfl, rfl, rfl, h0, h1, h2⟩ := trodAll_three hA
  obtain ⟨rfl, rfl⟩ := trodVars_none hV
  obtain ⟨a0, rfl, rfl, rfl, w0⟩ := open_int Try.underlying3 (hval 0 3 v0 rfl rfl) h0
  obtain ⟨a1, rfl, rfl, rfl, w1⟩ := open_int Try.underlying3 (hval 1 3 v1 rfl rfl) h1
  obtain ⟨a2, rfl, rfl, rfl, w2⟩ := open_int Try.underlying3 (hval 2 3 v2 rfl rfl) h2
  clear hA0 hval0
  simp only [List.append_nil] at hW'
  refine (refuses_walk a0 a1 a2 W).mono fun e W' ⟨he, hb⟩ => ?_
  subst he
  exact ⟨_, rfl, post_below (pa := _) (pv := []) hW' (fun _ _ _ => trodAll_mk1 (shut_bool Try.underlying4 _)) (fun sp hsp => args_again (by rw [Try.params9]; decide) hAk hb sp (by simp)) (fun _ _ => rfl) (by simp) hb (ok_one (by kernel_rfl) rfl (okWide_bool_mk Try.underlying4 _))⟩
theorem bddRefuses_row : Rows.BddRefusesSaid :=
  OpenClaim.holds_of_wide 9 Try.f9 rfl rfl rfl rfl rfl rfl rfl ⟨rfl, rfl, rfl, rfl, rfl⟩ rfl rfl rfl rfl rfl (by kernel_rfl) Try.func9 (by kernel_rfl)
    (of_decide_eq_true (by kernel_rfl)) (by unfold Func.isWrapper; first | (rw [if_pos (by decide +kernel)]; kernel_rfl) | (rw [if_neg (by decide +kernel)]; exact ⟨rfl, rfl⟩))
    (fun os started H enc _ => bddRefuses_lifted os started H enc)
end LawW
theorem bddRefuses_holds : Rows.BddRefusesSaid := LawW.bddRefuses_row
#print axioms bddRefuses_holds
end Go.Proofs.Ytjajpdmmoiiojaa
