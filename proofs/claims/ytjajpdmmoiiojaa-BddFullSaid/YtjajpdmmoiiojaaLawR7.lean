/- BddFull: with too little room it says so, and what it has made is right. No condition. -/
import Derived.Test.YtjajpdmmoiiojaaLawB7
import Derived.Test.YtjajpdmmoiiojaaLawK
namespace Go.Proofs.Ytjajpdmmoiiojaa
open Go.RowKit Go.Mem Go.Bdd Go.ChangeShapes Go.WideShapes Go.ChangeAt Go.Deep
namespace LawW
theorem full_walk (room : Int) (va : Value) (xs : List ActF) (w : World) (hA : ActsIn w (fun _ => False) va xs) : Calls Try.prog 8 #[.int .i64 room, va] w fun e w' => e = .returned (.bool true) ∧ Below w.heap.size w w' := by
  by_cases h : 2 ≤ room ∧ room ≤ 16777216
  · exact full_in room va h.1 h.2 xs w hA
  · exact full_out room va h w
set_option maxRecDepth 100000 in
theorem bddFull_lifted (os : Os) (started : os.Started) (H : Type) (enc : TypeId × Value → H) :
    ReturnsInHanded {} Try.checked os 8 .any (Rows.bddFullSpec.pre6 enc Try.prog Try.f8 Rows.bddFullRow.domain false) (Rows.bddFullSpec.post enc Try.prog Try.f8 false true false false) := by
  refine returnsInHanded_of_change (C := Try.checked) own_knob started (by kernel_rfl) Try.func8
    (ChangeSpec.witness6 (enc := enc) (C := Try.checked) false ⟨#[], #[.int .i64 0, .slice none 0 0], []⟩ 8 (by kernel_rfl) (by kernel_rfl) (by kernel_rfl) (by kernel_rfl)) ?_
  intro W base args ds gs before hval0 hW hcnd _
  have hval : ∀ (j : Nat) t v, Try.f8.params[j]? = some t → args[j]? = some v → Value.okWide Try.prog W .any base t v := hval0
  have hW' := hW
  obtain ⟨p, q, hA0, hV, rfl, hfz, hnd⟩ := hW
  have hA : DataW.TrodAll enc Try.prog W 0 (fun _ => true) true Try.f8.params.toList args.toList ds p := hA0
  have hAk := hA
  rw [Try.params8] at hA hval
  obtain ⟨v0, v1, d0, d1, p0, p1, rfl, rfl, rfl, h0, h1⟩ := trodAll_two hA
  obtain ⟨rfl, rfl⟩ := trodVars_none hV
  obtain ⟨a0, rfl, rfl, rfl, w0⟩ := open_int Try.underlying3 (hval 0 3 v0 rfl rfl) h0
  obtain ⟨s1, s2, s3, rfl⟩ := okWide_slice Try.underlying22 (hval 1 22 v1 rfl rfl)
  obtain ⟨n, hn⟩ := h1
  obtain ⟨xs, hxs⟩ := acts_read hn
  clear hA0 hval0
  simp only [List.append_nil] at hW'
  refine (full_walk a0 _ xs W hxs).mono fun e W' ⟨he, hb⟩ => ?_
  subst he
  exact ⟨_, rfl, post_below (pa := _) (pv := []) hW' (fun _ _ _ => trodAll_mk1 (shut_bool Try.underlying4 _)) (fun sp hsp => args_again (by rw [Try.params8]; decide) hAk hb sp (by simpa using hsp)) (fun _ _ => rfl) (by simp) hb (ok_one (by kernel_rfl) rfl (okWide_bool_mk Try.underlying4 _))⟩
theorem bddFull_row : Rows.BddFullSaid :=
  OpenClaim.holds_of_wide 8 Try.f8 rfl rfl rfl rfl rfl rfl rfl ⟨rfl, rfl, rfl, rfl, rfl⟩ rfl rfl rfl rfl rfl (by kernel_rfl) Try.func8 (by kernel_rfl)
    (of_decide_eq_true (by kernel_rfl)) (by unfold Func.isWrapper; first | (rw [if_pos (by decide +kernel)]; kernel_rfl) | (rw [if_neg (by decide +kernel)]; exact ⟨rfl, rfl⟩))
    (fun os started H enc _ => bddFull_lifted os started H enc)
end LawW
theorem bddFull_holds : Rows.BddFullSaid := LawW.bddFull_row
#print axioms bddFull_holds
end Go.Proofs.Ytjajpdmmoiiojaa
