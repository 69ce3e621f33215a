/- BddLaws: not of and is or of not; what can be of either of two is what can be of one, or of the other. No condition. -/
import Derived.Test.YtjajpdmmoiiojaaLawB5
import Derived.Test.YtjajpdmmoiiojaaLawK
namespace Go.Proofs.Ytjajpdmmoiiojaa
open Go.RowKit Go.Mem Go.Bdd Go.ChangeShapes Go.WideShapes Go.ChangeAt Go.Deep
namespace LawW
set_option maxRecDepth 100000 in
theorem three_bytes {W : World} {base : Nat} {v : Value} (h : Value.okWide Try.prog W .any base 42 v) : ∃ q0 q1 q2 : Int, v = .agg #[.int .u8 q0, .int .u8 q1, .int .u8 q2] ∧ (0 ≤ q0 ∧ q0 ≤ 255) ∧ (0 ≤ q1 ∧ q1 ≤ 255) ∧ (0 ≤ q2 ∧ q2 ≤ 255) := by
  simp only [Value.okWide, Try.underlying42] at h
  obtain ⟨cs, rfl, hsz, ts, hts, _, hc⟩ := h
  have e : Try.prog.cellTypes Try.prog.depth 42 = some [5, 5, 5] := by kernel_rfl
  have e3 : Try.prog.cellsOf 42 = 3 := by kernel_rfl
  rw [e, Option.some.injEq] at hts
  subst hts
  rw [e3] at hsz
  have one : ∀ i v, cs[i]? = some v → i < 3 → ∃ q, v = .int .u8 q ∧ 0 ≤ q ∧ q ≤ 255 := fun i v hv hi => by
    obtain ⟨u, hu, hk⟩ := hc i v hv
    have hu' : u = 5 := by
      match i, hi, hu with
      | 0, _, hu => simpa using hu.symm
      | 1, _, hu => simpa using hu.symm
      | 2, _, hu => simpa using hu.symm
    subst hu'
    simp only [Cell.okWide, Try.underlying5] at hk
    cases v <;> simp_all [Cell.ok, Try.underlying5]
    simpa [IntKind.has, IntKind.min, IntKind.max, IntKind.signed, IntKind.bits] using hk.2
  obtain ⟨l⟩ := cs
  match l, hsz with
  | [x, y, z], _ =>
    obtain ⟨q0, rfl, h0⟩ := one 0 x rfl (by omega)
    obtain ⟨q1, rfl, h1⟩ := one 1 y rfl (by omega)
    obtain ⟨q2, rfl, h2⟩ := one 2 z rfl (by omega)
    exact ⟨q0, q1, q2, rfl, h0, h1, h2⟩
set_option maxRecDepth 100000 in
theorem bddLaws_lifted (os : Os) (started : os.Started) (H : Type) (enc : TypeId × Value → H) :
    ReturnsInHanded {} Try.checked os 5 .any (Rows.bddLawsSpec.pre6 enc Try.prog Try.f5 Rows.bddLawsRow.domain false) (Rows.bddLawsSpec.post enc Try.prog Try.f5 false true false false) := by
  refine returnsInHanded_of_change (C := Try.checked) own_knob started (by kernel_rfl) Try.func5
    (ChangeSpec.witness6 (enc := enc) (C := Try.checked) false ⟨#[], #[.int .u8 0, .slice none 0 0, .agg #[.int .u8 0, .int .u8 0, .int .u8 0]], []⟩ 8 (by kernel_rfl) (by kernel_rfl) (by kernel_rfl) (by kernel_rfl)) ?_
  intro W base args ds gs before hval0 hW hcnd _
  have hval : ∀ (j : Nat) t v, Try.f5.params[j]? = some t → args[j]? = some v → Value.okWide Try.prog W .any base t v := hval0
  have hW' := hW
  obtain ⟨p, q, hA0, hV, rfl, hfz, hnd⟩ := hW
  have hA : DataW.TrodAll enc Try.prog W 0 (fun _ => true) true Try.f5.params.toList args.toList ds p := hA0
  have hAk := hA
  rw [Try.params5] at hA hval
  obtain ⟨v0, v1, v2, d0, d1, d2, p0, p1, p2, rfl, rfl, rfl, h0, h1, h2⟩ := trodAll_three hA
  obtain ⟨rfl, rfl⟩ := trodVars_none hV
  obtain ⟨a0, rfl, rfl, rfl, w0⟩ := open_int Try.underlying5 (hval 0 5 v0 rfl rfl) h0
  have hx : 0 ≤ a0 ∧ a0 ≤ 255 := by simpa [Lit.wf, IntKind.min, IntKind.max, IntKind.signed, IntKind.bits] using w0
  obtain ⟨s1, s2, s3, rfl⟩ := okWide_slice Try.underlying22 (hval 1 22 v1 rfl rfl)
  obtain ⟨q0, q1, q2, rfl, hq0, hq1, hq2⟩ := three_bytes (hval 2 42 v2 rfl rfl)
  obtain ⟨n, hn⟩ := h1
  obtain ⟨xs, hxs⟩ := acts_read hn
  clear hA0 hval0
  simp only [List.append_nil] at hW'
  refine (laws_walk a0 hx _ xs q0 q1 q2 hq0 hq1 hq2 W hxs).mono fun e W' ⟨he, hb⟩ => ?_
  subst he
  exact ⟨_, rfl, post_below (pa := _) (pv := []) hW' (fun _ _ _ => trodAll_mk1 (shut_bool Try.underlying4 _)) (fun sp hsp => args_again (by rw [Try.params5]; decide) hAk hb sp (by simpa using hsp)) (fun _ _ => rfl) (by simp) hb (ok_one (by kernel_rfl) rfl (okWide_bool_mk Try.underlying4 _))⟩
theorem bddLaws_row : Rows.BddLawsSaid :=
  OpenClaim.holds_of_wide 5 Try.f5 rfl rfl rfl rfl rfl rfl rfl ⟨rfl, rfl, rfl, rfl, rfl⟩ rfl rfl rfl rfl rfl (by kernel_rfl) Try.func5 (by kernel_rfl)
    (of_decide_eq_true (by kernel_rfl)) (by unfold Func.isWrapper; first | (rw [if_pos (by decide +kernel)]; kernel_rfl) | (rw [if_neg (by decide +kernel)]; exact ⟨rfl, rfl⟩))
    (fun os started H enc _ => bddLaws_lifted os started H enc)
end LawW
theorem bddLaws_holds : Rows.BddLawsSaid := LawW.bddLaws_row
#print axioms bddLaws_holds
end Go.Proofs.Ytjajpdmmoiiojaa
