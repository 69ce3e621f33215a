/- The document's word, walked: Do. -/
import Derived.Test.YtbbajekecppioaaGreatDoorGa22
set_option linter.unusedSimpArgs false
set_option linter.unusedVariables false
namespace Go.Proofs.YtbbajekecppioaaGreatDoor
open Go.RowKit Go.Mem Go.Wd
namespace RfW
open TmW (frm_alloc frm_then Box wrap_nat64 frm_cellD frm_cell negE eqS)
theorem addE (x y : Nat) : IntKind.u64.wrap ((x : Int) + y) = (((x + y) % 2 ^ 64 : Nat) : Int) := by
 simp only [IntKind.wrap, IntKind.bits, IntKind.signed]
 simp
theorem subE (x y : Nat) (hy : y < 2 ^ 64) : IntKind.u64.wrap ((x : Int) - y) = (((x + 2 ^ 64 - y) % 2 ^ 64 : Nat) : Int) := by
 simp only [IntKind.wrap, IntKind.bits, IntKind.signed]
 simp
 omega
theorem mulE (x y : Nat) : IntKind.u64.wrap ((x : Int) * y) = (((x * y) % 2 ^ 64 : Nat) : Int) := by
 simp only [IntKind.wrap, IntKind.bits, IntKind.signed]
 simp
theorem shift_lt {t : Ty} (h : rightF t = true) (a b : Nat) (l : Bool) : shiftR t a b l < 2 ^ 64 := by
 have hl := wid_le h
 refine Nat.lt_of_lt_of_le (val_lt _) (Nat.pow_le_pow_right (by decide) ?_)
 have hn : ∀ k, (itF (if l then shlB (wid t) else shrB (negR t a)) k (bitsF a (wid t))).length = wid t := fun k => it_len (fun x hx => by
  cases l
  ·exact shr_len hl.1 hx
  ·exact shl_len hl.1 hx) k _ (bits_len _ _)
 rw [hn]
 exact hl.2
theorem flip_lt (n : Nat) : flipN n < 2 ^ 64 := Nat.mod_lt _ (by decide)
theorem div_lt {t : Ty} (h : rightF t = true) (a b : Nat) : (divR t a b).1 < 2 ^ 64 ∧ (divR t a b).2 < 2 ^ 64 := by
 have h1 := size_lt h a
 unfold divR
 refine ⟨?_, ?_⟩
 ·simp only
  split
  ·exact flip_lt _
  ·exact Nat.lt_of_le_of_lt (Nat.div_le_self _ _) h1
 ·simp only
  split
  ·exact flip_lt _
  ·exact Nat.lt_of_le_of_lt (Nat.mod_le _ _) h1
abbrev DoPost (w : World) (r : Nat × Int) (e : Ending) (w' : World) : Prop := e = .returned (.tuple #[.int .u64 (r.1 : Nat), .int .i64 r.2]) ∧ Frm (fun _ => False) w w'
theorem do_bad {t : Ty} (h : rightF t = false) (w : World) (op : ByteArray) (a b : Nat) :
  Calls Tryz.prog 26 #[.agg #[.int .i64 t.1, .bool t.2], .string op, .int .u64 a, .int .u64 b] w (DoPost w (0, 10)) := by
 have hF := Lib.hid (frm_alloc w (.cells #[.int .i64 t.1, .bool t.2] 23))
 have ⟨b0, b1⟩ := (TmW.Box.new w t).cells
 have HR := Lib.hid fun w1 => right_at w1 h
 clear h
 go_enter Tryz.func26, Tryz.ntmps26
 go_wp2_with fail
 refine (HR.out _).mono ?_
 rintro e w1 ⟨rfl, hf⟩
 have HF1 := Lib.hid (frm_then hF.out hf)
 clear hf
 go_wp2
 go_ret2
 exact ⟨rfl, HF1.out⟩
set_option maxRecDepth 100000 in
set_option maxHeartbeats 1000000 in
theorem do_bits {t : Ty} (h : rightF t = true) (w : World) (op : ByteArray) (a b : Nat) (ha : a < 2 ^ 64) (hb : b < 2 ^ 64) (k : Bin) (ho : (op = sAnd ∧ k = .and) ∨ (op = sOr ∧ k = .or) ∨ (op = sXor ∧ k = .xor)) :
  Calls Tryz.prog 26 #[.agg #[.int .i64 t.1, .bool t.2], .string op, .int .u64 a, .int .u64 b] w (DoPost w (binR t k (normF t a) (normF t b), 0)) := by
 have hF := Lib.hid (frm_alloc w (.cells #[.int .i64 t.1, .bool t.2] 23))
 have HB := Lib.hid (TmW.Box.new w t)
 have ⟨b0, b1⟩ := (TmW.Box.new w t).cells
 have HR := Lib.hid fun w1 => right_at w1 h
 have HN1 := Lib.hid fun w1 => Norm_calls w1 t a ha
 have HN2 := Lib.hid fun w1 => Norm_calls w1 t b hb
 have hx := norm_lt64 t a
 have hy := norm_lt64 t b
 have hxw := norm_lt a h
 have hyw := norm_lt b h
 generalize normF t a = x at *
 generalize normF t b = y at *
 have HA := Lib.hid fun w1 => each_and h w1 x y hx hy
 have HO := Lib.hid fun w1 => each_or h w1 x y hx hy
 have HX := Lib.hid fun w1 => each_xor h w1 x y hx hy
 clear h ha hb hx hy hxw hyw
 rcases ho with ⟨rfl, rfl⟩ | ⟨rfl, rfl⟩ | ⟨rfl, rfl⟩
 ·skip
  go_enter Tryz.func26, Tryz.ntmps26
  go_wp2_with fail
  refine (HR.out _).mono ?_
  rintro e w1 ⟨rfl, hf⟩
  have HB1 := Lib.hid (TmW.Box.frm0 HB.out hf)
  have ⟨c0, c1⟩ := (TmW.Box.frm0 HB.out hf).cells
  have HF1 := Lib.hid (frm_then hF.out hf)
  clear hf b0 b1
  go_wp2_with fail
  refine Plan.wp_region_plan [0, 0, 3, 0, 0, 31, 63, 127] [.mk [0, 1, 3, 4] 2 [3, 4], .mk [] 5 []] [6, 7] (by kernel_rfl) (by kernel_rfl) ?_
  simp only [Plan.wayOf, Plan.pickAll, List.getElem?_cons_zero, List.getElem?_cons_succ, List.getD_eq_getElem?_getD, Option.getD_some]
  refine Plan.wpWay_seg ?_
  repeat go_big_quiet_step (fail)
  refine wpQuiet_nil ?_; refine Plan.wpWay_act ?_
  go_wp2_with fail
  refine (HN1.out _).mono ?_
  rintro e w2 ⟨rfl, hf⟩
  have HB2 := Lib.hid (TmW.Box.frm0 (w := w1.drew) HB1.out hf)
  have ⟨d0, d1⟩ := (TmW.Box.frm0 (w := w1.drew) HB1.out hf).cells
  have HF2 := Lib.hid (frm_then HF1.out.drew hf)
  clear hf c0 c1
  go_wp2_with fail
  refine And.intro ?_ ?_; focus ((iterate 2 (refine Plan.again_cons ?_ ?_; focus (go_big_quiet_step (fail); exact wpQuiet_nil rfl))); exact Plan.again_nil)
  refine Plan.wpWay_seg ?_
  refine wpQuiet_nil ?_; refine Plan.wpWay_act ?_
  go_wp2_with fail
  refine (HN2.out _).mono ?_
  rintro e w3 ⟨rfl, hf⟩
  have HB3 := Lib.hid (TmW.Box.frm0 HB2.out hf)
  have ⟨c0, c1⟩ := (TmW.Box.frm0 HB2.out hf).cells
  have HF3 := Lib.hid (frm_then HF2.out hf)
  clear hf d0 d1
  go_wp2_with fail
  refine And.intro Plan.again_nil ?_
  refine Plan.wpWay_last ?_
  repeat go_big_quiet_step (fail)
  refine wpQuiet_nil ?_; refine NoPanic.normal ?_
  go_wp2_with fail
  refine (HA.out _).mono ?_
  rintro e w4 ⟨rfl, hf⟩
  have HF4 := Lib.hid (frm_then HF3.out hf)
  clear hf
  go_wp2
  go_ret2
  exact ⟨rfl, HF4.out⟩
 ·skip
  go_enter Tryz.func26, Tryz.ntmps26
  go_wp2_with fail
  refine (HR.out _).mono ?_
  rintro e w1 ⟨rfl, hf⟩
  have HB1 := Lib.hid (TmW.Box.frm0 HB.out hf)
  have ⟨c0, c1⟩ := (TmW.Box.frm0 HB.out hf).cells
  have HF1 := Lib.hid (frm_then hF.out hf)
  clear hf b0 b1
  go_wp2_with fail
  refine Plan.wp_region_plan [0, 0, 3, 0, 0, 31, 63, 127] [.mk [0, 1, 3, 4] 2 [3, 4], .mk [] 5 []] [6, 7] (by kernel_rfl) (by kernel_rfl) ?_
  simp only [Plan.wayOf, Plan.pickAll, List.getElem?_cons_zero, List.getElem?_cons_succ, List.getD_eq_getElem?_getD, Option.getD_some]
  refine Plan.wpWay_seg ?_
  repeat go_big_quiet_step (fail)
  refine wpQuiet_nil ?_; refine Plan.wpWay_act ?_
  go_wp2_with fail
  refine (HN1.out _).mono ?_
  rintro e w2 ⟨rfl, hf⟩
  have HB2 := Lib.hid (TmW.Box.frm0 (w := w1.drew) HB1.out hf)
  have ⟨d0, d1⟩ := (TmW.Box.frm0 (w := w1.drew) HB1.out hf).cells
  have HF2 := Lib.hid (frm_then HF1.out.drew hf)
  clear hf c0 c1
  go_wp2_with fail
  refine And.intro ?_ ?_; focus ((iterate 2 (refine Plan.again_cons ?_ ?_; focus (go_big_quiet_step (fail); exact wpQuiet_nil rfl))); exact Plan.again_nil)
  refine Plan.wpWay_seg ?_
  refine wpQuiet_nil ?_; refine Plan.wpWay_act ?_
  go_wp2_with fail
  refine (HN2.out _).mono ?_
  rintro e w3 ⟨rfl, hf⟩
  have HB3 := Lib.hid (TmW.Box.frm0 HB2.out hf)
  have ⟨c0, c1⟩ := (TmW.Box.frm0 HB2.out hf).cells
  have HF3 := Lib.hid (frm_then HF2.out hf)
  clear hf d0 d1
  go_wp2_with fail
  refine And.intro Plan.again_nil ?_
  refine Plan.wpWay_last ?_
  repeat go_big_quiet_step (fail)
  refine wpQuiet_nil ?_; refine NoPanic.normal ?_
  go_wp2_with fail
  refine (HO.out _).mono ?_
  rintro e w4 ⟨rfl, hf⟩
  have HF4 := Lib.hid (frm_then HF3.out hf)
  clear hf
  go_wp2
  go_ret2
  exact ⟨rfl, HF4.out⟩
 ·skip
  go_enter Tryz.func26, Tryz.ntmps26
  go_wp2_with fail
  refine (HR.out _).mono ?_
  rintro e w1 ⟨rfl, hf⟩
  have HB1 := Lib.hid (TmW.Box.frm0 HB.out hf)
  have ⟨c0, c1⟩ := (TmW.Box.frm0 HB.out hf).cells
  have HF1 := Lib.hid (frm_then hF.out hf)
  clear hf b0 b1
  go_wp2_with fail
  refine Plan.wp_region_plan [0, 0, 3, 0, 0, 31, 63, 127] [.mk [0, 1, 3, 4] 2 [3, 4], .mk [] 5 []] [6, 7] (by kernel_rfl) (by kernel_rfl) ?_
  simp only [Plan.wayOf, Plan.pickAll, List.getElem?_cons_zero, List.getElem?_cons_succ, List.getD_eq_getElem?_getD, Option.getD_some]
  refine Plan.wpWay_seg ?_
  repeat go_big_quiet_step (fail)
  refine wpQuiet_nil ?_; refine Plan.wpWay_act ?_
  go_wp2_with fail
  refine (HN1.out _).mono ?_
  rintro e w2 ⟨rfl, hf⟩
  have HB2 := Lib.hid (TmW.Box.frm0 (w := w1.drew) HB1.out hf)
  have ⟨d0, d1⟩ := (TmW.Box.frm0 (w := w1.drew) HB1.out hf).cells
  have HF2 := Lib.hid (frm_then HF1.out.drew hf)
  clear hf c0 c1
  go_wp2_with fail
  refine And.intro ?_ ?_; focus ((iterate 2 (refine Plan.again_cons ?_ ?_; focus (go_big_quiet_step (fail); exact wpQuiet_nil rfl))); exact Plan.again_nil)
  refine Plan.wpWay_seg ?_
  refine wpQuiet_nil ?_; refine Plan.wpWay_act ?_
  go_wp2_with fail
  refine (HN2.out _).mono ?_
  rintro e w3 ⟨rfl, hf⟩
  have HB3 := Lib.hid (TmW.Box.frm0 HB2.out hf)
  have ⟨c0, c1⟩ := (TmW.Box.frm0 HB2.out hf).cells
  have HF3 := Lib.hid (frm_then HF2.out hf)
  clear hf d0 d1
  go_wp2_with fail
  refine And.intro Plan.again_nil ?_
  refine Plan.wpWay_last ?_
  repeat go_big_quiet_step (fail)
  refine wpQuiet_nil ?_; refine NoPanic.normal ?_
  go_wp2_with fail
  refine (HX.out _).mono ?_
  rintro e w4 ⟨rfl, hf⟩
  have HF4 := Lib.hid (frm_then HF3.out hf)
  clear hf
  go_wp2
  go_ret2
  exact ⟨rfl, HF4.out⟩
set_option maxRecDepth 100000 in
set_option maxHeartbeats 1000000 in
theorem do_none {t : Ty} (h : rightF t = true) (w : World) (op : ByteArray) (a b : Nat) (ha : a < 2 ^ 64) (hb : b < 2 ^ 64) (ho : ¬ (op = sAnd ∨ op = sOr ∨ op = sXor)) (hn : t.1 = 1 ∨ getF (opsF t) op = none) :
  Calls Tryz.prog 26 #[.agg #[.int .i64 t.1, .bool t.2], .string op, .int .u64 a, .int .u64 b] w (DoPost w (0, 12)) := by
 have hF := Lib.hid (frm_alloc w (.cells #[.int .i64 t.1, .bool t.2] 23))
 have HB := Lib.hid (TmW.Box.new w t)
 have ⟨b0, b1⟩ := (TmW.Box.new w t).cells
 have HR := Lib.hid fun w1 => right_at w1 h
 have HN1 := Lib.hid fun w1 => Norm_calls w1 t a ha
 have HN2 := Lib.hid fun w1 => Norm_calls w1 t b hb
 have hx := norm_lt64 t a
 have hy := norm_lt64 t b
 have hxw := norm_lt a h
 have hyw := norm_lt b h
 generalize normF t a = x at *
 generalize normF t b = y at *
 have d1 : (op.toList == [38]) = false := by rw [eqS]; simp; exact fun e => ho (.inl e)
 have d2 : (op.toList == [124]) = false := by rw [eqS]; simp; exact fun e => ho (.inr (.inl e))
 have d3 : (op.toList == [94]) = false := by rw [eqS]; simp; exact fun e => ho (.inr (.inr e))
 clear ha hb hx hy hxw hyw
 by_cases hw : t.1 = 1
 ·have hw1 : (t.1 == 1) = true := by simp [hw]
  clear hn hw h ho
  go_enter Tryz.func26, Tryz.ntmps26
  go_wp2_with fail
  refine (HR.out _).mono ?_
  rintro e w1 ⟨rfl, hf⟩
  have HB1 := Lib.hid (TmW.Box.frm0 HB.out hf)
  have ⟨c0, c1⟩ := (TmW.Box.frm0 HB.out hf).cells
  have HF1 := Lib.hid (frm_then hF.out hf)
  clear hf b0 b1
  go_wp2_with fail
  refine Plan.wp_region_plan [0, 0, 3, 0, 0, 31, 63, 127] [.mk [0, 1, 3, 4] 2 [3, 4], .mk [] 5 []] [6, 7] (by kernel_rfl) (by kernel_rfl) ?_
  simp only [Plan.wayOf, Plan.pickAll, List.getElem?_cons_zero, List.getElem?_cons_succ, List.getD_eq_getElem?_getD, Option.getD_some]
  refine Plan.wpWay_seg ?_
  repeat go_big_quiet_step (fail)
  refine wpQuiet_nil ?_; refine Plan.wpWay_act ?_
  go_wp2_with fail
  refine (HN1.out _).mono ?_
  rintro e w2 ⟨rfl, hf⟩
  have HB2 := Lib.hid (TmW.Box.frm0 (w := w1.drew) HB1.out hf)
  have ⟨d0, d1⟩ := (TmW.Box.frm0 (w := w1.drew) HB1.out hf).cells
  have HF2 := Lib.hid (frm_then HF1.out.drew hf)
  clear hf c0 c1
  go_wp2_with fail
  refine And.intro ?_ ?_; focus ((iterate 2 (refine Plan.again_cons ?_ ?_; focus (go_big_quiet_step (fail); exact wpQuiet_nil rfl))); exact Plan.again_nil)
  refine Plan.wpWay_seg ?_
  refine wpQuiet_nil ?_; refine Plan.wpWay_act ?_
  go_wp2_with fail
  refine (HN2.out _).mono ?_
  rintro e w3 ⟨rfl, hf⟩
  have HB3 := Lib.hid (TmW.Box.frm0 HB2.out hf)
  have ⟨c0, c1⟩ := (TmW.Box.frm0 HB2.out hf).cells
  have HF3 := Lib.hid (frm_then HF2.out hf)
  clear hf d0 d1
  go_wp2_with fail
  refine And.intro Plan.again_nil ?_
  refine Plan.wpWay_last ?_
  repeat go_big_quiet_step (fail)
  refine wpQuiet_nil ?_; refine NoPanic.normal ?_
  go_wp2
  go_ret2
  exact ⟨rfl, HF3.out⟩
 ·have hw1 : (t.1 == 1) = false := by simp [hw]
  have hg := hn.resolve_left hw
  rw [opsF_wide hw] at hg
  simp only [getF] at hg
  have f4 : (op.toList == [43]) = false := by rw [eqS]; simp; rintro rfl; revert hg; decide
  have f5 : (op.toList == [45]) = false := by rw [eqS]; simp; rintro rfl; revert hg; decide
  have f6 : (op.toList == [42]) = false := by rw [eqS]; simp; rintro rfl; revert hg; decide
  have f7 : (op.toList == [47]) = false := by rw [eqS]; simp; rintro rfl; revert hg; decide
  have f8 : (op.toList == [37]) = false := by rw [eqS]; simp; rintro rfl; revert hg; decide
  have f9 : (op.toList == [60, 60]) = false := by rw [eqS]; simp; rintro rfl; revert hg; decide
  have f10 : (op.toList == [62, 62]) = false := by rw [eqS]; simp; rintro rfl; revert hg; decide
  clear hn hw h ho hg
  go_enter Tryz.func26, Tryz.ntmps26
  go_wp2_with fail
  refine (HR.out _).mono ?_
  rintro e w1 ⟨rfl, hf⟩
  have HB1 := Lib.hid (TmW.Box.frm0 HB.out hf)
  have ⟨c0, c1⟩ := (TmW.Box.frm0 HB.out hf).cells
  have HF1 := Lib.hid (frm_then hF.out hf)
  clear hf b0 b1
  go_wp2_with fail
  refine Plan.wp_region_plan [0, 0, 3, 0, 0, 31, 63, 127] [.mk [0, 1, 3, 4] 2 [3, 4], .mk [] 5 []] [6, 7] (by kernel_rfl) (by kernel_rfl) ?_
  simp only [Plan.wayOf, Plan.pickAll, List.getElem?_cons_zero, List.getElem?_cons_succ, List.getD_eq_getElem?_getD, Option.getD_some]
  refine Plan.wpWay_seg ?_
  repeat go_big_quiet_step (fail)
  refine wpQuiet_nil ?_; refine Plan.wpWay_act ?_
  go_wp2_with fail
  refine (HN1.out _).mono ?_
  rintro e w2 ⟨rfl, hf⟩
  have HB2 := Lib.hid (TmW.Box.frm0 (w := w1.drew) HB1.out hf)
  have ⟨d0, d1⟩ := (TmW.Box.frm0 (w := w1.drew) HB1.out hf).cells
  have HF2 := Lib.hid (frm_then HF1.out.drew hf)
  clear hf c0 c1
  go_wp2_with fail
  refine And.intro ?_ ?_; focus ((iterate 2 (refine Plan.again_cons ?_ ?_; focus (go_big_quiet_step (fail); exact wpQuiet_nil rfl))); exact Plan.again_nil)
  refine Plan.wpWay_seg ?_
  refine wpQuiet_nil ?_; refine Plan.wpWay_act ?_
  go_wp2_with fail
  refine (HN2.out _).mono ?_
  rintro e w3 ⟨rfl, hf⟩
  have HB3 := Lib.hid (TmW.Box.frm0 HB2.out hf)
  have ⟨c0, c1⟩ := (TmW.Box.frm0 HB2.out hf).cells
  have HF3 := Lib.hid (frm_then HF2.out hf)
  clear hf d0 d1
  go_wp2_with fail
  refine And.intro Plan.again_nil ?_
  refine Plan.wpWay_last ?_
  repeat go_big_quiet_step (fail)
  refine wpQuiet_nil ?_; refine NoPanic.normal ?_
  go_wp2
  go_ret2
  exact ⟨rfl, HF3.out⟩
set_option maxRecDepth 100000 in
set_option maxHeartbeats 1000000 in
theorem do_sum {t : Ty} (h : rightF t = true) (hw : t.1 ≠ 1) (w : World) (op : ByteArray) (a b : Nat) (ha : a < 2 ^ 64) (hb : b < 2 ^ 64) (k : Bin) (ho : (op = sAdd ∧ k = .add) ∨ (op = sSub ∧ k = .sub) ∨ (op = sMul ∧ k = .mul)) :
  Calls Tryz.prog 26 #[.agg #[.int .i64 t.1, .bool t.2], .string op, .int .u64 a, .int .u64 b] w (DoPost w (normF t (binR t k (normF t a) (normF t b)), 0)) := by
 have hF := Lib.hid (frm_alloc w (.cells #[.int .i64 t.1, .bool t.2] 23))
 have HB := Lib.hid (TmW.Box.new w t)
 have ⟨b0, b1⟩ := (TmW.Box.new w t).cells
 have HR := Lib.hid fun w1 => right_at w1 h
 have HN1 := Lib.hid fun w1 => Norm_calls w1 t a ha
 have HN2 := Lib.hid fun w1 => Norm_calls w1 t b hb
 have hx := norm_lt64 t a
 have hy := norm_lt64 t b
 have hxw := norm_lt a h
 have hyw := norm_lt b h
 generalize normF t a = x at *
 generalize normF t b = y at *
 have hw1 : (t.1 == 1) = false := by simp [hw]
 have HA := Lib.hid fun w1 => addE x y ▸ Norm_calls w1 t ((x + y) % 2 ^ 64) (Nat.mod_lt _ (by decide))
 have HS := Lib.hid fun w1 => subE x y hy ▸ Norm_calls w1 t ((x + 2 ^ 64 - y) % 2 ^ 64) (Nat.mod_lt _ (by decide))
 have HM := Lib.hid fun w1 => mulE x y ▸ Norm_calls w1 t ((x * y) % 2 ^ 64) (Nat.mod_lt _ (by decide))
 clear h ha hb hx hy hxw hyw hw
 rcases ho with ⟨rfl, rfl⟩ | ⟨rfl, rfl⟩ | ⟨rfl, rfl⟩
 ·skip
  go_enter Tryz.func26, Tryz.ntmps26
  go_wp2_with fail
  refine (HR.out _).mono ?_
  rintro e w1 ⟨rfl, hf⟩
  have HB1 := Lib.hid (TmW.Box.frm0 HB.out hf)
  have ⟨c0, c1⟩ := (TmW.Box.frm0 HB.out hf).cells
  have HF1 := Lib.hid (frm_then hF.out hf)
  clear hf b0 b1
  go_wp2_with fail
  refine Plan.wp_region_plan [0, 0, 3, 0, 0, 31, 63, 127] [.mk [0, 1, 3, 4] 2 [3, 4], .mk [] 5 []] [6, 7] (by kernel_rfl) (by kernel_rfl) ?_
  simp only [Plan.wayOf, Plan.pickAll, List.getElem?_cons_zero, List.getElem?_cons_succ, List.getD_eq_getElem?_getD, Option.getD_some]
  refine Plan.wpWay_seg ?_
  repeat go_big_quiet_step (fail)
  refine wpQuiet_nil ?_; refine Plan.wpWay_act ?_
  go_wp2_with fail
  refine (HN1.out _).mono ?_
  rintro e w2 ⟨rfl, hf⟩
  have HB2 := Lib.hid (TmW.Box.frm0 (w := w1.drew) HB1.out hf)
  have ⟨d0, d1⟩ := (TmW.Box.frm0 (w := w1.drew) HB1.out hf).cells
  have HF2 := Lib.hid (frm_then HF1.out.drew hf)
  clear hf c0 c1
  go_wp2_with fail
  refine And.intro ?_ ?_; focus ((iterate 2 (refine Plan.again_cons ?_ ?_; focus (go_big_quiet_step (fail); exact wpQuiet_nil rfl))); exact Plan.again_nil)
  refine Plan.wpWay_seg ?_
  refine wpQuiet_nil ?_; refine Plan.wpWay_act ?_
  go_wp2_with fail
  refine (HN2.out _).mono ?_
  rintro e w3 ⟨rfl, hf⟩
  have HB3 := Lib.hid (TmW.Box.frm0 HB2.out hf)
  have ⟨c0, c1⟩ := (TmW.Box.frm0 HB2.out hf).cells
  have HF3 := Lib.hid (frm_then HF2.out hf)
  clear hf d0 d1
  go_wp2_with fail
  refine And.intro Plan.again_nil ?_
  refine Plan.wpWay_last ?_
  repeat go_big_quiet_step (fail)
  refine wpQuiet_nil ?_; refine NoPanic.normal ?_
  go_wp2_with fail
  refine (HA.out _).mono ?_
  rintro e w4 ⟨rfl, hf⟩
  have HF4 := Lib.hid (frm_then HF3.out hf)
  clear hf
  go_wp2
  go_ret2
  exact ⟨rfl, HF4.out⟩
 ·skip
  go_enter Tryz.func26, Tryz.ntmps26
  go_wp2_with fail
  refine (HR.out _).mono ?_
  rintro e w1 ⟨rfl, hf⟩
  have HB1 := Lib.hid (TmW.Box.frm0 HB.out hf)
  have ⟨c0, c1⟩ := (TmW.Box.frm0 HB.out hf).cells
  have HF1 := Lib.hid (frm_then hF.out hf)
  clear hf b0 b1
  go_wp2_with fail
  refine Plan.wp_region_plan [0, 0, 3, 0, 0, 31, 63, 127] [.mk [0, 1, 3, 4] 2 [3, 4], .mk [] 5 []] [6, 7] (by kernel_rfl) (by kernel_rfl) ?_
  simp only [Plan.wayOf, Plan.pickAll, List.getElem?_cons_zero, List.getElem?_cons_succ, List.getD_eq_getElem?_getD, Option.getD_some]
  refine Plan.wpWay_seg ?_
  repeat go_big_quiet_step (fail)
  refine wpQuiet_nil ?_; refine Plan.wpWay_act ?_
  go_wp2_with fail
  refine (HN1.out _).mono ?_
  rintro e w2 ⟨rfl, hf⟩
  have HB2 := Lib.hid (TmW.Box.frm0 (w := w1.drew) HB1.out hf)
  have ⟨d0, d1⟩ := (TmW.Box.frm0 (w := w1.drew) HB1.out hf).cells
  have HF2 := Lib.hid (frm_then HF1.out.drew hf)
  clear hf c0 c1
  go_wp2_with fail
  refine And.intro ?_ ?_; focus ((iterate 2 (refine Plan.again_cons ?_ ?_; focus (go_big_quiet_step (fail); exact wpQuiet_nil rfl))); exact Plan.again_nil)
  refine Plan.wpWay_seg ?_
  refine wpQuiet_nil ?_; refine Plan.wpWay_act ?_
  go_wp2_with fail
  refine (HN2.out _).mono ?_
  rintro e w3 ⟨rfl, hf⟩
  have HB3 := Lib.hid (TmW.Box.frm0 HB2.out hf)
  have ⟨c0, c1⟩ := (TmW.Box.frm0 HB2.out hf).cells
  have HF3 := Lib.hid (frm_then HF2.out hf)
  clear hf d0 d1
  go_wp2_with fail
  refine And.intro Plan.again_nil ?_
  refine Plan.wpWay_last ?_
  repeat go_big_quiet_step (fail)
  refine wpQuiet_nil ?_; refine NoPanic.normal ?_
  go_wp2_with fail
  refine (HS.out _).mono ?_
  rintro e w4 ⟨rfl, hf⟩
  have HF4 := Lib.hid (frm_then HF3.out hf)
  clear hf
  go_wp2
  go_ret2
  exact ⟨rfl, HF4.out⟩
 ·skip
  go_enter Tryz.func26, Tryz.ntmps26
  go_wp2_with fail
  refine (HR.out _).mono ?_
  rintro e w1 ⟨rfl, hf⟩
  have HB1 := Lib.hid (TmW.Box.frm0 HB.out hf)
  have ⟨c0, c1⟩ := (TmW.Box.frm0 HB.out hf).cells
  have HF1 := Lib.hid (frm_then hF.out hf)
  clear hf b0 b1
  go_wp2_with fail
  refine Plan.wp_region_plan [0, 0, 3, 0, 0, 31, 63, 127] [.mk [0, 1, 3, 4] 2 [3, 4], .mk [] 5 []] [6, 7] (by kernel_rfl) (by kernel_rfl) ?_
  simp only [Plan.wayOf, Plan.pickAll, List.getElem?_cons_zero, List.getElem?_cons_succ, List.getD_eq_getElem?_getD, Option.getD_some]
  refine Plan.wpWay_seg ?_
  repeat go_big_quiet_step (fail)
  refine wpQuiet_nil ?_; refine Plan.wpWay_act ?_
  go_wp2_with fail
  refine (HN1.out _).mono ?_
  rintro e w2 ⟨rfl, hf⟩
  have HB2 := Lib.hid (TmW.Box.frm0 (w := w1.drew) HB1.out hf)
  have ⟨d0, d1⟩ := (TmW.Box.frm0 (w := w1.drew) HB1.out hf).cells
  have HF2 := Lib.hid (frm_then HF1.out.drew hf)
  clear hf c0 c1
  go_wp2_with fail
  refine And.intro ?_ ?_; focus ((iterate 2 (refine Plan.again_cons ?_ ?_; focus (go_big_quiet_step (fail); exact wpQuiet_nil rfl))); exact Plan.again_nil)
  refine Plan.wpWay_seg ?_
  refine wpQuiet_nil ?_; refine Plan.wpWay_act ?_
  go_wp2_with fail
  refine (HN2.out _).mono ?_
  rintro e w3 ⟨rfl, hf⟩
  have HB3 := Lib.hid (TmW.Box.frm0 HB2.out hf)
  have ⟨c0, c1⟩ := (TmW.Box.frm0 HB2.out hf).cells
  have HF3 := Lib.hid (frm_then HF2.out hf)
  clear hf d0 d1
  go_wp2_with fail
  refine And.intro Plan.again_nil ?_
  refine Plan.wpWay_last ?_
  repeat go_big_quiet_step (fail)
  refine wpQuiet_nil ?_; refine NoPanic.normal ?_
  go_wp2_with fail
  refine (HM.out _).mono ?_
  rintro e w4 ⟨rfl, hf⟩
  have HF4 := Lib.hid (frm_then HF3.out hf)
  clear hf
  go_wp2
  go_ret2
  exact ⟨rfl, HF4.out⟩
set_option maxRecDepth 100000 in
set_option maxHeartbeats 1000000 in
theorem do_shift {t : Ty} (h : rightF t = true) (hw : t.1 ≠ 1) (w : World) (op : ByteArray) (a b : Nat) (ha : a < 2 ^ 64) (hb : b < 2 ^ 64) (k : Bin) (ho : (op = sShl ∧ k = .shl) ∨ (op = sShr ∧ k = .shr)) :
  Calls Tryz.prog 26 #[.agg #[.int .i64 t.1, .bool t.2], .string op, .int .u64 a, .int .u64 b] w (DoPost w (normF t (binR t k (normF t a) (normF t b)), 0)) := by
 have hF := Lib.hid (frm_alloc w (.cells #[.int .i64 t.1, .bool t.2] 23))
 have HB := Lib.hid (TmW.Box.new w t)
 have ⟨b0, b1⟩ := (TmW.Box.new w t).cells
 have HR := Lib.hid fun w1 => right_at w1 h
 have HN1 := Lib.hid fun w1 => Norm_calls w1 t a ha
 have HN2 := Lib.hid fun w1 => Norm_calls w1 t b hb
 have hx := norm_lt64 t a
 have hy := norm_lt64 t b
 have hxw := norm_lt a h
 have hyw := norm_lt b h
 generalize normF t a = x at *
 generalize normF t b = y at *
 have hw1 : (t.1 == 1) = false := by simp [hw]
 have h1 : 1 < t.1 := (right_w1 h).resolve_left hw
 have sl : ∀ l, shiftR t x y l < 2 ^ 64 := fun l => shift_lt h x y l
 have HA := Lib.hid fun w1 l => shift_calls h h1 w1 x y l hx hy
 have HM := Lib.hid fun w1 l => Norm_calls w1 t (shiftR t x y l) (sl l)
 clear h ha hb hx hy hxw hyw hw sl h1
 rcases ho with ⟨rfl, rfl⟩ | ⟨rfl, rfl⟩
 all_goals
  go_enter Tryz.func26, Tryz.ntmps26
  go_wp2_with fail
  refine (HR.out _).mono ?_
  rintro e w1 ⟨rfl, hf⟩
  have HB1 := Lib.hid (TmW.Box.frm0 HB.out hf)
  have ⟨c0, c1⟩ := (TmW.Box.frm0 HB.out hf).cells
  have HF1 := Lib.hid (frm_then hF.out hf)
  clear hf b0 b1
  go_wp2_with fail
  refine Plan.wp_region_plan [0, 0, 3, 0, 0, 31, 63, 127] [.mk [0, 1, 3, 4] 2 [3, 4], .mk [] 5 []] [6, 7] (by kernel_rfl) (by kernel_rfl) ?_
  simp only [Plan.wayOf, Plan.pickAll, List.getElem?_cons_zero, List.getElem?_cons_succ, List.getD_eq_getElem?_getD, Option.getD_some]
  refine Plan.wpWay_seg ?_
  repeat go_big_quiet_step (fail)
  refine wpQuiet_nil ?_; refine Plan.wpWay_act ?_
  go_wp2_with fail
  refine (HN1.out _).mono ?_
  rintro e w2 ⟨rfl, hf⟩
  have HB2 := Lib.hid (TmW.Box.frm0 (w := w1.drew) HB1.out hf)
  have ⟨d0, d1⟩ := (TmW.Box.frm0 (w := w1.drew) HB1.out hf).cells
  have HF2 := Lib.hid (frm_then HF1.out.drew hf)
  clear hf c0 c1
  go_wp2_with fail
  refine And.intro ?_ ?_; focus ((iterate 2 (refine Plan.again_cons ?_ ?_; focus (go_big_quiet_step (fail); exact wpQuiet_nil rfl))); exact Plan.again_nil)
  refine Plan.wpWay_seg ?_
  refine wpQuiet_nil ?_; refine Plan.wpWay_act ?_
  go_wp2_with fail
  refine (HN2.out _).mono ?_
  rintro e w3 ⟨rfl, hf⟩
  have HB3 := Lib.hid (TmW.Box.frm0 HB2.out hf)
  have ⟨c0, c1⟩ := (TmW.Box.frm0 HB2.out hf).cells
  have HF3 := Lib.hid (frm_then HF2.out hf)
  clear hf d0 d1
  go_wp2_with fail
  refine And.intro Plan.again_nil ?_
  refine Plan.wpWay_last ?_
  repeat go_big_quiet_step (fail)
  refine wpQuiet_nil ?_; refine NoPanic.normal ?_
 all_goals
  go_wp2_with fail
  refine (HA.out _ _).mono ?_
  rintro e w4 ⟨rfl, hf⟩
  have HF4 := Lib.hid (frm_then HF3.out hf)
  have ⟨d0, d1⟩ := (TmW.Box.frm0 HB3.out hf).cells
  clear hf
  go_wp2_with fail
  refine (HM.out _ _).mono ?_
  rintro e w5 ⟨rfl, hf⟩
  have HF5 := Lib.hid (frm_then HF4.out hf)
  clear hf
  go_wp2
  go_ret2
  exact ⟨rfl, HF5.out⟩
set_option maxRecDepth 100000 in
set_option maxHeartbeats 1000000 in
theorem do_div0 {t : Ty} (h : rightF t = true) (hw : t.1 ≠ 1) (w : World) (op : ByteArray) (a b : Nat) (ha : a < 2 ^ 64) (hb : b < 2 ^ 64) (h0 : normF t b = 0) (ho : op = sQuo ∨ op = sRem) :
  Calls Tryz.prog 26 #[.agg #[.int .i64 t.1, .bool t.2], .string op, .int .u64 a, .int .u64 b] w (DoPost w (0, 11)) := by
 have hF := Lib.hid (frm_alloc w (.cells #[.int .i64 t.1, .bool t.2] 23))
 have HB := Lib.hid (TmW.Box.new w t)
 have ⟨b0, b1⟩ := (TmW.Box.new w t).cells
 have HR := Lib.hid fun w1 => right_at w1 h
 have HN1 := Lib.hid fun w1 => Norm_calls w1 t a ha
 have HN2 := Lib.hid fun w1 => Norm_calls w1 t b hb
 have hx := norm_lt64 t a
 have hy := norm_lt64 t b
 have hxw := norm_lt a h
 have hyw := norm_lt b h
 generalize normF t a = x at *
 generalize normF t b = y at *
 have hw1 : (t.1 == 1) = false := by simp [hw]
 clear h ha hb hx hy hxw hyw hw
 subst h0
 rcases ho with rfl | rfl
 all_goals
  go_enter Tryz.func26, Tryz.ntmps26
  go_wp2_with fail
  refine (HR.out _).mono ?_
  rintro e w1 ⟨rfl, hf⟩
  have HB1 := Lib.hid (TmW.Box.frm0 HB.out hf)
  have ⟨c0, c1⟩ := (TmW.Box.frm0 HB.out hf).cells
  have HF1 := Lib.hid (frm_then hF.out hf)
  clear hf b0 b1
  go_wp2_with fail
  refine Plan.wp_region_plan [0, 0, 3, 0, 0, 31, 63, 127] [.mk [0, 1, 3, 4] 2 [3, 4], .mk [] 5 []] [6, 7] (by kernel_rfl) (by kernel_rfl) ?_
  simp only [Plan.wayOf, Plan.pickAll, List.getElem?_cons_zero, List.getElem?_cons_succ, List.getD_eq_getElem?_getD, Option.getD_some]
  refine Plan.wpWay_seg ?_
  repeat go_big_quiet_step (fail)
  refine wpQuiet_nil ?_; refine Plan.wpWay_act ?_
  go_wp2_with fail
  refine (HN1.out _).mono ?_
  rintro e w2 ⟨rfl, hf⟩
  have HB2 := Lib.hid (TmW.Box.frm0 (w := w1.drew) HB1.out hf)
  have ⟨d0, d1⟩ := (TmW.Box.frm0 (w := w1.drew) HB1.out hf).cells
  have HF2 := Lib.hid (frm_then HF1.out.drew hf)
  clear hf c0 c1
  go_wp2_with fail
  refine And.intro ?_ ?_; focus ((iterate 2 (refine Plan.again_cons ?_ ?_; focus (go_big_quiet_step (fail); exact wpQuiet_nil rfl))); exact Plan.again_nil)
  refine Plan.wpWay_seg ?_
  refine wpQuiet_nil ?_; refine Plan.wpWay_act ?_
  go_wp2_with fail
  refine (HN2.out _).mono ?_
  rintro e w3 ⟨rfl, hf⟩
  have HB3 := Lib.hid (TmW.Box.frm0 HB2.out hf)
  have ⟨c0, c1⟩ := (TmW.Box.frm0 HB2.out hf).cells
  have HF3 := Lib.hid (frm_then HF2.out hf)
  clear hf d0 d1
  go_wp2_with fail
  refine And.intro Plan.again_nil ?_
  refine Plan.wpWay_last ?_
  repeat go_big_quiet_step (fail)
  refine wpQuiet_nil ?_; refine NoPanic.normal ?_
 all_goals
  go_wp2
  go_ret2
  exact ⟨rfl, HF3.out⟩
set_option maxRecDepth 100000 in
set_option maxHeartbeats 1000000 in
theorem do_div {t : Ty} (h : rightF t = true) (hw : t.1 ≠ 1) (w : World) (op : ByteArray) (a b : Nat) (ha : a < 2 ^ 64) (hb : b < 2 ^ 64) (h0 : normF t b ≠ 0) (k : Bin) (ho : (op = sQuo ∧ k = .quo) ∨ (op = sRem ∧ k = .rem)) :
  Calls Tryz.prog 26 #[.agg #[.int .i64 t.1, .bool t.2], .string op, .int .u64 a, .int .u64 b] w (DoPost w (normF t (binR t k (normF t a) (normF t b)), 0)) := by
 have hF := Lib.hid (frm_alloc w (.cells #[.int .i64 t.1, .bool t.2] 23))
 have HB := Lib.hid (TmW.Box.new w t)
 have ⟨b0, b1⟩ := (TmW.Box.new w t).cells
 have HR := Lib.hid fun w1 => right_at w1 h
 have HN1 := Lib.hid fun w1 => Norm_calls w1 t a ha
 have HN2 := Lib.hid fun w1 => Norm_calls w1 t b hb
 have hx := norm_lt64 t a
 have hy := norm_lt64 t b
 have hxw := norm_lt a h
 have hyw := norm_lt b h
 generalize normF t a = x at *
 generalize normF t b = y at *
 have hw1 : (t.1 == 1) = false := by simp [hw]
 have l1 := div_lt h x y
 have HA := Lib.hid fun w1 => divide_calls h w1 x y hxw hyw h0
 have HM := Lib.hid fun w1 => Norm_calls w1 t (divR t x y).1 l1.1
 have HM2 := Lib.hid fun w1 => Norm_calls w1 t (divR t x y).2 l1.2
 clear h ha hb hx hy hxw hyw hw l1
 rcases ho with ⟨rfl, rfl⟩ | ⟨rfl, rfl⟩
 ·skip
  go_enter Tryz.func26, Tryz.ntmps26
  go_wp2_with fail
  refine (HR.out _).mono ?_
  rintro e w1 ⟨rfl, hf⟩
  have HB1 := Lib.hid (TmW.Box.frm0 HB.out hf)
  have ⟨c0, c1⟩ := (TmW.Box.frm0 HB.out hf).cells
  have HF1 := Lib.hid (frm_then hF.out hf)
  clear hf b0 b1
  go_wp2_with fail
  refine Plan.wp_region_plan [0, 0, 3, 0, 0, 31, 63, 127] [.mk [0, 1, 3, 4] 2 [3, 4], .mk [] 5 []] [6, 7] (by kernel_rfl) (by kernel_rfl) ?_
  simp only [Plan.wayOf, Plan.pickAll, List.getElem?_cons_zero, List.getElem?_cons_succ, List.getD_eq_getElem?_getD, Option.getD_some]
  refine Plan.wpWay_seg ?_
  repeat go_big_quiet_step (fail)
  refine wpQuiet_nil ?_; refine Plan.wpWay_act ?_
  go_wp2_with fail
  refine (HN1.out _).mono ?_
  rintro e w2 ⟨rfl, hf⟩
  have HB2 := Lib.hid (TmW.Box.frm0 (w := w1.drew) HB1.out hf)
  have ⟨d0, d1⟩ := (TmW.Box.frm0 (w := w1.drew) HB1.out hf).cells
  have HF2 := Lib.hid (frm_then HF1.out.drew hf)
  clear hf c0 c1
  go_wp2_with fail
  refine And.intro ?_ ?_; focus ((iterate 2 (refine Plan.again_cons ?_ ?_; focus (go_big_quiet_step (fail); exact wpQuiet_nil rfl))); exact Plan.again_nil)
  refine Plan.wpWay_seg ?_
  refine wpQuiet_nil ?_; refine Plan.wpWay_act ?_
  go_wp2_with fail
  refine (HN2.out _).mono ?_
  rintro e w3 ⟨rfl, hf⟩
  have HB3 := Lib.hid (TmW.Box.frm0 HB2.out hf)
  have ⟨c0, c1⟩ := (TmW.Box.frm0 HB2.out hf).cells
  have HF3 := Lib.hid (frm_then HF2.out hf)
  clear hf d0 d1
  go_wp2_with fail
  refine And.intro Plan.again_nil ?_
  refine Plan.wpWay_last ?_
  repeat go_big_quiet_step (fail)
  refine wpQuiet_nil ?_; refine NoPanic.normal ?_
  go_wp2_with fail
  refine (HA.out _).mono ?_
  rintro e w4 ⟨rfl, hf⟩
  have HF4 := Lib.hid (frm_then HF3.out hf)
  have ⟨d0, d1⟩ := (TmW.Box.frm0 HB3.out hf).cells
  clear hf
  go_wp2_with fail
  refine (HM.out _).mono ?_
  rintro e w5 ⟨rfl, hf⟩
  have HF5 := Lib.hid (frm_then HF4.out hf)
  clear hf
  go_wp2
  go_ret2
  exact ⟨rfl, HF5.out⟩
 ·skip
  go_enter Tryz.func26, Tryz.ntmps26
  go_wp2_with fail
  refine (HR.out _).mono ?_
  rintro e w1 ⟨rfl, hf⟩
  have HB1 := Lib.hid (TmW.Box.frm0 HB.out hf)
  have ⟨c0, c1⟩ := (TmW.Box.frm0 HB.out hf).cells
  have HF1 := Lib.hid (frm_then hF.out hf)
  clear hf b0 b1
  go_wp2_with fail
  refine Plan.wp_region_plan [0, 0, 3, 0, 0, 31, 63, 127] [.mk [0, 1, 3, 4] 2 [3, 4], .mk [] 5 []] [6, 7] (by kernel_rfl) (by kernel_rfl) ?_
  simp only [Plan.wayOf, Plan.pickAll, List.getElem?_cons_zero, List.getElem?_cons_succ, List.getD_eq_getElem?_getD, Option.getD_some]
  refine Plan.wpWay_seg ?_
  repeat go_big_quiet_step (fail)
  refine wpQuiet_nil ?_; refine Plan.wpWay_act ?_
  go_wp2_with fail
  refine (HN1.out _).mono ?_
  rintro e w2 ⟨rfl, hf⟩
  have HB2 := Lib.hid (TmW.Box.frm0 (w := w1.drew) HB1.out hf)
  have ⟨d0, d1⟩ := (TmW.Box.frm0 (w := w1.drew) HB1.out hf).cells
  have HF2 := Lib.hid (frm_then HF1.out.drew hf)
  clear hf c0 c1
  go_wp2_with fail
  refine And.intro ?_ ?_; focus ((iterate 2 (refine Plan.again_cons ?_ ?_; focus (go_big_quiet_step (fail); exact wpQuiet_nil rfl))); exact Plan.again_nil)
  refine Plan.wpWay_seg ?_
  refine wpQuiet_nil ?_; refine Plan.wpWay_act ?_
  go_wp2_with fail
  refine (HN2.out _).mono ?_
  rintro e w3 ⟨rfl, hf⟩
  have HB3 := Lib.hid (TmW.Box.frm0 HB2.out hf)
  have ⟨c0, c1⟩ := (TmW.Box.frm0 HB2.out hf).cells
  have HF3 := Lib.hid (frm_then HF2.out hf)
  clear hf d0 d1
  go_wp2_with fail
  refine And.intro Plan.again_nil ?_
  refine Plan.wpWay_last ?_
  repeat go_big_quiet_step (fail)
  refine wpQuiet_nil ?_; refine NoPanic.normal ?_
  go_wp2_with fail
  refine (HA.out _).mono ?_
  rintro e w4 ⟨rfl, hf⟩
  have HF4 := Lib.hid (frm_then HF3.out hf)
  have ⟨d0, d1⟩ := (TmW.Box.frm0 HB3.out hf).cells
  clear hf
  go_wp2_with fail
  refine (HM2.out _).mono ?_
  rintro e w5 ⟨rfl, hf⟩
  have HF5 := Lib.hid (frm_then HF4.out hf)
  clear hf
  go_wp2
  go_ret2
  exact ⟨rfl, HF5.out⟩
theorem Do_calls (w : World) (t : Ty) (op : ByteArray) (a b : Nat) (ha : a < 2 ^ 64) (hb : b < 2 ^ 64) :
  Calls Tryz.prog 26 #[.agg #[.int .i64 t.1, .bool t.2], .string op, .int .u64 a, .int .u64 b] w (DoPost w (doF t op a b)) := by
 rw [← do_eq]
 unfold doR
 by_cases h : rightF t = true
 case neg => rw [if_neg h]; exact do_bad (by simpa using h) w op a b
 rw [if_pos h]
 by_cases ho : op = sAnd ∨ op = sOr ∨ op = sXor
 ·rw [if_pos ho]
  rcases ho with rfl | rfl | rfl
  ·exact do_bits h w _ a b ha hb _ (.inl ⟨rfl, by decide⟩)
  ·exact do_bits h w _ a b ha hb _ (.inr (.inl ⟨rfl, by decide⟩))
  ·exact do_bits h w _ a b ha hb _ (.inr (.inr ⟨rfl, by decide⟩))
 ·rw [if_neg ho]
  by_cases hw : t.1 = 1
  ·rw [if_pos hw]; exact do_none h w op a b ha hb ho (.inl hw)
  ·rw [if_neg hw]
   cases hg : getF (opsF t) op with
   | none => exact do_none h w op a b ha hb ho (.inr hg)
   | some k =>
    rw [opsF_wide hw] at hg
    simp only [getF] at hg
    have hc : (op = sAdd ∧ k = .add) ∨ (op = sSub ∧ k = .sub) ∨ (op = sMul ∧ k = .mul) ∨ (op = sShl ∧ k = .shl) ∨ (op = sShr ∧ k = .shr) ∨ (op = sQuo ∧ k = .quo) ∨ (op = sRem ∧ k = .rem) := by
     rw [if_neg (fun e => ho (.inl e.symm)), if_neg (fun e => ho (.inr (.inl e.symm))), if_neg (fun e => ho (.inr (.inr e.symm)))] at hg
     repeat' split at hg
     all_goals first | (cases hg; done) | (rename_i e; cases hg; subst e; simp)
    simp only
    rcases hc with ⟨rfl, rfl⟩ | ⟨rfl, rfl⟩ | ⟨rfl, rfl⟩ | ⟨rfl, rfl⟩ | ⟨rfl, rfl⟩ | ⟨rfl, rfl⟩ | ⟨rfl, rfl⟩
    ·rw [if_neg (by rintro ⟨_, h | h⟩ <;> exact absurd h (by decide))]; exact do_sum h hw w _ a b ha hb _ (.inl ⟨rfl, rfl⟩)
    ·rw [if_neg (by rintro ⟨_, h | h⟩ <;> exact absurd h (by decide))]; exact do_sum h hw w _ a b ha hb _ (.inr (.inl ⟨rfl, rfl⟩))
    ·rw [if_neg (by rintro ⟨_, h | h⟩ <;> exact absurd h (by decide))]; exact do_sum h hw w _ a b ha hb _ (.inr (.inr ⟨rfl, rfl⟩))
    ·rw [if_neg (by rintro ⟨_, h | h⟩ <;> exact absurd h (by decide))]; exact do_shift h hw w _ a b ha hb _ (.inl ⟨rfl, rfl⟩)
    ·rw [if_neg (by rintro ⟨_, h | h⟩ <;> exact absurd h (by decide))]; exact do_shift h hw w _ a b ha hb _ (.inr ⟨rfl, rfl⟩)
    all_goals
     by_cases h0 : normF t b = 0
     ·rw [if_pos ⟨h0, by simp⟩]; exact do_div0 h hw w _ a b ha hb h0 (by simp)
     ·rw [if_neg (fun e => h0 e.1)]
      exact do_div h hw w _ a b ha hb h0 _ (by simp)
end RfW
end Go.Proofs.YtbbajekecppioaaGreatDoor
