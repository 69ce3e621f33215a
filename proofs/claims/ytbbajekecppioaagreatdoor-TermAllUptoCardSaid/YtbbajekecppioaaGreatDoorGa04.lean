/- word.shift, divide walked. -/
import Derived.Test.YtbbajekecppioaaGreatDoorGa02
import Derived.Test.YtbbajekecppioaaGreatDoorGa03
import Derived.BigQuiet
import Derived.BigRegion
import Derived.Lib.Strings
import Derived.Test.YtbbajekecppioaaGreatDoorGa01
import Derived.Laws.EntriesVeiled
set_option linter.unusedSimpArgs false
set_option linter.unusedVariables false
namespace Go.Proofs.YtbbajekecppioaaGreatDoor
open Go.RowKit Go.Mem Go.Wd
namespace TmW
theorem ret_u64 {a b : Int} (h : a = b) : Ending.returned (.int .u64 a) = .returned (.int .u64 b) := by rw [h]
theorem box_at {W w1 : World} {b : Nat} {x y : Value} {ty : TypeId} {z : Nat × Nat} (h : W.heap[b]? = some (.cells #[x, y] ty z)) (hf : Frm (fun _ => False) W w1) : w1.heap[b]? = some (.cells #[x, y] ty z) ∧ w1.cell? ⟨b, 0, none⟩ = some x ∧ w1.cell? ⟨b, 1, none⟩ = some y := by
  have h := blk_frm h hf id
  exact ⟨h, blk_cell h 0, blk_cell h 1⟩
theorem ofI_wrap (x : Int) : ofI (wrap64 x) = ofI x := by unfold ofI wrap64; omega
theorem ret_2u64 {a b c d : Int} (h : a = b) (k : c = d) : Ending.returned (.tuple #[.int .u64 a, .int .u64 c]) = .returned (.tuple #[.int .u64 b, .int .u64 d]) := by rw [h, k]
theorem wrap_ofI (x : Int) : IntKind.u64.wrap x = ((ofI x : Nat) : Int) := by
  simp only [IntKind.wrap, IntKind.bits, IntKind.signed, ofI]
  simp
  omega
set_option maxRecDepth 100000 in
theorem shift_calls (w : World) (t : Ty) (a b : Nat) (ha : a < 2 ^ 64) (hb : b < 2 ^ 64) (hT : Tabs w) :
    Calls Tryz.prog 108 #[.agg #[.int .i64 t.1, .bool t.2], .int .u64 a, .int .u64 b] w fun e w' => e = .returned (.int .u64 (shiftF t a b)) ∧ Frm (fun _ => False) w w' := by
  have HI := Lib.hid (Int_calls (w.alloc (.cells #[.int .i64 t.1, .bool t.2] 23)) t a ha (hT.frm0 (frm_alloc _ _)))
  have Hb := Lib.hid hb
  have Ha := Lib.hid ha
  have hF := Lib.hid (frm_alloc w (.cells #[.int .i64 t.1, .bool t.2] 23))
  obtain ⟨x, s⟩ := t
  clear hT ha hb
  cases s
  · by_cases h : 64 ≤ b
    · have hs : Hid (shiftF (x, false) a b = 0) := Lib.hid (by unfold shiftF; simp [h])
      have d : decide ((b : Int) ≥ 64) = true := by simp; omega
      clear h
      go_enter Tryz.func108, Tryz.ntmps108
      go_wp2
      go_ret
      exact ⟨by rw [hs.out]; rfl, hF.out⟩
    · have hs : Hid (shiftF (x, false) a b = a / 2 ^ b) := Lib.hid (by unfold shiftF; simp [h])
      have d : decide ((b : Int) ≥ 64) = false := by simp; omega
      have H := Lib.hid h
      clear h
      go_enter Tryz.func108, Tryz.ntmps108
      go_wp2
      go_ret
      exact ⟨ret_u64 (by rw [hs.out, Nat.min_eq_left (by have := H.out; omega)]; simp), hF.out⟩
  · have hs : Hid (shiftF (x, true) a b = ofI (intF (x, true) a / 2 ^ min b 63)) := Lib.hid rfl
    have hin := int_in (x, true) a
    generalize intF (x, true) a = n at *
    go_enter Tryz.func108, Tryz.ntmps108
    go_wp2_with fail
    refine HI.out.mono ?_
    rintro e w1 ⟨rfl, hf1⟩
    have HF := Lib.hid (frm_then hF.out hf1)
    clear hf1
    go_wp2
    · have hlt : (b : Int) > 63 := by assumption
      go_ret
      exact ⟨ret_u64 (by rw [hs.out, Nat.min_eq_right (by omega), wrap_ofI]; rfl), HF.out⟩
    · have hlt : (b : Int) ≤ 63 := by assumption
      go_ret
      exact ⟨ret_u64 (by rw [hs.out, Nat.min_eq_left (by omega), wrap_ofI]), HF.out⟩
set_option maxRecDepth 100000 in
set_option maxHeartbeats 1000000 in
theorem divide_calls (w : World) (t : Ty) (a b : Nat) (ha : a < 2 ^ 64) (hb : b < 2 ^ 64) (hT : Tabs w) (h0 : b ≠ 0) (h1 : t.2 = true → intF t b ≠ 0) :
    Calls Tryz.prog 110 #[.agg #[.int .i64 t.1, .bool t.2], .int .u64 a, .int .u64 b] w fun e w' => e = .returned (.tuple #[.int .u64 (divF t a b).1, .int .u64 (divF t a b).2]) ∧ Frm (fun _ => False) w w' := by
  have HI := Lib.hid (fun w1 (hf : Frm (fun _ => False) w w1) => Int_calls w1 t a ha (hT.frm0 hf))
  have HJ := Lib.hid (fun w1 (hf : Frm (fun _ => False) w w1) => Int_calls w1 t b hb (hT.frm0 hf))
  have hF := Lib.hid (frm_alloc w (.cells #[.int .i64 t.1, .bool t.2] 23))
  have hia := int_in t a
  have hib := int_in t b
  obtain ⟨x, s⟩ := t
  clear hT
  cases s
  · have hs : Hid (divF (x, false) a b = (a / b, a % b)) := Lib.hid (by unfold divF; simp)
    have d : ((b : Int) == 0) = false := by simp; omega
    have d' : (b : Int) ≠ 0 := by omega
    have Ha := Lib.hid ha
    clear h0 h1 hia hib ha hb
    go_enter Tryz.func110, Tryz.ntmps110
    go_wp2
    go_quiet (fail)
    go_wp2
    go_ret2
    refine ⟨ret_2u64 ?_ ?_, hF.out.drewN _⟩
    · rw [hs.out, ← Int.natCast_ediv, wrap_nat64 _ (Nat.lt_of_le_of_lt (Nat.div_le_self _ _) Ha.out)]
    · rw [hs.out]; rfl
  · have h1' : intF (x, true) b ≠ 0 := h1 rfl
    have hs : Hid (divF (x, true) a b = if intF (x, true) b = -1 then (ofI (-intF (x, true) a), 0) else (ofI ((intF (x, true) a).tdiv (intF (x, true) b)), ofI ((intF (x, true) a).tmod (intF (x, true) b)))) := Lib.hid rfl
    generalize intF (x, true) a = m at *
    generalize intF (x, true) b = n at *
    clear h0 h1 ha hb
    go_enter Tryz.func110, Tryz.ntmps110
    go_wp2
    refine Plan.wp_region_plan [0, 0, 3, 0, 0, 31, 63, 127] [.mk [0, 1, 3, 4] 2 [3, 4], .mk [] 5 []] [6, 7] (by kernel_rfl) (by kernel_rfl) ?_
    simp only [Plan.wayOf, Plan.pickAll, List.getElem?_cons_zero, List.getElem?_cons_succ, List.getD_eq_getElem?_getD, Option.getD_some]
    refine Plan.wpWay_seg ?_
    repeat go_big_quiet_step (fail)
    refine wpQuiet_nil ?_; refine Plan.wpWay_act ?_
    go_wp2_with fail
    refine (HI.out _ hF.out.drew).mono ?_
    rintro e w1 ⟨rfl, hf1⟩
    obtain ⟨hb, hb0, hb1⟩ := box_at (W := (w.alloc (.cells #[.int .i64 x, .bool true] 23)).drew) (blk_new (w := w) _) hf1
    have HF1 := Lib.hid (frm_then hF.out.drew hf1)
    clear hf1
    go_wp2_with fail
    refine And.intro ?_ ?_; focus ((iterate 2 (refine Plan.again_cons ?_ ?_; focus (go_big_quiet_step (fail); exact wpQuiet_nil rfl))); exact Plan.again_nil)
    refine Plan.wpWay_seg ?_
    refine wpQuiet_nil ?_; refine Plan.wpWay_act ?_
    go_wp2_with fail
    refine (HJ.out _ HF1.out).mono ?_
    rintro e w2 ⟨rfl, hf2⟩
    have hc0 := frm_cell hf2 hb0
    have hc1 := frm_cell hf2 hb1
    have HF2 := Lib.hid (frm_then HF1.out hf2)
    clear hf2
    go_wp2_with fail
    refine And.intro Plan.again_nil ?_
    refine Plan.wpWay_last ?_
    repeat go_big_quiet_step (fail)
    refine wpQuiet_nil ?_; refine NoPanic.normal ?_
    by_cases hn : n = -1
    · subst hn
      go_wp2
      go_ret2
      exact ⟨ret_2u64 (by rw [hs.out, if_pos trivial, wrap_ofI, ofI_wrap]) (by rw [hs.out, if_pos trivial]; rfl), HF2.out⟩
    · have d : (n == -1) = false := by simp [hn]
      have d0 : (n == 0) = false := by simp [h1']
      go_wp2
      go_quiet (fail)
      go_wp2
      go_ret2
      exact ⟨ret_2u64 (by rw [hs.out, if_neg hn, wrap_ofI, ofI_wrap]) (by rw [hs.out, if_neg hn, wrap_ofI]), HF2.out.drewN _⟩
end TmW
end Go.Proofs.YtbbajekecppioaaGreatDoor
/- word.less, Test, Turn, Cast walked. -/
namespace Go.Proofs.YtbbajekecppioaaGreatDoor
open Go.RowKit Go.Mem Go.Wd
namespace TmW
set_option maxRecDepth 100000 in
set_option maxHeartbeats 1000000 in
theorem less_calls (w : World) (t : Ty) (a b : Nat) (ha : a < 2 ^ 64) (hb : b < 2 ^ 64) (hT : Tabs w) :
    Calls Tryz.prog 83 #[.agg #[.int .i64 t.1, .bool t.2], .int .u64 a, .int .u64 b] w fun e w' => e = .returned (.bool (lessF t a b)) ∧ Frm (fun _ => False) w w' := by
  have HI := Lib.hid (fun w1 (hf : Frm (fun _ => False) w w1) => Int_calls w1 t a ha (hT.frm0 hf))
  have HJ := Lib.hid (fun w1 (hf : Frm (fun _ => False) w w1) => Int_calls w1 t b hb (hT.frm0 hf))
  have HK := Lib.hid (fun w1 (hf : Frm (fun _ => False) w w1) => Norm_calls w1 t a ha (hT.frm0 hf))
  have HL := Lib.hid (fun w1 (hf : Frm (fun _ => False) w w1) => Norm_calls w1 t b hb (hT.frm0 hf))
  have hF := Lib.hid (frm_alloc w (.cells #[.int .i64 t.1, .bool t.2] 23))
  obtain ⟨x, s⟩ := t
  clear hT
  cases s
  · have hs : Hid (lessF (x, false) a b = decide (normF (x, false) a < normF (x, false) b)) := Lib.hid rfl
    generalize normF (x, false) a = m at *
    generalize normF (x, false) b = n at *
    clear ha hb
    go_enter Tryz.func83, Tryz.ntmps83
    go_wp2
    refine Plan.wp_region_plan [0, 0, 3, 0, 0, 31, 63, 127] [.mk [0, 1, 3, 4] 2 [3, 4], .mk [] 5 []] [6, 7] (by kernel_rfl) (by kernel_rfl) ?_
    simp only [Plan.wayOf, Plan.pickAll, List.getElem?_cons_zero, List.getElem?_cons_succ, List.getD_eq_getElem?_getD, Option.getD_some]
    refine Plan.wpWay_seg ?_
    repeat go_big_quiet_step (fail)
    refine wpQuiet_nil ?_; refine Plan.wpWay_act ?_
    go_wp2_with fail
    refine (HK.out _ hF.out.drew).mono ?_
    rintro e w1 ⟨rfl, hf1⟩
    obtain ⟨hb, hb0, hb1⟩ := box_at (W := (w.alloc (.cells #[.int .i64 x, .bool false] 23)).drew) (blk_new (w := w) _) hf1
    have HF1 := Lib.hid (frm_then hF.out.drew hf1)
    clear hf1
    go_wp2_with fail
    refine And.intro ?_ ?_; focus ((iterate 2 (refine Plan.again_cons ?_ ?_; focus (go_big_quiet_step (fail); exact wpQuiet_nil rfl))); exact Plan.again_nil)
    refine Plan.wpWay_seg ?_
    refine wpQuiet_nil ?_; refine Plan.wpWay_act ?_
    go_wp2_with fail
    refine (HL.out _ HF1.out).mono ?_
    rintro e w2 ⟨rfl, hf2⟩
    have HF2 := Lib.hid (frm_then HF1.out hf2)
    clear hf2
    go_wp2_with fail
    refine And.intro Plan.again_nil ?_
    refine Plan.wpWay_last ?_
    repeat go_big_quiet_step (fail)
    refine wpQuiet_nil ?_; refine NoPanic.normal ?_
    go_wp2
    go_ret
    exact ⟨by rw [hs.out]; simp, HF2.out⟩
  · have hs : Hid (lessF (x, true) a b = decide (intF (x, true) a < intF (x, true) b)) := Lib.hid rfl
    generalize intF (x, true) a = m at *
    generalize intF (x, true) b = n at *
    clear ha hb
    go_enter Tryz.func83, Tryz.ntmps83
    go_wp2
    refine Plan.wp_region_plan [0, 0, 3, 0, 0, 31, 63, 127] [.mk [0, 1, 3, 4] 2 [3, 4], .mk [] 5 []] [6, 7] (by kernel_rfl) (by kernel_rfl) ?_
    simp only [Plan.wayOf, Plan.pickAll, List.getElem?_cons_zero, List.getElem?_cons_succ, List.getD_eq_getElem?_getD, Option.getD_some]
    refine Plan.wpWay_seg ?_
    repeat go_big_quiet_step (fail)
    refine wpQuiet_nil ?_; refine Plan.wpWay_act ?_
    go_wp2_with fail
    refine (HI.out _ hF.out.drew).mono ?_
    rintro e w1 ⟨rfl, hf1⟩
    obtain ⟨hb, hb0, hb1⟩ := box_at (W := (w.alloc (.cells #[.int .i64 x, .bool true] 23)).drew) (blk_new (w := w) _) hf1
    have HF1 := Lib.hid (frm_then hF.out.drew hf1)
    clear hf1
    go_wp2_with fail
    refine And.intro ?_ ?_; focus ((iterate 2 (refine Plan.again_cons ?_ ?_; focus (go_big_quiet_step (fail); exact wpQuiet_nil rfl))); exact Plan.again_nil)
    refine Plan.wpWay_seg ?_
    refine wpQuiet_nil ?_; refine Plan.wpWay_act ?_
    go_wp2_with fail
    refine (HJ.out _ HF1.out).mono ?_
    rintro e w2 ⟨rfl, hf2⟩
    have HF2 := Lib.hid (frm_then HF1.out hf2)
    clear hf2
    go_wp2_with fail
    refine And.intro Plan.again_nil ?_
    refine Plan.wpWay_last ?_
    repeat go_big_quiet_step (fail)
    refine wpQuiet_nil ?_; refine NoPanic.normal ?_
    go_wp2
    go_ret
    exact ⟨by rw [hs.out]; simp, HF2.out⟩

theorem eqS (op : ByteArray) (l : List UInt8) : (op.toList == l) = decide (op = ⟨l.toArray⟩) := by
  rw [Bool.eq_iff_iff, beq_iff_eq, decide_eq_true_iff]
  constructor
  · intro h
    subst h
    rw [Lib.toList_data]
  · rintro rfl
    rw [Lib.toList_data]
theorem beqI (m n : Nat) : ((m : Int) == (n : Int)) = decide (m = n) := by
  rw [Bool.eq_iff_iff, beq_iff_eq, decide_eq_true_iff]; omega
theorem testF_bool {t : Ty} (hr : rightF t = true) (op : ByteArray) (a b : Nat) : testF t op a b =
    if (op.toList == [61, 61]) = true then (((normF t a : Nat) : Int) == ((normF t b : Nat) : Int), 0)
    else if (op.toList == [33, 61]) = true then (((normF t a : Nat) : Int) != ((normF t b : Nat) : Int), 0)
    else if 1 < t.1 then
      if (op.toList == [60]) = true then (lessF t (normF t a) (normF t b), 0)
      else if (op.toList == [60, 61]) = true then (!lessF t (normF t b) (normF t a), 0)
      else if (op.toList == [62]) = true then (lessF t (normF t b) (normF t a), 0)
      else if (op.toList == [62, 61]) = true then (!lessF t (normF t a) (normF t b), 0)
      else (false, 12)
    else (false, 12) := by
  simp only [eqS, decide_eq_true_iff, bne, beqI]
  unfold testF
  rw [if_pos hr]
set_option maxRecDepth 100000 in
set_option maxHeartbeats 1000000 in
theorem Test_calls (w : World) (t : Ty) (op : ByteArray) (a b : Nat) (ha : a < 2 ^ 64) (hb : b < 2 ^ 64) (hT : Tabs w) :
    Calls Tryz.prog 64 #[.agg #[.int .i64 t.1, .bool t.2], .string op, .int .u64 a, .int .u64 b] w fun e w' => e = .returned (.tuple #[.bool (testF t op a b).1, .int .i64 (testF t op a b).2]) ∧ Frm (fun _ => False) w w' := by
  have HR := Lib.hid (fun w1 (hf : Frm (fun _ => False) w w1) => Right_calls w1 t (hT.frm0 hf))
  have HK := Lib.hid (fun w1 (hf : Frm (fun _ => False) w w1) => Norm_calls w1 t a ha (hT.frm0 hf))
  have HL := Lib.hid (fun w1 (hf : Frm (fun _ => False) w w1) => Norm_calls w1 t b hb (hT.frm0 hf))
  have HS := Lib.hid (fun w1 (hf : Frm (fun _ => False) w w1) => less_calls w1 t (normF t a) (normF t b) (norm_lt64 _ _) (norm_lt64 _ _) (hT.frm0 hf))
  have HS' := Lib.hid (fun w1 (hf : Frm (fun _ => False) w w1) => less_calls w1 t (normF t b) (normF t a) (norm_lt64 _ _) (norm_lt64 _ _) (hT.frm0 hf))
  have hF := Lib.hid (frm_alloc w (.cells #[.int .i64 t.1, .bool t.2] 23))
  clear hT ha hb
  by_cases hr : rightF t = true
  case neg =>
    have hs : Hid (testF t op a b = (false, 10)) := Lib.hid (by unfold testF; rw [if_neg hr])
    rw [show rightF t = false by simpa using hr] at HR
    clear hr HK HL HS HS'
    go_enter Tryz.func64, Tryz.ntmps64
    go_wp2_with fail
    refine (HR.out _ hF.out).mono ?_
    rintro e w1 ⟨rfl, hf1⟩
    have HF1 := Lib.hid (frm_then hF.out hf1)
    clear hf1
    go_wp2
    go_ret2
    exact ⟨by rw [hs.out]; rfl, HF1.out⟩
  case pos =>
    rw [hr] at HR
    have hs := Lib.hid (testF_bool hr op a b)
    generalize normF t a = m at *
    generalize normF t b = n at *
    clear hr
    go_enter Tryz.func64, Tryz.ntmps64
    go_wp2_with fail
    refine (HR.out _ hF.out).mono ?_
    rintro e w1 ⟨rfl, hf1⟩
    obtain ⟨HB, c0, c1⟩ := box_at (blk_new (w := w) (.cells #[.int .i64 t.1, .bool t.2] 23)) hf1
    have HB1 := Lib.hid HB
    have HF1 := Lib.hid (frm_then hF.out hf1)
    clear hf1 HB
    go_wp2
    refine Plan.wp_region_plan [0, 0, 3, 0, 0, 31, 63, 127] [.mk [0, 1, 3, 4] 2 [3, 4], .mk [] 5 []] [6, 7] (by kernel_rfl) (by kernel_rfl) ?_
    simp only [Plan.wayOf, Plan.pickAll, List.getElem?_cons_zero, List.getElem?_cons_succ, List.getD_eq_getElem?_getD, Option.getD_some]
    refine Plan.wpWay_seg ?_
    repeat go_big_quiet_step (fail)
    refine wpQuiet_nil ?_; refine Plan.wpWay_act ?_
    go_wp2_with fail
    refine (HK.out _ HF1.out.drew).mono ?_
    rintro e w2 ⟨rfl, hf2⟩
    obtain ⟨HB, c2, c3⟩ := box_at (W := w1.drew) HB1.out hf2
    have HF2 := Lib.hid (frm_then HF1.out.drew hf2)
    have HB2 := Lib.hid HB
    clear hf2 HB
    go_wp2_with fail
    refine And.intro ?_ ?_; focus ((iterate 2 (refine Plan.again_cons ?_ ?_; focus (go_big_quiet_step (fail); exact wpQuiet_nil rfl))); exact Plan.again_nil)
    refine Plan.wpWay_seg ?_
    refine wpQuiet_nil ?_; refine Plan.wpWay_act ?_
    go_wp2_with fail
    refine (HL.out _ HF2.out).mono ?_
    rintro e w3 ⟨rfl, hf3⟩
    obtain ⟨HB, c4, c5⟩ := box_at HB2.out hf3
    have HF3 := Lib.hid (frm_then HF2.out hf3)
    have HB3 := Lib.hid HB
    clear hf3 HB
    go_wp2_with fail
    refine And.intro Plan.again_nil ?_
    refine Plan.wpWay_last ?_
    repeat go_big_quiet_step (fail)
    refine wpQuiet_nil ?_; refine NoPanic.normal ?_
    go_wp2_with (go_at_call 83; first | ((with_reducible refine (HS.out _ HF3.out).mono ?_); rintro e w4 ⟨rfl, hf4⟩; have HF4 := Lib.hid (frm_then HF3.out hf4); clear hf4) | ((with_reducible refine (HS'.out _ HF3.out).mono ?_); rintro e w4 ⟨rfl, hf4⟩; have HF4 := Lib.hid (frm_then HF3.out hf4); clear hf4))
    all_goals go_ret2
    all_goals first | refine ⟨?_, HF4.out⟩ | refine ⟨?_, HF3.out⟩
    all_goals
      rw [hs.out]
      first | (simp [*]; done) | (have hle : ¬ 1 < t.1 := by omega
                                  simp [*])
theorem negE (a : Nat) (ha : a < 2 ^ 64) : IntKind.u64.wrap (-(a : Int)) = (((2 ^ 64 - a) % 2 ^ 64 : Nat) : Int) := by
  simp only [IntKind.wrap, IntKind.bits, IntKind.signed]
  simp
  omega
theorem notE (a : Nat) (ha : a < 2 ^ 64) : bits .xor .u64 IntKind.u64.max (a : Int) = ((2 ^ 64 - 1 - a : Nat) : Int) := by
  have e : IntKind.u64.max = ((2 ^ 64 - 1 : Nat) : Int) := by kernel_rfl
  unfold bits
  rw [e]
  simp only [BitVec.toNat_xor, ofInt_nat64 a ha, ofInt_nat64 (2 ^ 64 - 1) (by omega)]
  have h1 : (2 ^ 64 - 1) ^^^ a = 2 ^ 64 - 1 - a := by
    apply Nat.eq_of_testBit_eq
    intro i
    rw [Nat.testBit_xor, Nat.testBit_two_pow_sub_one, show 2 ^ 64 - 1 - a = 2 ^ 64 - (a + 1) by omega, Nat.testBit_two_pow_sub_succ ha]
    by_cases hi : i < 64
    · simp [hi]
    · have : a.testBit i = false := Nat.testBit_lt_two_pow (Nat.lt_of_lt_of_le ha (Nat.pow_le_pow_right (by decide) (by omega)))
      simp [hi, this]
  rw [h1]
  exact wrap_nat64 _ (by omega)
theorem turnF_bool {t : Ty} (hr : rightF t = true) (op : ByteArray) (a : Nat) : turnF t op a =
    if (op.toList == [45]) = true ∧ 1 < t.1 then (normF t ((2 ^ 64 - a) % 2 ^ 64), 0)
    else if ((op.toList == [126]) = true ∧ 1 < t.1) ∨ ((op.toList == [33]) = true ∧ t.1 = 1) then (normF t (2 ^ 64 - 1 - a), 0)
    else (0, 12) := by
  simp only [eqS, decide_eq_true_iff]
  unfold turnF
  rw [if_pos hr]
set_option maxRecDepth 100000 in
set_option maxHeartbeats 1000000 in
theorem Turn_calls (w : World) (t : Ty) (op : ByteArray) (a : Nat) (ha : a < 2 ^ 64) (hT : Tabs w) :
    Calls Tryz.prog 62 #[.agg #[.int .i64 t.1, .bool t.2], .string op, .int .u64 a] w fun e w' => e = .returned (.tuple #[.int .u64 (turnF t op a).1, .int .i64 (turnF t op a).2]) ∧ Frm (fun _ => False) w w' := by
  have HR := Lib.hid (fun w1 (hf : Frm (fun _ => False) w w1) => Right_calls w1 t (hT.frm0 hf))
  have HK := Lib.hid (fun w1 (hf : Frm (fun _ => False) w w1) => negE a ha ▸ Norm_calls w1 t ((2 ^ 64 - a) % 2 ^ 64) (by omega) (hT.frm0 hf))
  have HL := Lib.hid (fun w1 (hf : Frm (fun _ => False) w w1) => notE a ha ▸ Norm_calls w1 t (2 ^ 64 - 1 - a) (by omega) (hT.frm0 hf))
  have hF := Lib.hid (frm_alloc w (.cells #[.int .i64 t.1, .bool t.2] 23))
  clear hT ha
  by_cases hr : rightF t = true
  case neg =>
    have hs : Hid (turnF t op a = (0, 10)) := Lib.hid (by unfold turnF; rw [if_neg hr])
    rw [show rightF t = false by simpa using hr] at HR
    clear hr HK HL
    go_enter Tryz.func62, Tryz.ntmps62
    go_wp2_with fail
    refine (HR.out _ hF.out).mono ?_
    rintro e w1 ⟨rfl, hf1⟩
    have HF1 := Lib.hid (frm_then hF.out hf1)
    clear hf1
    go_wp2
    go_ret2
    exact ⟨by rw [hs.out]; rfl, HF1.out⟩
  case pos =>
    rw [hr] at HR
    have hs := Lib.hid (turnF_bool hr op a)
    clear hr
    go_enter Tryz.func62, Tryz.ntmps62
    go_wp2_with fail
    refine (HR.out _ hF.out).mono ?_
    rintro e w1 ⟨rfl, hf1⟩
    obtain ⟨HB, c0, c1⟩ := box_at (blk_new (w := w) (.cells #[.int .i64 t.1, .bool t.2] 23)) hf1
    have HF1 := Lib.hid (frm_then hF.out hf1)
    clear hf1 HB
    go_wp2_with (go_at_call 31; first | ((with_reducible refine (HK.out _ HF1.out).mono ?_); rintro e w4 ⟨rfl, hf4⟩; have HF4 := Lib.hid (frm_then HF1.out hf4); clear hf4) | ((with_reducible refine (HL.out _ HF1.out).mono ?_); rintro e w4 ⟨rfl, hf4⟩; have HF4 := Lib.hid (frm_then HF1.out hf4); clear hf4))
    all_goals go_ret2
    all_goals first | refine ⟨?_, HF4.out⟩ | refine ⟨?_, HF1.out⟩
    all_goals
      rw [hs.out]
      first | (simp [*]; done) | (have hle : ¬ 1 < t.1 := by omega
                                  simp [*]; done) | (have hle : ¬ t.1 = 1 := by simp_all
                                                     simp [*]; done) | (have hle : t.1 = 1 := by simp_all
                                                                        simp [*]; done) | trace_state
end TmW
end Go.Proofs.YtbbajekecppioaaGreatDoor
/- word.Cast walked. -/
namespace Go.Proofs.YtbbajekecppioaaGreatDoor
open Go.RowKit Go.Mem Go.Wd
namespace TmW
set_option maxRecDepth 100000 in
set_option maxHeartbeats 1000000 in
theorem Cast_calls (w : World) (s t : Ty) (v : Nat) (hv : v < 2 ^ 64) (hT : Tabs w) :
    Calls Tryz.prog 32 #[.agg #[.int .i64 s.1, .bool s.2], .agg #[.int .i64 t.1, .bool t.2], .int .u64 v] w fun e w' => e = .returned (.int .u64 (castF s t v)) ∧ Frm (fun _ => False) w w' := by
  have HR := Lib.hid (fun w1 (hf : Frm (fun _ => False) w w1) => Right_calls w1 s (hT.frm0 hf))
  have HR2 := Lib.hid (fun w1 (hf : Frm (fun _ => False) w w1) => Right_calls w1 t (hT.frm0 hf))
  have HK := Lib.hid (fun w1 (hf : Frm (fun _ => False) w w1) => Norm_calls w1 s v hv (hT.frm0 hf))
  have HI := Lib.hid (fun w1 (hf : Frm (fun _ => False) w w1) => Int_calls w1 s v hv (hT.frm0 hf))
  have HL := Lib.hid (fun w1 (hf : Frm (fun _ => False) w w1) => (wrap_ofI (intF s v)).symm ▸ Norm_calls w1 t (ofI (intF s v)) (ofI_lt _) (hT.frm0 hf))
  have hF := Lib.hid ((frm_alloc w (.cells #[.int .i64 s.1, .bool s.2] 23)).alloc (.cells #[.int .i64 t.1, .bool t.2] 23))
  have HA0 := Lib.hid (blk_alloc (blk_new (w := w) (.cells #[.int .i64 s.1, .bool s.2] 23)) (.cells #[.int .i64 t.1, .bool t.2] 23))
  have HB0 := Lib.hid (show ((w.alloc (.cells #[.int .i64 s.1, .bool s.2] 23)).alloc (.cells #[.int .i64 t.1, .bool t.2] 23)).heap[w.heap.size + 1]? = some (.cells #[.int .i64 t.1, .bool t.2] 23) from blk_new_at _ (by simp))
  clear hT hv
  by_cases hr : rightF s = true
  case neg =>
    have hs : Hid (castF s t v = 0) := Lib.hid (by unfold castF; simp [hr])
    rw [show rightF s = false by simpa using hr] at HR
    clear hr
    go_enter Tryz.func32, Tryz.ntmps32
    go_wp2_with fail
    refine (HR.out _ hF.out).mono ?_
    rintro e w1 ⟨rfl, hf1⟩
    obtain ⟨HB, c0, c1⟩ := box_at (HA0.out) hf1
    obtain ⟨HC, d0, d1⟩ := box_at (HB0.out) hf1
    have HB1 := Lib.hid HB
    have HC1 := Lib.hid HC
    have HF1 := Lib.hid (frm_then hF.out hf1)
    clear hf1 HB HC
    go_wp2
    go_ret
    exact ⟨ret_u64 (by rw [hs.out]; rfl), HF1.out⟩
  case pos =>
  by_cases hr2 : rightF t = true
  case neg =>
    have hs : Hid (castF s t v = 0) := Lib.hid (by unfold castF; simp [hr2])
    rw [show rightF t = false by simpa using hr2] at HR2
    rw [hr] at HR
    clear hr hr2
    go_enter Tryz.func32, Tryz.ntmps32
    go_wp2_with fail
    refine (HR.out _ hF.out).mono ?_
    rintro e w1 ⟨rfl, hf1⟩
    obtain ⟨HB, c0, c1⟩ := box_at (HA0.out) hf1
    obtain ⟨HC, d0, d1⟩ := box_at (HB0.out) hf1
    have HB1 := Lib.hid HB
    have HC1 := Lib.hid HC
    have HF1 := Lib.hid (frm_then hF.out hf1)
    clear hf1 HB HC
    go_wp2_with fail
    refine (HR2.out _ HF1.out).mono ?_
    rintro e w2 ⟨rfl, hf2⟩
    obtain ⟨HB, c2, c3⟩ := box_at (HB1.out) hf2
    obtain ⟨HC, d2, d3⟩ := box_at (HC1.out) hf2
    have HB2 := Lib.hid HB
    have HC2 := Lib.hid HC
    have HF2 := Lib.hid (frm_then HF1.out hf2)
    clear hf2 HB HC
    go_wp2
    go_ret
    exact ⟨ret_u64 (by rw [hs.out]; rfl), HF2.out⟩
  case pos =>
  rw [hr] at HR
  rw [hr2] at HR2
  by_cases h1 : t.1 = 1
  · have hs : Hid (castF s t v = min (normF s v) 1) := Lib.hid (by unfold castF; simp [hr, hr2, h1])
    have hb : (t.1 == 1) = true := by simp [h1]
    have hlt := norm_lt64 s v
    generalize normF s v = n at *
    clear hr hr2 h1
    go_enter Tryz.func32, Tryz.ntmps32
    go_wp2_with fail
    refine (HR.out _ hF.out).mono ?_
    rintro e w1 ⟨rfl, hf1⟩
    obtain ⟨HB, c0, c1⟩ := box_at (HA0.out) hf1
    obtain ⟨HC, d0, d1⟩ := box_at (HB0.out) hf1
    have HB1 := Lib.hid HB
    have HC1 := Lib.hid HC
    have HF1 := Lib.hid (frm_then hF.out hf1)
    clear hf1 HB HC
    go_wp2_with fail
    refine (HR2.out _ HF1.out).mono ?_
    rintro e w2 ⟨rfl, hf2⟩
    obtain ⟨HB, c2, c3⟩ := box_at (HB1.out) hf2
    obtain ⟨HC, d2, d3⟩ := box_at (HC1.out) hf2
    have HB2 := Lib.hid HB
    have HC2 := Lib.hid HC
    have HF2 := Lib.hid (frm_then HF1.out hf2)
    clear hf2 HB HC
    go_wp2_with fail
    refine (HK.out _ HF2.out).mono ?_
    rintro e w3 ⟨rfl, hf3⟩
    have HF3 := Lib.hid (frm_then HF2.out hf3)
    clear hf3
    go_wp2
    all_goals go_ret
    all_goals refine ⟨ret_u64 ?_, HF3.out⟩
    all_goals rw [hs.out]
    all_goals omega
  · have hs : Hid (castF s t v = normF t (ofI (intF s v))) := Lib.hid (by unfold castF; simp [hr, hr2, h1])
    have hb : (t.1 == 1) = false := by simp [h1]
    generalize intF s v = n at *
    clear hr hr2 h1
    go_enter Tryz.func32, Tryz.ntmps32
    go_wp2_with fail
    refine (HR.out _ hF.out).mono ?_
    rintro e w1 ⟨rfl, hf1⟩
    obtain ⟨HB, c0, c1⟩ := box_at (HA0.out) hf1
    obtain ⟨HC, d0, d1⟩ := box_at (HB0.out) hf1
    have HB1 := Lib.hid HB
    have HC1 := Lib.hid HC
    have HF1 := Lib.hid (frm_then hF.out hf1)
    clear hf1 HB HC
    go_wp2_with fail
    refine (HR2.out _ HF1.out).mono ?_
    rintro e w2 ⟨rfl, hf2⟩
    obtain ⟨HB, c2, c3⟩ := box_at (HB1.out) hf2
    obtain ⟨HC, d2, d3⟩ := box_at (HC1.out) hf2
    have HB2 := Lib.hid HB
    have HC2 := Lib.hid HC
    have HF2 := Lib.hid (frm_then HF1.out hf2)
    clear hf2 HB HC
    go_wp2
    refine Plan.wp_region_plan [0, 0, 0, 6, 14, 31, 63] [.mk [0, 1, 2] 3 [0], .mk [4] 5 []] [6] (by kernel_rfl) (by kernel_rfl) ?_
    simp only [Plan.wayOf, Plan.pickAll, List.getElem?_cons_zero, List.getElem?_cons_succ, List.getD_eq_getElem?_getD, Option.getD_some]
    refine Plan.wpWay_seg ?_
    repeat go_big_quiet_step (fail)
    refine wpQuiet_nil ?_; refine Plan.wpWay_act ?_
    go_wp2_with fail
    refine (HI.out _ HF2.out.drew).mono ?_
    rintro e w3 ⟨rfl, hf3⟩
    obtain ⟨HB, c4, c5⟩ := box_at (W := w2.drew) (HB2.out) hf3
    obtain ⟨HC, d4, d5⟩ := box_at (W := w2.drew) (HC2.out) hf3
    have HF3 := Lib.hid (frm_then HF2.out.drew hf3)
    clear hf3 HB HC
    go_wp2_with fail
    refine And.intro ?_ ?_; focus ((iterate 1 (refine Plan.again_cons ?_ ?_; focus (go_big_quiet_step (fail); exact wpQuiet_nil rfl))); exact Plan.again_nil)
    refine Plan.wpWay_seg ?_
    repeat go_big_quiet_step (fail)
    refine wpQuiet_nil ?_; refine Plan.wpWay_act ?_
    go_wp2_with fail
    refine (HL.out _ HF3.out).mono ?_
    rintro e w4 ⟨rfl, hf4⟩
    have HF4 := Lib.hid (frm_then HF3.out hf4)
    clear hf4
    go_wp2_with fail
    refine And.intro Plan.again_nil ?_
    refine Plan.wpWay_last ?_
    repeat go_big_quiet_step (fail)
    refine wpQuiet_nil ?_; refine NoPanic.normal ?_
    go_wp2
    go_ret
    exact ⟨ret_u64 (by rw [hs.out]), HF4.out⟩
end TmW
end Go.Proofs.YtbbajekecppioaaGreatDoor
/- Maps with strings for keys; insertions of a map literal. No program in sight. -/
namespace Go.Mem
open Go.RowKit
theorem bytes_beqd (a b : ByteArray) : (a == b) = decide (a = b) := by
  rw [Bool.eq_iff_iff, decide_eq_true_iff]
  obtain ⟨x⟩ := a
  obtain ⟨y⟩ := b
  constructor
  · intro h
    have e : x = y := by simpa using (show (x == y) = true from h)
    rw [e]
  · intro h
    cases h
    show (x == x) = true
    simp
theorem checkKey_str {P : Program} {t : TypeId} (hu : P.underlying t = some .string) (b : Bool) (n : Nat) (k : ByteArray) (w : World) : (Instr.checkKey b (n + 1) t (.string k)).run P w = .ok () w := by
  rw [Instr.checkKey]
  simp [run_underlying hu]
theorem keyEnc_str {P : Program} {kt : TypeId} (hu : P.underlying kt = some .string) : KeyEnc P kt Value.string :=
  keyEnc_now hu (fun w k b => checkKey_str hu b 9999 k w) (fun a b => by simp [Instr.sameNow]; exact bytes_beqd a b) (fun k => by simp [Instr.sameBits]; rw [bytes_beqd]; simp)
/-- A map literal's entry, at the operation. -/
theorem wpList_insert {P : Program} {w : World} {ops : Array Oper} {rest : List Oper} {o : Oper} {a : Act} {Q : Exit → Act → World → Prop}
    (hg : o.guard = none) (mo x vo : Operand) (t : TypeId) (hop : o.op = Op.insert t mo x vo) {kt et : TypeId} {K V : Type} [DecidableEq K] {enc : K → Value} {ev : V → Value} {r : Nat} {m : List (K × V)} (hk : KeyEnc P kt enc) (hT : P.underlying t = some (.map kt et))
    (k : K) (v : V) (hm : a.eval mo = .map (some r)) (hx : a.eval x = enc k) (hv : a.eval vo = ev v) (h : MapAt w r enc ev m)
    (hK : ∀ w', MapAt w' r enc ev (mput m k v) → w.grownBy w' (some r) → wpList P ops Q rest (a.put o.dst undef) w') : wpList P ops Q (o :: rest) a w := by
  refine wpList_plain hg fun K' hK' => ?_
  obtain ⟨w', hrun, r1, r2⟩ := update_run hk hT h k v
  unfold Oper.wp
  simp [execOp, hop, hm, hx, hv, hrun, Result.andThen]
  exact hK' _ _ (hK w' r1 r2)
end Go.Mem
/- word.ops and its closures walked. -/
namespace Go.Proofs.YtbbajekecppioaaGreatDoor
open Go.RowKit Go.Mem Go.Wd
namespace TmW
def fidOf : Bin → FuncId
  | .and => 100
  | .or => 101
  | .xor => 102
  | .add => 103
  | .sub => 104
  | .mul => 105
  | .shl => 106
  | .shr => 107
  | .quo => 109
  | .rem => 111
def capOf (bx : Nat) : Bin → Array Value
  | .shr => #[.pointer (some ⟨bx, 0, none⟩)]
  | .quo => #[.pointer (some ⟨bx, 0, none⟩)]
  | .rem => #[.pointer (some ⟨bx, 0, none⟩)]
  | _ => #[]
def evB (bx : Nat) (k : Bin) : Value := .func (.func (fidOf k)) #[] (capOf bx k)
theorem keyStr : KeyEnc Tryz.prog 9 Value.string := keyEnc_str Tryz.underlying9
def Box (w : World) (b : Nat) (t : Ty) : Prop := w.heap[b]? = some (.cells #[.int .i64 t.1, .bool t.2] 23)
theorem Box.cells {w : World} {b : Nat} {t : Ty} (h : Box w b t) : w.cell? ⟨b, 0, none⟩ = some (.int .i64 t.1) ∧ w.cell? ⟨b, 1, none⟩ = some (.bool t.2) := ⟨blk_cell h 0, blk_cell h 1⟩
theorem Box.frm {S : Nat → Prop} {w w' : World} {b : Nat} {t : Ty} (h : Box w b t) (hf : Frm S w w') (hS : ¬ S b) : Box w' b t := blk_frm h hf hS
theorem Box.frm0 {w w' : World} {b : Nat} {t : Ty} (h : Box w b t) (hf : Frm (fun _ => False) w w') : Box w' b t := blk_frm h hf id
theorem Box.new (w : World) (t : Ty) : Box (w.alloc (.cells #[.int .i64 t.1, .bool t.2] 23)) w.heap.size t := blk_new _
/-- Behind some writes into the new map. -/
def OpsMid (w : World) (t : Ty) (l : List (ByteArray × Bin)) (w1 : World) : Prop :=
  MapAt w1 (w.heap.size + 1) Value.string (evB w.heap.size) l ∧ Frm (fun _ => False) w w1 ∧ Box w1 w.heap.size t
theorem OpsMid.step {w : World} {t : Ty} {l l' : List (ByteArray × Bin)} {w1 w2 : World} (h : OpsMid w t l w1) (m : MapAt w2 (w.heap.size + 1) Value.string (evB w.heap.size) l') (g : w1.grownBy w2 (some (w.heap.size + 1))) :
    OpsMid w t l' w2 ∧ w2.cell? ⟨w.heap.size, 0, none⟩ = some (.int .i64 t.1) := by
  have hb := h.2.2.frm (Frm.of_grown g) (fun e => by simp at e)
  exact ⟨⟨m, h.2.1.grown g fun k e => .inr (by simp only [Option.some.injEq] at e; omega), hb⟩, hb.cells.1⟩
theorem opsF_put (t : Ty) : mput (mput (mput ([] : List (ByteArray × Bin)) ⟨#[38]⟩ .and) ⟨#[124]⟩ .or) ⟨#[94]⟩ .xor = [(sAnd, .and), (sOr, .or), (sXor, .xor)] := by simp [mput]
set_option maxRecDepth 100000 in
set_option maxHeartbeats 1000000 in
theorem ops_calls (w : World) (t : Ty) :
    Calls Tryz.prog 84 #[.agg #[.int .i64 t.1, .bool t.2]] w fun e w' => ∃ d, e = .returned (.map (some d)) ∧ MapAt w' d Value.string (evB w.heap.size) (opsF t) ∧ Frm (fun _ => False) w w' ∧ Box w' w.heap.size t := by
  have h0 : OpsMid w t [] ((w.alloc (.cells #[.int .i64 t.1, .bool t.2] 23)).alloc (.map #[] 0)) := ⟨by simpa using mapAt_new (w.alloc (.cells #[.int .i64 t.1, .bool t.2] 23)) _ _, (frm_alloc w (.cells #[.int .i64 t.1, .bool t.2] 23)).alloc _, (Box.new w t).frm0 (frm_alloc _ _)⟩
  have m0 := h0.1
  have H0 := Lib.hid h0
  have hmm := @run_makeMap Tryz.prog
  clear h0
  go_enter Tryz.func84, Tryz.ntmps84
  by_cases h1 : t.1 = 1
  · have hb : (t.1 == 1) = true := by simp [h1]
    have hs : Hid (opsF t = [(sAnd, .and), (sOr, .or), (sXor, .xor)]) := Lib.hid (by unfold opsF; rw [if_pos h1])
    clear h1
    go_wp2_with (first | (refine wpList_insert rfl _ _ _ 127 rfl keyStr Tryz.underlying127 ⟨#[38]⟩ Bin.and rfl rfl rfl m0 ?_; intro w1 m1 g1; obtain ⟨h1, c1⟩ := H0.out.step m1 g1; have H1 := Lib.hid h1; clear h1 g1) | (refine wpList_insert rfl _ _ _ 127 rfl keyStr Tryz.underlying127 ⟨#[124]⟩ Bin.or rfl rfl rfl m1 ?_; intro w2 m2 g2; obtain ⟨h2, c2⟩ := H1.out.step m2 g2; have H2 := Lib.hid h2; clear h2 g2) | (refine wpList_insert rfl _ _ _ 127 rfl keyStr Tryz.underlying127 ⟨#[94]⟩ Bin.xor rfl rfl rfl m2 ?_; intro w3 m3 g3; obtain ⟨h3, c3⟩ := H2.out.step m3 g3; have H3 := Lib.hid h3; clear h3 g3))
    go_ret
    exact ⟨_, rfl, by rw [hs.out]; exact m3, H3.out.2.1, H3.out.2.2⟩
  · have hb : (t.1 == 1) = false := by simp [h1]
    have hs : Hid (opsF t = _) := Lib.hid (by unfold opsF; rw [if_neg h1])
    clear h1
    go_wp2_with (first | (refine wpList_insert rfl _ _ _ 127 rfl keyStr Tryz.underlying127 ⟨#[38]⟩ Bin.and rfl rfl rfl m0 ?_; intro w1 m1 g1; obtain ⟨h1, c1⟩ := H0.out.step m1 g1; have H1 := Lib.hid h1; clear h1 g1) | (refine wpList_insert rfl _ _ _ 127 rfl keyStr Tryz.underlying127 ⟨#[124]⟩ Bin.or rfl rfl rfl m1 ?_; intro w2 m2 g2; obtain ⟨h2, c2⟩ := H1.out.step m2 g2; have H2 := Lib.hid h2; clear h2 g2) | (refine wpList_insert rfl _ _ _ 127 rfl keyStr Tryz.underlying127 ⟨#[94]⟩ Bin.xor rfl rfl rfl m2 ?_; intro w3 m3 g3; obtain ⟨h3, c3⟩ := H2.out.step m3 g3; have H3 := Lib.hid h3; clear h3 g3) | (refine wpList_update rfl _ _ _ 127 rfl keyStr Tryz.underlying127 ⟨#[43]⟩ Bin.add rfl rfl rfl m3 ?_; intro w4 m4 g4; obtain ⟨h4, c4⟩ := H3.out.step m4 g4; have H4 := Lib.hid h4; clear h4 g4) | (refine wpList_update rfl _ _ _ 127 rfl keyStr Tryz.underlying127 ⟨#[45]⟩ Bin.sub rfl rfl rfl m4 ?_; intro w5 m5 g5; obtain ⟨h5, c5⟩ := H4.out.step m5 g5; have H5 := Lib.hid h5; clear h5 g5) | (refine wpList_update rfl _ _ _ 127 rfl keyStr Tryz.underlying127 ⟨#[42]⟩ Bin.mul rfl rfl rfl m5 ?_; intro w6 m6 g6; obtain ⟨h6, c6⟩ := H5.out.step m6 g6; have H6 := Lib.hid h6; clear h6 g6) | (refine wpList_update rfl _ _ _ 127 rfl keyStr Tryz.underlying127 ⟨#[60, 60]⟩ Bin.shl rfl rfl rfl m6 ?_; intro w7 m7 g7; obtain ⟨h7, c7⟩ := H6.out.step m7 g7; have H7 := Lib.hid h7; clear h7 g7) | (refine wpList_update rfl _ _ _ 127 rfl keyStr Tryz.underlying127 ⟨#[62, 62]⟩ Bin.shr rfl rfl rfl m7 ?_; intro w8 m8 g8; obtain ⟨h8, c8⟩ := H7.out.step m8 g8; have H8 := Lib.hid h8; clear h8 g8) | (refine wpList_update rfl _ _ _ 127 rfl keyStr Tryz.underlying127 ⟨#[47]⟩ Bin.quo rfl rfl rfl m8 ?_; intro w9 m9 g9; obtain ⟨h9, c9⟩ := H8.out.step m9 g9; have H9 := Lib.hid h9; clear h9 g9) | (refine wpList_update rfl _ _ _ 127 rfl keyStr Tryz.underlying127 ⟨#[37]⟩ Bin.rem rfl rfl rfl m9 ?_; intro w10 m10 g10; obtain ⟨h10, c10⟩ := H9.out.step m10 g10; have H10 := Lib.hid h10; clear h10 g10))
    go_ret
    exact ⟨_, rfl, by rw [hs.out]; exact m10, H10.out.2.1, H10.out.2.2⟩
end TmW
end Go.Proofs.YtbbajekecppioaaGreatDoor
