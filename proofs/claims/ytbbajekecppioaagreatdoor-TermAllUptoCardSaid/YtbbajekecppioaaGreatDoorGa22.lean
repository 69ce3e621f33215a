/- The document's word, walked: Test. -/
import Derived.Test.YtbbajekecppioaaGreatDoorGa21
set_option linter.unusedSimpArgs false
set_option linter.unusedVariables false
namespace Go.Proofs.YtbbajekecppioaaGreatDoor
open Go.RowKit Go.Mem Go.Wd
namespace RfW
open TmW (frm_alloc frm_then Box wrap_nat64 frm_cellD frm_cell negE eqS)
theorem beq_nat (x y : Nat) : ((x : Int) == (y : Int)) = decide (x = y) := by
  rw [Bool.eq_iff_iff]; simp; omega
theorem ret_bi {p q : Bool} {i : Int} (h : p = q) : Ending.returned (.tuple #[.bool p, .int .i64 i]) = .returned (.tuple #[.bool q, .int .i64 i]) := by rw [h]
set_option maxRecDepth 100000 in
set_option maxHeartbeats 1000000 in
theorem test_same {t : Ty} (h : rightF t = true) (w : World) (op : ByteArray) (a b : Nat) (ha : a < 2 ^ 64) (hb : b < 2 ^ 64) (ho : op = sEq ∨ op = sNe) :
    Calls Tryz.prog 25 #[.agg #[.int .i64 t.1, .bool t.2], .string op, .int .u64 a, .int .u64 b] w fun e w' => e = .returned (.tuple #[.bool (decide (normF t a = normF t b) == decide (op = sEq)), .int .i64 0]) ∧ Frm (fun _ => False) w w' := by
  have hF := Lib.hid (frm_alloc w (.cells #[.int .i64 t.1, .bool t.2] 23))
  have HB := Lib.hid (TmW.Box.new w t)
  have ⟨b0, b1⟩ := (TmW.Box.new w t).cells
  have HR := Lib.hid fun w1 => right_at w1 h
  have HN1 := Lib.hid fun w1 => Norm_calls w1 t a ha
  have HN2 := Lib.hid fun w1 => Norm_calls w1 t b hb
  generalize normF t a = x at *
  generalize normF t b = y at *
  have hxy := Lib.hid (beq_nat x y)
  clear h ha hb
  rcases ho with rfl | rfl
  all_goals
    go_enter Tryz.func25, Tryz.ntmps25
    go_wp2_with fail
    refine (HR.out _).mono ?_
    rintro e w1 ⟨rfl, hf⟩
    have HB1 := Lib.hid (TmW.Box.frm0 HB.out hf)
    have ⟨c0, c1⟩ := (TmW.Box.frm0 HB.out hf).cells
    have HF1 := Lib.hid (frm_then hF.out hf)
    clear hf b0 b1
    try simp only at c0 c1
    go_wp2_with fail
    refine Plan.wp_region_plan [0, 0, 3, 0, 0, 31, 63, 127] [.mk [0, 1, 3, 4] 2 [3, 4], .mk [] 5 []] [6, 7] (by kernel_rfl) (by kernel_rfl) ?_
    simp only [Plan.wayOf, Plan.pickAll, List.getElem?_cons_zero, List.getElem?_cons_succ, List.getD_eq_getElem?_getD, Option.getD_some]
    refine Plan.wpWay_seg ?_
    repeat go_big_quiet_step (fail)
    refine wpQuiet_nil ?_; refine Plan.wpWay_act ?_
    go_wp2_with fail
    refine (HN1.out _).mono ?_
    rintro e w2 ⟨rfl, hf⟩
    have HB2 := Lib.hid (TmW.Box.frm0 (w := w1.drew) HB1.out hf)
    have ⟨d0, d1⟩ := (TmW.Box.frm0 (w := w1.drew) HB1.out hf).cells
    have HF2 := Lib.hid (frm_then HF1.out.drew hf)
    clear hf c0 c1
    try simp only at d0 d1
    go_wp2_with fail
    refine And.intro ?_ ?_; focus ((iterate 2 (refine Plan.again_cons ?_ ?_; focus (go_big_quiet_step (fail); exact wpQuiet_nil rfl))); exact Plan.again_nil)
    refine Plan.wpWay_seg ?_
    refine wpQuiet_nil ?_; refine Plan.wpWay_act ?_
    go_wp2_with fail
    refine (HN2.out _).mono ?_
    rintro e w3 ⟨rfl, hf⟩
    have HB3 := Lib.hid (TmW.Box.frm0 HB2.out hf)
    have ⟨c0, c1⟩ := (TmW.Box.frm0 HB2.out hf).cells
    have HF3 := Lib.hid (frm_then HF2.out hf)
    clear hf d0 d1
    try simp only at c0 c1
    go_wp2_with fail
    refine And.intro Plan.again_nil ?_
    refine Plan.wpWay_last ?_
    repeat go_big_quiet_step (fail)
    refine wpQuiet_nil ?_; refine NoPanic.normal ?_
  all_goals go_wp2
  all_goals go_ret2
  · exact ⟨ret_bi (by rw [hxy.out]; simp), HF3.out⟩
  · exact ⟨ret_bi (by rw [hxy.out, show decide (sNe = sEq) = false by decide]; simp), HF3.out⟩
set_option maxRecDepth 100000 in
set_option maxHeartbeats 1000000 in
theorem test_none {t : Ty} (h : rightF t = true) (w : World) (op : ByteArray) (a b : Nat) (ha : a < 2 ^ 64) (hb : b < 2 ^ 64) (n1 : ¬ (op = sEq ∨ op = sNe)) (n2 : t.1 = 1 ∨ (op ≠ sLt ∧ op ≠ sLe ∧ op ≠ sGt ∧ op ≠ sGe)) :
    Calls Tryz.prog 25 #[.agg #[.int .i64 t.1, .bool t.2], .string op, .int .u64 a, .int .u64 b] w fun e w' => e = .returned (.tuple #[.bool false, .int .i64 12]) ∧ Frm (fun _ => False) w w' := by
  have d1 : (op.toList == [61, 61]) = false := by rw [eqS]; simp; exact fun e => n1 (.inl e)
  have d2 : (op.toList == [33, 61]) = false := by rw [eqS]; simp; exact fun e => n1 (.inr e)
  have hF := Lib.hid (frm_alloc w (.cells #[.int .i64 t.1, .bool t.2] 23))
  have HB := Lib.hid (TmW.Box.new w t)
  have ⟨b0, b1⟩ := (TmW.Box.new w t).cells
  have HR := Lib.hid fun w1 => right_at w1 h
  have HN1 := Lib.hid fun w1 => Norm_calls w1 t a ha
  have HN2 := Lib.hid fun w1 => Norm_calls w1 t b hb
  generalize normF t a = x at *
  generalize normF t b = y at *
  clear h ha hb n1
  by_cases hw : t.1 = 1
  · have hw1 : (t.1 == 1) = true := by simp [hw]
    clear n2 hw
    go_enter Tryz.func25, Tryz.ntmps25
    go_wp2_with fail
    refine (HR.out _).mono ?_
    rintro e w1 ⟨rfl, hf⟩
    have HB1 := Lib.hid (TmW.Box.frm0 HB.out hf)
    have ⟨c0, c1⟩ := (TmW.Box.frm0 HB.out hf).cells
    have HF1 := Lib.hid (frm_then hF.out hf)
    clear hf b0 b1
    try simp only at c0 c1
    go_wp2_with fail
    refine Plan.wp_region_plan [0, 0, 3, 0, 0, 31, 63, 127] [.mk [0, 1, 3, 4] 2 [3, 4], .mk [] 5 []] [6, 7] (by kernel_rfl) (by kernel_rfl) ?_
    simp only [Plan.wayOf, Plan.pickAll, List.getElem?_cons_zero, List.getElem?_cons_succ, List.getD_eq_getElem?_getD, Option.getD_some]
    refine Plan.wpWay_seg ?_
    repeat go_big_quiet_step (fail)
    refine wpQuiet_nil ?_; refine Plan.wpWay_act ?_
    go_wp2_with fail
    refine (HN1.out _).mono ?_
    rintro e w2 ⟨rfl, hf⟩
    have HB2 := Lib.hid (TmW.Box.frm0 (w := w1.drew) HB1.out hf)
    have ⟨d0, d1⟩ := (TmW.Box.frm0 (w := w1.drew) HB1.out hf).cells
    have HF2 := Lib.hid (frm_then HF1.out.drew hf)
    clear hf c0 c1
    try simp only at d0 d1
    go_wp2_with fail
    refine And.intro ?_ ?_; focus ((iterate 2 (refine Plan.again_cons ?_ ?_; focus (go_big_quiet_step (fail); exact wpQuiet_nil rfl))); exact Plan.again_nil)
    refine Plan.wpWay_seg ?_
    refine wpQuiet_nil ?_; refine Plan.wpWay_act ?_
    go_wp2_with fail
    refine (HN2.out _).mono ?_
    rintro e w3 ⟨rfl, hf⟩
    have HB3 := Lib.hid (TmW.Box.frm0 HB2.out hf)
    have ⟨c0, c1⟩ := (TmW.Box.frm0 HB2.out hf).cells
    have HF3 := Lib.hid (frm_then HF2.out hf)
    clear hf d0 d1
    try simp only at c0 c1
    go_wp2_with fail
    refine And.intro Plan.again_nil ?_
    refine Plan.wpWay_last ?_
    repeat go_big_quiet_step (fail)
    refine wpQuiet_nil ?_; refine NoPanic.normal ?_
    go_wp2
    go_ret2
    exact ⟨rfl, HF3.out⟩
  · have hw1 : (t.1 == 1) = false := by simp [hw]
    obtain ⟨o1, o2, o3, o4⟩ := n2.resolve_left hw
    have e1 : (op.toList == [60]) = false := by rw [eqS]; simpa using o1
    have e2 : (op.toList == [60, 61]) = false := by rw [eqS]; simpa using o2
    have e3 : (op.toList == [62]) = false := by rw [eqS]; simpa using o3
    have e4 : (op.toList == [62, 61]) = false := by rw [eqS]; simpa using o4
    clear n2 hw o1 o2 o3 o4
    go_enter Tryz.func25, Tryz.ntmps25
    go_wp2_with fail
    refine (HR.out _).mono ?_
    rintro e w1 ⟨rfl, hf⟩
    have HB1 := Lib.hid (TmW.Box.frm0 HB.out hf)
    have ⟨c0, c1⟩ := (TmW.Box.frm0 HB.out hf).cells
    have HF1 := Lib.hid (frm_then hF.out hf)
    clear hf b0 b1
    try simp only at c0 c1
    go_wp2_with fail
    refine Plan.wp_region_plan [0, 0, 3, 0, 0, 31, 63, 127] [.mk [0, 1, 3, 4] 2 [3, 4], .mk [] 5 []] [6, 7] (by kernel_rfl) (by kernel_rfl) ?_
    simp only [Plan.wayOf, Plan.pickAll, List.getElem?_cons_zero, List.getElem?_cons_succ, List.getD_eq_getElem?_getD, Option.getD_some]
    refine Plan.wpWay_seg ?_
    repeat go_big_quiet_step (fail)
    refine wpQuiet_nil ?_; refine Plan.wpWay_act ?_
    go_wp2_with fail
    refine (HN1.out _).mono ?_
    rintro e w2 ⟨rfl, hf⟩
    have HB2 := Lib.hid (TmW.Box.frm0 (w := w1.drew) HB1.out hf)
    have ⟨d0, d1⟩ := (TmW.Box.frm0 (w := w1.drew) HB1.out hf).cells
    have HF2 := Lib.hid (frm_then HF1.out.drew hf)
    clear hf c0 c1
    try simp only at d0 d1
    go_wp2_with fail
    refine And.intro ?_ ?_; focus ((iterate 2 (refine Plan.again_cons ?_ ?_; focus (go_big_quiet_step (fail); exact wpQuiet_nil rfl))); exact Plan.again_nil)
    refine Plan.wpWay_seg ?_
    refine wpQuiet_nil ?_; refine Plan.wpWay_act ?_
    go_wp2_with fail
    refine (HN2.out _).mono ?_
    rintro e w3 ⟨rfl, hf⟩
    have HB3 := Lib.hid (TmW.Box.frm0 HB2.out hf)
    have ⟨c0, c1⟩ := (TmW.Box.frm0 HB2.out hf).cells
    have HF3 := Lib.hid (frm_then HF2.out hf)
    clear hf d0 d1
    try simp only at c0 c1
    go_wp2_with fail
    refine And.intro Plan.again_nil ?_
    refine Plan.wpWay_last ?_
    repeat go_big_quiet_step (fail)
    refine wpQuiet_nil ?_; refine NoPanic.normal ?_
    go_wp2
    go_ret2
    exact ⟨rfl, HF3.out⟩
def lessOut (op : ByteArray) (l s : Bool) : Bool := if op = sLt then l else if op = sLe then l || s else if op = sGt then !l && !s else !l
set_option maxRecDepth 100000 in
set_option maxHeartbeats 4000000 in
theorem test_less {t : Ty} (h : rightF t = true) (h1 : t.1 ≠ 1) (w : World) (op : ByteArray) (a b : Nat) (ha : a < 2 ^ 64) (hb : b < 2 ^ 64) (ho : op = sLt ∨ op = sLe ∨ op = sGt ∨ op = sGe) :
    Calls Tryz.prog 25 #[.agg #[.int .i64 t.1, .bool t.2], .string op, .int .u64 a, .int .u64 b] w fun e w' => e = .returned (.tuple #[.bool (lessOut op (lessB t.2 (wid t) a b (wid t)) (decide (normF t a = normF t b))), .int .i64 0]) ∧ Frm (fun _ => False) w w' := by
  obtain ⟨X, sg⟩ := t
  obtain ⟨n, rfl⟩ : ∃ n : Nat, X = n := ⟨_, wid_int h⟩
  have hF := Lib.hid (frm_alloc w (.cells #[.int .i64 n, .bool sg] 23))
  have HB := Lib.hid (TmW.Box.new w ((n : Int), sg))
  have ⟨b0, b1⟩ := (TmW.Box.new w ((n : Int), sg)).cells
  simp only at b0 b1 h1
  have hl := wid_le h
  have hw := show wid ((n : Int), sg) = n by unfold wid; simp
  rw [hw] at hl ⊢
  obtain ⟨hl1, h64⟩ := hl
  have HR := Lib.hid fun w1 => right_at w1 h
  have HN1 := Lib.hid fun w1 => Norm_calls w1 ((n : Int), sg) a ha
  have HN2 := Lib.hid fun w1 => Norm_calls w1 ((n : Int), sg) b hb
  generalize normF ((n : Int), sg) a = x at *
  generalize normF ((n : Int), sg) b = y at *
  have HA := Lib.hid (Bits_calls (v := a) (n := n) · h64 ha)
  have HBB := Lib.hid (Bits_calls (v := b) (n := n) · h64 hb)
  have hxy := Lib.hid (beq_nat x y)
  have hw1 : ((n : Int) == 1) = false := by simp; exact fun h => h1 (by simp [h])
  clear h ha hb h1 hw
  rcases ho with rfl | rfl | rfl | rfl
  all_goals
    go_enter Tryz.func25, Tryz.ntmps25
    go_wp2_with fail
    refine (HR.out _).mono ?_
    rintro e w1 ⟨rfl, hf⟩
    have HB1 := Lib.hid (TmW.Box.frm0 HB.out hf)
    have ⟨c0, c1⟩ := (TmW.Box.frm0 HB.out hf).cells
    have HF1 := Lib.hid (frm_then hF.out hf)
    clear hf b0 b1
    try simp only at c0 c1
    go_wp2_with fail
    refine Plan.wp_region_plan [0, 0, 3, 0, 0, 31, 63, 127] [.mk [0, 1, 3, 4] 2 [3, 4], .mk [] 5 []] [6, 7] (by kernel_rfl) (by kernel_rfl) ?_
    simp only [Plan.wayOf, Plan.pickAll, List.getElem?_cons_zero, List.getElem?_cons_succ, List.getD_eq_getElem?_getD, Option.getD_some]
    refine Plan.wpWay_seg ?_
    repeat go_big_quiet_step (fail)
    refine wpQuiet_nil ?_; refine Plan.wpWay_act ?_
    go_wp2_with fail
    refine (HN1.out _).mono ?_
    rintro e w2 ⟨rfl, hf⟩
    have HB2 := Lib.hid (TmW.Box.frm0 (w := w1.drew) HB1.out hf)
    have ⟨d0, d1⟩ := (TmW.Box.frm0 (w := w1.drew) HB1.out hf).cells
    have HF2 := Lib.hid (frm_then HF1.out.drew hf)
    clear hf c0 c1
    try simp only at d0 d1
    go_wp2_with fail
    refine And.intro ?_ ?_; focus ((iterate 2 (refine Plan.again_cons ?_ ?_; focus (go_big_quiet_step (fail); exact wpQuiet_nil rfl))); exact Plan.again_nil)
    refine Plan.wpWay_seg ?_
    refine wpQuiet_nil ?_; refine Plan.wpWay_act ?_
    go_wp2_with fail
    refine (HN2.out _).mono ?_
    rintro e w3 ⟨rfl, hf⟩
    have HB3 := Lib.hid (TmW.Box.frm0 HB2.out hf)
    have ⟨c0, c1⟩ := (TmW.Box.frm0 HB2.out hf).cells
    have HF3 := Lib.hid (frm_then HF2.out hf)
    clear hf d0 d1
    try simp only at c0 c1
    go_wp2_with fail
    refine And.intro Plan.again_nil ?_
    refine Plan.wpWay_last ?_
    repeat go_big_quiet_step (fail)
    refine wpQuiet_nil ?_; refine NoPanic.normal ?_
  all_goals
    go_wp2_with fail
    refine Plan.wp_region_plan [0, 0, 2, 7, 0, 0, 32, 127, 255, 511] [.mk [0, 1, 2, 4, 5, 6] 3 [4, 5, 6], .mk [] 7 []] [8, 9] (by kernel_rfl) (by kernel_rfl) ?_
    simp only [Plan.wayOf, Plan.pickAll, List.getElem?_cons_zero, List.getElem?_cons_succ, List.getD_eq_getElem?_getD, Option.getD_some]
    refine Plan.wpWay_seg ?_
    repeat go_big_quiet_step (fail)
    refine wpQuiet_nil ?_; refine Plan.wpWay_act ?_
    go_wp2_with fail
    refine (HA.out _).mono ?_
    rintro e w4 ⟨r, rfl, hrow, hf, ho⟩
    have HB4 := Lib.hid (TmW.Box.frm0 (w := w3.drew) HB3.out hf)
    have ⟨d0, d1⟩ := (TmW.Box.frm0 (w := w3.drew) HB3.out hf).cells
    have HF4 := Lib.hid (frm_then HF3.out.drew hf)
    have HRA := Lib.hid hrow.sees
    clear hf hrow ho c0 c1
    try simp only at d0 d1
    go_wp2_with fail
    refine And.intro ?_ ?_; focus ((iterate 3 (refine Plan.again_cons ?_ ?_; focus (go_big_quiet_step (fail); exact wpQuiet_nil rfl))); exact Plan.again_nil)
    refine Plan.wpWay_seg ?_
    refine wpQuiet_nil ?_; refine Plan.wpWay_act ?_
    go_wp2_with fail
    refine (HBB.out _).mono ?_
    rintro e w5 ⟨r2, rfl, hrow, hf, ho⟩
    have HB5 := Lib.hid (TmW.Box.frm0 HB4.out hf)
    have HF5 := Lib.hid (frm_then HF4.out hf)
    have HRA2 := Lib.hid (HRA.out.frm hf fun _ _ _ => id)
    have HRB := Lib.hid hrow.sees
    clear hf hrow ho d0 d1
    go_wp2_with fail
    refine And.intro Plan.again_nil ?_
    refine Plan.wpWay_last ?_
    repeat go_big_quiet_step (fail)
    refine wpQuiet_nil ?_; refine NoPanic.normal ?_
    obtain ⟨A1, k1, rfl, hA1⟩ := sees_slice HRA2.out
    obtain ⟨A2, k2, rfl, hA2⟩ := sees_slice HRB.out
    rw [bits_len] at HRA2 HRB ⊢
    rw [bits_len]
    have HA1 := Lib.hid hA1
    have HA2 := Lib.hid hA2
    clear hA1 hA2
    go_wp2_with fail
    go_loopw [11, 14] (fun v11 v14 w' => ∃ k : Nat, k ≤ n ∧ v14 = .int .i64 k ∧ v11 = .bool (lessB sg n a b k) ∧ Hid (Frm (fun _ => False) w5 w')) (fun _ v14 _ => n - (intOf v14).toNat)
    case atStart => exact ⟨0, Nat.zero_le _, rfl, rfl, Lib.hid (Frm.refl _ _)⟩
    case round =>
      obtain ⟨k, hk, rfl, rfl, HFr⟩ := hrel
      have ⟨d0, d1⟩ := (TmW.Box.frm0 HB5.out HFr.out).cells
      simp only at d0 d1
      by_cases hlt : k < n
      · obtain ⟨g1, o1, rfl, x0⟩ := HA1.out k _ (bits_get (v := a) hlt)
        obtain ⟨g2, o2, rfl, y0⟩ := HA2.out k _ (bits_get (v := b) hlt)
        have x1 := frm_cell HFr.out x0
        have y1 := frm_cell HFr.out y0
        have hst := Lib.hid (show lessB sg n a b (k + 1) = if a.testBit k != b.testBit k then b.testBit k != (sg && decide (k + 1 = n)) else lessB sg n a b k from rfl)
        have hkn : ((k : Int) == (n : Int) - 1) = decide (k + 1 = n) := by rw [Bool.eq_iff_iff]; simp; omega
        have hki : (k : Int) < (n : Int) := by omega
        clear x0 y0
        obtain ⟨l1, hl1⟩ : ∃ l1, l1 = lessB sg n a b (k + 1) := ⟨_, rfl⟩
        rw [← hl1] at hst
        have Hl1 := Lib.hid hl1
        clear hl1
        generalize lessB sg n a b k = l0 at *
        generalize a.testBit k = p at *
        generalize b.testBit k = q at *
        generalize decide (k + 1 = n) = z at *
        go_wp2_with fail
        go_quiet (fail)
        cases p <;> cases q
        all_goals go_wp2_with fail
        all_goals cases sg
        all_goals try go_quiet (fail)
        all_goals go_wp2_with fail
        all_goals refine ⟨⟨k + 1, by omega, by go_num, by rw [← Hl1.out, hst.out]; cases z <;> rfl, Lib.hid ?_⟩, by simp [intOf]; omega⟩
        all_goals first | exact HFr.out.drewN _ | exact (HFr.out.drewN _).drewN _ | exact HFr.out.drew.drewN _ | exact (HFr.out.drewN _).drew
      · have hke : k = n := by omega
        subst hke
        have hki : ¬ (k : Int) < (k : Int) := by omega
        obtain ⟨L, hL⟩ : ∃ L, L = lessB sg k a b k := ⟨_, rfl⟩
        rw [← hL]
        have HL := Lib.hid hL
        clear hL
        cases L
        all_goals go_wp2
        all_goals go_ret2
        all_goals exact ⟨ret_bi (by rw [← hxy.out, ← HL.out]; rfl), frm_then HF5.out HFr.out⟩
end RfW
end Go.Proofs.YtbbajekecppioaaGreatDoor
