/- The document's word, walked: Right, Bits, Value. -/
import Derived.Test.YtbbajekecppioaaGreatDoorGa17
import Derived.Test.YtbbajekecppioaaGreatDoorGa18
import Derived.Test.YtbbajekecppioaaGreatDoorGa16
import Derived.Maps.AppendAt
set_option linter.unusedSimpArgs false
set_option linter.unusedVariables false
namespace Go.Proofs.YtbbajekecppioaaGreatDoor
open Go.RowKit Go.Mem Go.Wd
namespace RfW
open TmW (frm_alloc frm_then Box wrap_nat64)
theorem sees_slice {α : Type} {w : World} {enc : α → Value} {v : Value} {xs : List α} (hv : Sees w enc v xs) : ∃ A c, v = .slice A xs.length c ∧ ∀ i x, xs[i]? = some x → ∃ g o, A = some ⟨g, o, none⟩ ∧ w.cell? ⟨g, o + i, none⟩ = some (enc x) := by
  rcases hv with ⟨rfl, rfl⟩ | ⟨g, o, c, rfl, _, _, h⟩
  · exact ⟨none, 0, rfl, fun i x h => by simp at h⟩
  · exact ⟨some ⟨g, o, none⟩, c, rfl, fun i x hx => ⟨g, o, rfl, h i x hx⟩⟩
theorem info_bool : (Tryz.prog.info? 4).map (fun i => (i.zero, i.size, i.bytes)) = some (some (.bool false), 1, 1) := by kernel_rfl
abbrev BRow (w : World) (v : Value) (l : List Bool) : Prop := Row w 4 Value.bool v l
theorem bits_get {v n k : Nat} (h : k < n) : (bitsF v n)[k]? = some (v.testBit k) := by simp [bitsF, h]
theorem right_eq (t : Ty) : rightF t = if t.1 = 1 then !t.2 else (decide (t.1 = 8) || (decide (t.1 = 16) || (decide (t.1 = 32) || decide (t.1 = 64)))) := by
  obtain ⟨a, b⟩ := t
  rw [Bool.eq_iff_iff, right_iff]
  by_cases ha : a = 1
  · subst ha; cases b <;> simp
  · simp only [ha, if_false]
    cases b <;> simp [ha]
theorem Right_calls (w : World) (t : Ty) :
    Calls Tryz.prog 15 #[.agg #[.int .i64 t.1, .bool t.2]] w fun e w' => e = .returned (.bool (rightF t)) ∧ Frm (fun _ => False) w w' := by
  obtain ⟨a, b⟩ := t
  have hF := Lib.hid (frm_alloc w (.cells #[.int .i64 a, .bool b] 23))
  have hr := Lib.hid (right_eq (a, b))
  have h0 := Lib.hid (blk_cell (blk_new (w := w) (.cells #[.int .i64 a, .bool b] 23)) 0)
  have h1 := Lib.hid (blk_cell (blk_new (w := w) (.cells #[.int .i64 a, .bool b] 23)) 1)
  go_enter Tryz.func15, Tryz.ntmps15
  go_wp2
  all_goals go_ret
  all_goals refine ⟨?_, frm_alloc _ _⟩
  all_goals rw [right_eq]
  all_goals first | (simp_all; done) | (simp_all; rw [Bool.eq_iff_iff]; simp [*])
set_option maxRecDepth 100000 in
set_option maxHeartbeats 1000000 in
theorem Bits_calls (w : World) (v n : Nat) (hn : n ≤ 64) (hv : v < 2 ^ 64) :
    Calls Tryz.prog 49 #[.int .u64 v, .int .i64 n] w fun e w' => ∃ r, e = .returned r ∧ BRow w' r (bitsF v n) ∧ Frm (fun _ => False) w w' ∧ ∀ g, r.ownBlock = some g → w.heap.size ≤ g := by
  obtain ⟨i0, hi, hz0, hz1, hz2⟩ := info_parts info_bool
  go_enter Tryz.func49, Tryz.ntmps49
  go_wp2
  go_loopw [0, 5, 6] (fun v0 v5 v6 w' => ∃ k : Nat, k ≤ n ∧ v6 = .int .i64 k ∧ v0 = .int .u64 ((v / 2 ^ k : Nat) : Int) ∧ Hid (BRow w' v5 ((bitsF v n).take k)) ∧ Hid (Frm (fun _ => False) w w') ∧ ∀ g, v5.ownBlock = some g → w.heap.size ≤ g) (fun _ _ v6 _ => n - (intOf v6).toNat)
  case atStart => exact ⟨0, Nat.zero_le _, rfl, by simp, Lib.hid ⟨by simp, .inr ⟨w.heap.size, 0, _, rfl, Nat.zero_le _, blk_new _, by simp⟩⟩, Lib.hid ((Frm.refl _ _).alloc _), fun g hg => by cases hg; exact Nat.le_refl _⟩
  case round =>
    obtain ⟨k, hk, rfl, rfl, HR, HF, hown⟩ := hrel
    by_cases hlt : k < n
    · have hb : (((v / 2 ^ k : Nat) : Int) % 2 == 1) = v.testBit k := by
        rw [Nat.testBit_eq_decide_div_mod_eq]
        generalize v / 2 ^ k = x
        rw [Bool.eq_iff_iff]; simp; omega
      have htk : (bitsF v n).take (k + 1) = (bitsF v n).take k ++ [v.testBit k] := by rw [List.take_add_one, bits_get hlt]; rfl
      have hl : ((bitsF v n).take k).length = k := by rw [List.length_take, bits_len]; omega
      have hq : ((v / 2 ^ k : Nat) : Int) / 2 = ((v / 2 ^ (k + 1) : Nat) : Int) := by rw [Nat.pow_succ, ← Nat.div_div_eq_div_mul]; omega
      have hx : v / 2 ^ k < 2 ^ 64 := Nat.lt_of_le_of_lt (Nat.div_le_self _ _) hv
      have Hb := Lib.hid hb
      have Ht := Lib.hid htk
      have Ho := Lib.hid hown
      have Hl := Lib.hid hl
      obtain ⟨y, hy⟩ : ∃ y, y = v / 2 ^ (k + 1) := ⟨_, rfl⟩
      rw [← hy] at hq
      have Hq := Lib.hid hq
      have Hy := Lib.hid hy
      clear hb htk hown hl hq hy
      generalize v / 2 ^ k = x at *
      go_wp2_with (first | (at_builtin; refine wpList_append_row rfl _ _ 95 rfl 4 i0 (.bool false) 1 Tryz.underlying95 hi hz0 hz1 hz2 rfl (enc := Value.bool) u5 ((bitsF v n).take k) rfl (HR.out.frm0 ((Frm.refl _ _).alloc _)) ⟨wr.heap.size, 0, none⟩ 1 (v.testBit k) rfl ?c1 rfl ?c2 ?c3 ?_) | go_in)
      case c1 => rw [← Hb.out]; exact blk_cell (blk_new _) 0
      case c2 => rw [Hl.out]; have : maxLen = 9223372036854775807 := rfl; omega
      case c3 => rw [Hl.out]; omega
      intro g cap w7 hrow hfr hg hlt7
      have HR' := Lib.hid hrow
      have HF' := Lib.hid ((frm_then HF.out (frm_alloc _ _)).trans hfr fun x hx h => by have := Ho.out x h; omega)
      have Hg := Lib.hid (show w.heap.size ≤ g by rcases hg with h | h; exact Ho.out g h; rw [h]; have := HF.out.size; simp; omega)
      clear hrow hfr hg
      go_wp2
      go_roundw
      case rel => exact ⟨k + 1, by omega, by go_num, by rw [Hq.out, Hy.out], Lib.hid (by rw [Ht.out]; exact HR'.out), HF', fun g' hg' => by cases hg'; exact Hg.out⟩
      case measure => simp [intOf]; omega
    · have hke : (bitsF v n).take k = bitsF v n := List.take_of_length_le (by rw [bits_len]; omega)
      have HE := Lib.hid hke
      have Ho := Lib.hid hown
      clear hke hown
      go_wp2
      go_ret
      exact ⟨_, rfl, by rw [← HE.out]; exact HR.out, HF.out, Ho.out⟩
set_option maxRecDepth 100000 in
set_option maxHeartbeats 1000000 in
theorem Value_calls (w : World) (lv : Value) (l : List Bool) (hl : Sees w Value.bool lv l) (h64 : l.length ≤ 64) :
    Calls Tryz.prog 67 #[lv] w fun e w' => e = .returned (.int .u64 (valF l : Nat)) ∧ Frm (fun _ => False) w w' := by
  obtain ⟨A, c, rfl, hc⟩ := sees_slice hl
  have Hc := Lib.hid hc
  clear hc hl
  go_enter Tryz.func67, Tryz.ntmps67
  go_wp2
  go_loop [3, 4] (fun v3 v4 => ∃ k : Nat, k ≤ l.length ∧ v4 = .int .i64 ((k : Int) - 1) ∧ v3 = .int .u64 (valF (l.drop k) : Nat)) (fun _ v4 => (intOf v4 + 1).toNat)
  case atStart => exact ⟨l.length, Nat.le_refl _, by go_num, by rw [List.drop_length]; rfl⟩
  case round =>
    obtain ⟨k, hk, rfl, rfl⟩ := hrel
    cases k with
    | succ k =>
      have hx : l[k]? = some l[k] := List.getElem?_eq_getElem (by omega)
      obtain ⟨g, o, rfl, hcell⟩ := Hc.out k _ hx
      have hst : valF (l.drop k) = 2 * valF (l.drop (k + 1)) + (l[k]).toNat := by
        rw [List.drop_eq_getElem_cons (by omega)]; rfl
      have hlt : valF (l.drop k) < 2 ^ 64 := Nat.lt_of_lt_of_le (val_lt _) (Nat.pow_le_pow_right (by decide) (by rw [List.length_drop]; omega))
      have Hst := Lib.hid hst
      clear hst hx
      generalize l[k] = x at *
      obtain ⟨y, hy⟩ : ∃ y, y = valF (l.drop k) := ⟨_, rfl⟩
      have Hy := Lib.hid hy
      rw [← hy] at hlt Hst
      clear hy
      generalize valF (l.drop (k + 1)) = z at *
      cases x
      · go_wp2
        go_round
        case rel =>
          have e2 : y = 2 * z := Hst.out
          have hz : 2 * z < 18446744073709551616 := by omega
          exact ⟨k, by omega, by go_num, by rw [← Hy.out, e2, ← wrap_nat64 _ hz]; rfl⟩
        case measure => simp [intOf]
      · go_wp2
        go_round
        case rel =>
          have e2 : y = 2 * z + 1 := Hst.out
          have hz : 2 * z + 1 < 18446744073709551616 := by omega
          exact ⟨k, by omega, by go_num, (by rw [← Hy.out, e2, show (2 * (z : Int)) = ((2 * z : Nat) : Int) by push_cast; rfl, wrap_nat64 (2 * z) (by omega), show ((2 * z : Nat) : Int) + 1 = ((2 * z + 1 : Nat) : Int) by push_cast; rfl, wrap_nat64 _ hz])⟩
        case measure => simp [intOf]
    | zero =>
      go_wp2
      go_ret
      exact ⟨rfl, Frm.refl _ _⟩
end RfW
end Go.Proofs.YtbbajekecppioaaGreatDoor
/- The document's word, walked: Norm, Neg, wide, size. -/
namespace Go.Proofs.YtbbajekecppioaaGreatDoor
open Go.RowKit Go.Mem Go.Wd
namespace RfW
open TmW (frm_alloc frm_then Box wrap_nat64 frm_cellD frm_cell)
theorem wid_int {t : Ty} (h : rightF t = true) : t.1 = (wid t : Int) := by
 rcases right_iff.1 h with rfl | rfl | rfl | rfl | rfl | rfl | rfl | rfl | rfl <;> rfl
theorem BitsT_calls {t : Ty} (h : rightF t = true) (w : World) (v : Nat) (hv : v < 2 ^ 64) :
  Calls Tryz.prog 49 #[.int .u64 v, .int .i64 t.1] w fun e w' => ∃ r, e = .returned r ∧ BRow w' r (bitsF v (wid t)) ∧ Frm (fun _ => False) w w' ∧ ∀ g, r.ownBlock = some g → w.heap.size ≤ g := by
 rw [wid_int h]
 exact Bits_calls w v (wid t) (wid_le h).2 hv
/-- A type in a box, read. -/
theorem box_cells {w : World} {b : Nat} {t : Ty} (h : Box w b t) : w.cell? ⟨b, 0, none⟩ = some (.int .i64 t.1) ∧ w.cell? ⟨b, 1, none⟩ = some (.bool t.2) := TmW.Box.cells h
theorem Norm_calls (w : World) (t : Ty) (v : Nat) (hv : v < 2 ^ 64) :
  Calls Tryz.prog 34 #[.agg #[.int .i64 t.1, .bool t.2], .int .u64 v] w fun e w' => e = .returned (.int .u64 (normF t v)) ∧ Frm (fun _ => False) w w' := by
 have hF := Lib.hid (frm_alloc w (.cells #[.int .i64 t.1, .bool t.2] 23))
 have HB := Lib.hid (TmW.Box.new w t)
 have ⟨b0, b1⟩ := (TmW.Box.new w t).cells
 have HV := Lib.hid hv
 clear hv
 by_cases hr : rightF t = true
 ·have hn : (!rightF t) = false := by rw [hr]; rfl
  have HR := Lib.hid hr
  clear hr
  go_enter Tryz.func34, Tryz.ntmps34
  go_wp2_with (first | (go_at_call 15; refine (Right_calls _ t).mono ?_; rintro e w1 ⟨rfl, hf1⟩; have c0 := (TmW.Box.frm0 HB.out hf1).cells.1; have HF := Lib.hid (frm_then hF.out hf1); clear hf1) | (go_at_call 49; refine (BitsT_calls HR.out _ v HV.out).mono ?_; rintro e w2 ⟨r, rfl, hrow, hf2, _⟩; have HF2 := Lib.hid (frm_then HF.out hf2); have HRow := Lib.hid hrow; clear hf2 hrow) | (go_at_call 67; refine (Value_calls _ r _ HRow.out.sees (by rw [bits_len]; exact (wid_le HR.out).2)).mono ?_; rintro e w3 ⟨rfl, hf3⟩; have HF3 := Lib.hid (frm_then HF2.out hf3); clear hf3))
  go_ret
  exact ⟨by rw [val_bits]; unfold normF; rw [if_pos HR.out]; rfl, HF3.out⟩
 ·have hn : (!rightF t) = true := by simp [hr]
  have HR := Lib.hid hr
  clear hr
  go_enter Tryz.func34, Tryz.ntmps34
  go_wp2_with (go_at_call 15; refine (Right_calls _ t).mono ?_; rintro e w1 ⟨rfl, hf1⟩; have HF := Lib.hid (frm_then hF.out hf1); clear hf1)
  go_ret
  exact ⟨by unfold normF; rw [if_neg HR.out]; rfl, HF.out⟩
theorem Neg_calls {t : Ty} (h : rightF t = true) (w : World) (v : Nat) (hv : v < 2 ^ 64) :
  Calls Tryz.prog 78 #[.agg #[.int .i64 t.1, .bool t.2], .int .u64 v] w fun e w' => e = .returned (.bool (negR t v)) ∧ Frm (fun _ => False) w w' := by
 obtain ⟨a, sg⟩ := t
 obtain ⟨n, rfl⟩ : ∃ n : Nat, a = n := ⟨_, wid_int h⟩
 have hF := Lib.hid (frm_alloc w (.cells #[.int .i64 n, .bool sg] 23))
 have ⟨b0, b1⟩ := (TmW.Box.new w ((n : Int), sg)).cells
 simp only at b0 b1
 have HV := Lib.hid hv
 have HR := Lib.hid h
 clear hv h
 cases sg with
 | false =>
  have hneg := Lib.hid (show negR ((n : Int), false) v = false from rfl)
  go_enter Tryz.func78, Tryz.ntmps78
  go_wp2_with fail
  refine Plan.wp_region_plan [0, 1, 3, 7, 7, 23, 63, 7, 135, 391, 1023, 2047, 4095, 8191] [.mk [0, 1, 2, 3, 4, 5, 7, 8, 9] 6 [7, 8, 9]] [10, 11, 12, 13] (by kernel_rfl) (by kernel_rfl) ?_
  simp only [Plan.wayOf, Plan.pickAll, List.getElem?_cons_zero, List.getElem?_cons_succ, List.getD_eq_getElem?_getD, Option.getD_some]
  refine Plan.wpWay_seg ?_
  repeat go_big_quiet_step (fail)
  refine wpQuiet_nil ?_; refine Plan.wpWay_act ?_
  go_wp2_with (fail)
  refine And.intro ?_ ?_; focus ((iterate 3 (refine Plan.again_cons ?_ ?_; focus (go_big_quiet_step (fail); exact wpQuiet_nil rfl))); exact Plan.again_nil)
  refine Plan.wpWay_last ?_
  repeat go_big_quiet_step (fail)
  refine wpQuiet_nil ?_; refine NoPanic.normal ?_
  go_wp2
  go_ret
  exact ⟨by rw [hneg.out]; rfl, hF.out.drew⟩
 | true =>
  have hl := wid_le HR.out
  have hwn : wid ((n : Int), true) = n := by unfold wid; simp
  rw [hwn] at hl
  obtain ⟨h1, h64⟩ := hl
  have Hget := Lib.hid (bits_get (v := v) (n := n) (k := n - 1) (by omega))
  have hneg := Lib.hid (show negR ((n : Int), true) v = v.testBit (n - 1) by unfold negR hiF; rw [hwn]; rfl)
  have hb := Lib.hid (Bits_calls (v := v) (n := n) · h64 HV.out)
  have hbl := bits_len v n
  clear hwn
  go_enter Tryz.func78, Tryz.ntmps78
  go_wp2_with fail
  refine Plan.wp_region_plan [0, 1, 3, 7, 7, 23, 63, 7, 135, 391, 1023, 2047, 4095, 8191] [.mk [0, 1, 2, 3, 4, 5, 7, 8, 9] 6 [7, 8, 9]] [10, 11, 12, 13] (by kernel_rfl) (by kernel_rfl) ?_
  simp only [Plan.wayOf, Plan.pickAll, List.getElem?_cons_zero, List.getElem?_cons_succ, List.getD_eq_getElem?_getD, Option.getD_some]
  refine Plan.wpWay_seg ?_
  repeat go_big_quiet_step (fail)
  refine wpQuiet_nil ?_; refine Plan.wpWay_act ?_
  go_wp2_with fail
  refine (hb.out _).mono ?_
  rintro e w2 ⟨r, rfl, hrow, hf2, _⟩
  have c0 := frm_cellD hf2 b0
  have c1 := frm_cellD hf2 b1
  have HF2 := Lib.hid (frm_then hF.out.drew hf2)
  obtain ⟨A, c, rfl, hcell⟩ := sees_slice hrow.sees
  obtain ⟨g, o, rfl, hcc⟩ := hcell _ _ Hget.out
  clear hf2 hrow hcell
  go_wp2_with fail
  refine And.intro ?_ ?_; focus ((iterate 3 (refine Plan.again_cons ?_ ?_; focus (go_big_quiet_step (fail); exact wpQuiet_nil rfl))); exact Plan.again_nil)
  refine Plan.wpWay_last ?_
  repeat go_big_quiet_step (fail)
  refine wpQuiet_nil ?_; refine NoPanic.normal ?_
  go_wp2
  go_ret
  exact ⟨by rw [hneg.out]; rfl, HF2.out⟩
theorem wide_get {t : Ty} {v n k : Nat} (hw : wid t = n) (h1 : n ≤ k) (h2 : k < 64) : (wideF t v)[k]? = some (negR t v) := by
 unfold wideF
 rw [hw, List.getElem?_append_right (by rw [bits_len]; exact h1), bits_len, List.getElem?_replicate, if_pos (by omega)]
theorem wide_take {t : Ty} {v n : Nat} (hw : wid t = n) : (wideF t v).take n = bitsF v n := by
 unfold wideF
 rw [hw, List.take_left' (bits_len _ _)]
set_option maxRecDepth 100000 in
set_option maxHeartbeats 1000000 in
theorem wide_calls {t : Ty} (h : rightF t = true) (w : World) (v : Nat) (hv : v < 2 ^ 64) :
  Calls Tryz.prog 68 #[.agg #[.int .i64 t.1, .bool t.2], .int .u64 v] w fun e w' => ∃ r, e = .returned r ∧ BRow w' r (wideF t v) ∧ Frm (fun _ => False) w w' ∧ ∀ g, r.ownBlock = some g → w.heap.size ≤ g := by
 obtain ⟨a, sg⟩ := t
 obtain ⟨n, rfl⟩ : ∃ n : Nat, a = n := ⟨_, wid_int h⟩
 have hF := Lib.hid (frm_alloc w (.cells #[.int .i64 n, .bool sg] 23))
 have ⟨b0, b1⟩ := (TmW.Box.new w ((n : Int), sg)).cells
 simp only at b0 b1
 have HV := Lib.hid hv
 have HR := Lib.hid h
 obtain ⟨i0, hi, hz0, hz1, hz2⟩ := info_parts info_bool
 clear hv h
 cases sg with
 | false =>
  have hl := wid_le HR.out
  have hw := show wid ((n : Int), false) = n by unfold wid; simp
  rw [hw] at hl
  obtain ⟨h1, h64⟩ := hl
  have hwn := Lib.hid hw
  have Hget := Lib.hid (bits_get (v := v) (n := n) (k := n - 1) (by omega))
  have hneg := Lib.hid (show negR ((n : Int), false) v = false by unfold negR hiF; rw [hw]; rfl)
  have hb := Lib.hid (Bits_calls (v := v) (n := n) · h64 HV.out)
  have hbl := bits_len v n
  have Hlen := Lib.hid (wide_len HR.out v)
  clear hw
  go_enter Tryz.func68, Tryz.ntmps68
  go_wp2_with (first | (go_at_call 49; refine (hb.out _).mono ?_; rintro e w2 ⟨r, rfl, hrow, hf2, ho2⟩; have c0 := frm_cell hf2 b0; have c1 := frm_cell hf2 b1; have HF2 := Lib.hid (frm_then hF.out hf2); have HO := Lib.hid (fun g hg => Nat.le_trans hF.out.size (ho2 g hg)); obtain ⟨A, c, rfl, hcell⟩ := sees_slice hrow.sees; obtain ⟨g, o, rfl, hcc⟩ := hcell _ _ Hget.out; have HRow := Lib.hid hrow; rw [hbl] at HRow HO; clear hf2 hrow hcell ho2))
  go_loopw [5] (fun v5 w' => ∃ k : Nat, n ≤ k ∧ k ≤ 64 ∧ Hid (BRow w' v5 ((wideF (n, false) v).take k)) ∧ Hid (Frm (fun _ => False) w w') ∧ ∀ g, v5.ownBlock = some g → w.heap.size ≤ g) (fun v5 _ => 64 - (match v5 with | .slice _ l _ => l | _ => 0))
  case atStart => exact ⟨n, Nat.le_refl _, h64, Lib.hid (by rw [wide_take hwn.out]; exact HRow.out), HF2, HO.out⟩
  case round =>
   obtain ⟨k, hk, hk64, HR5, HF5, hown⟩ := hrel
   have hl : ((wideF ((n : Int), false) v).take k).length = k := by rw [List.length_take, Hlen.out]; omega
   have HO5 := Lib.hid hown
   obtain ⟨A, c, hv5, _⟩ := sees_slice HR5.out.sees
   rw [hl] at hv5
   subst hv5
   have Hl := Lib.hid hl
   clear hown hl
   by_cases hlt : k < 64
   ·have htk := Lib.hid (show (wideF ((n : Int), false) v).take (k + 1) = (wideF ((n : Int), false) v).take k ++ [false] by rw [List.take_add_one, wide_get hwn.out hk hlt, hneg.out]; rfl)
    go_wp2_with (first | (at_builtin; refine wpList_append_row rfl _ _ 95 rfl 4 i0 (.bool false) 1 Tryz.underlying95 hi hz0 hz1 hz2 rfl (enc := Value.bool) (.slice A k c) ((wideF ((n : Int), false) v).take k) rfl (HR5.out.frm0 ((Frm.refl _ _).alloc _)) ⟨wr.heap.size, 0, none⟩ 1 (false) rfl ?c1 rfl ?c2 ?c3 ?_) | go_in)
    case c1 => exact blk_cell (blk_new _) 0
    case c2 => rw [Hl.out]; have : maxLen = 9223372036854775807 := rfl; omega
    case c3 => rw [Hl.out]; omega
    intro g cap w7 hrow hfr hg hlt7
    have HR' := Lib.hid hrow
    have HF' := Lib.hid ((frm_then HF5.out (frm_alloc _ _)).trans hfr fun x hx h => by have := HO5.out x h; omega)
    have Hg := Lib.hid (show w.heap.size ≤ g by rcases hg with h | h; exact HO5.out g h; rw [h]; have := HF5.out.size; simp; omega)
    clear hrow hfr hg
    go_wp2
    go_roundw
    case rel => exact ⟨k + 1, by omega, by omega, Lib.hid (by rw [htk.out]; exact HR'.out), HF', fun g' hg' => by cases hg'; exact Hg.out⟩
    case measure => have hL := Hlen.out; simp [hL]; omega
   ·have HE := Lib.hid (show (wideF ((n : Int), false) v).take k = wideF ((n : Int), false) v from List.take_of_length_le (by rw [Hlen.out]; omega))
    go_wp2
    go_ret
    exact ⟨_, rfl, by rw [← HE.out]; exact HR5.out, HF5.out, HO5.out⟩
 | true =>
  have hl := wid_le HR.out
  have hw := show wid ((n : Int), true) = n by unfold wid; simp
  rw [hw] at hl
  obtain ⟨h1, h64⟩ := hl
  have hwn := Lib.hid hw
  have Hget := Lib.hid (bits_get (v := v) (n := n) (k := n - 1) (by omega))
  have hneg := Lib.hid (show negR ((n : Int), true) v = v.testBit (n - 1) by unfold negR hiF; rw [hw]; rfl)
  have hb := Lib.hid (Bits_calls (v := v) (n := n) · h64 HV.out)
  have hbl := bits_len v n
  have Hlen := Lib.hid (wide_len HR.out v)
  clear hw
  go_enter Tryz.func68, Tryz.ntmps68
  go_wp2_with (first | (go_at_call 49; refine (hb.out _).mono ?_; rintro e w2 ⟨r, rfl, hrow, hf2, ho2⟩; have c0 := frm_cell hf2 b0; have c1 := frm_cell hf2 b1; have HF2 := Lib.hid (frm_then hF.out hf2); have HO := Lib.hid (fun g hg => Nat.le_trans hF.out.size (ho2 g hg)); obtain ⟨A, c, rfl, hcell⟩ := sees_slice hrow.sees; obtain ⟨g, o, rfl, hcc⟩ := hcell _ _ Hget.out; have HRow := Lib.hid hrow; rw [hbl] at HRow HO; clear hf2 hrow hcell ho2))
  go_loopw [5] (fun v5 w' => ∃ k : Nat, n ≤ k ∧ k ≤ 64 ∧ Hid (BRow w' v5 ((wideF (n, true) v).take k)) ∧ Hid (Frm (fun _ => False) w w') ∧ ∀ g, v5.ownBlock = some g → w.heap.size ≤ g) (fun v5 _ => 64 - (match v5 with | .slice _ l _ => l | _ => 0))
  case atStart => exact ⟨n, Nat.le_refl _, h64, Lib.hid (by rw [wide_take hwn.out]; exact HRow.out), HF2, HO.out⟩
  case round =>
   obtain ⟨k, hk, hk64, HR5, HF5, hown⟩ := hrel
   have hl : ((wideF ((n : Int), true) v).take k).length = k := by rw [List.length_take, Hlen.out]; omega
   have HO5 := Lib.hid hown
   obtain ⟨A, c, hv5, _⟩ := sees_slice HR5.out.sees
   rw [hl] at hv5
   subst hv5
   have Hl := Lib.hid hl
   clear hown hl
   by_cases hlt : k < 64
   ·have htk := Lib.hid (show (wideF ((n : Int), true) v).take (k + 1) = (wideF ((n : Int), true) v).take k ++ [v.testBit (n - 1)] by rw [List.take_add_one, wide_get hwn.out hk hlt, hneg.out]; rfl)
    go_wp2_with (first | (at_builtin; refine wpList_append_row rfl _ _ 95 rfl 4 i0 (.bool false) 1 Tryz.underlying95 hi hz0 hz1 hz2 rfl (enc := Value.bool) (.slice A k c) ((wideF ((n : Int), true) v).take k) rfl (HR5.out.frm0 ((Frm.refl _ _).alloc _)) ⟨wr.heap.size, 0, none⟩ 1 (v.testBit (n - 1)) rfl ?c1 rfl ?c2 ?c3 ?_) | go_in)
    case c1 => exact blk_cell (blk_new _) 0
    case c2 => rw [Hl.out]; have : maxLen = 9223372036854775807 := rfl; omega
    case c3 => rw [Hl.out]; omega
    intro g cap w7 hrow hfr hg hlt7
    have HR' := Lib.hid hrow
    have HF' := Lib.hid ((frm_then HF5.out (frm_alloc _ _)).trans hfr fun x hx h => by have := HO5.out x h; omega)
    have Hg := Lib.hid (show w.heap.size ≤ g by rcases hg with h | h; exact HO5.out g h; rw [h]; have := HF5.out.size; simp; omega)
    clear hrow hfr hg
    go_wp2
    go_roundw
    case rel => exact ⟨k + 1, by omega, by omega, Lib.hid (by rw [htk.out]; exact HR'.out), HF', fun g' hg' => by cases hg'; exact Hg.out⟩
    case measure => have hL := Hlen.out; simp [hL]; omega
   ·have HE := Lib.hid (show (wideF ((n : Int), true) v).take k = wideF ((n : Int), true) v from List.take_of_length_le (by rw [Hlen.out]; omega))
    go_wp2
    go_ret
    exact ⟨_, rfl, by rw [← HE.out]; exact HR5.out, HF5.out, HO5.out⟩
end RfW
end Go.Proofs.YtbbajekecppioaaGreatDoor
/- The document's word, walked: size, divide. -/
namespace Go.Proofs.YtbbajekecppioaaGreatDoor
open Go.RowKit Go.Mem Go.Wd
namespace RfW
open TmW (frm_alloc frm_then Box wrap_nat64 frm_cellD frm_cell negE)
theorem wide_sum_lt {t : Ty} (h : rightF t = true) (v : Nat) : valF (wideF t v) < 2 ^ 64 := by
 have := val_lt (wideF t v)
 rw [wide_len h] at this
 exact this
set_option maxHeartbeats 1000000 in
theorem size_calls {t : Ty} (h : rightF t = true) (w : World) (v : Nat) (hv : v < 2 ^ 64) :
  Calls Tryz.prog 77 #[.agg #[.int .i64 t.1, .bool t.2], .int .u64 v] w fun e w' => e = .returned (.int .u64 (sizeR t v : Nat)) ∧ Frm (fun _ => False) w w' := by
 have hF := Lib.hid (frm_alloc w (.cells #[.int .i64 t.1, .bool t.2] 23))
 have HB := Lib.hid (TmW.Box.new w t)
 have ⟨b0, b1⟩ := (TmW.Box.new w t).cells
 have HV := Lib.hid hv
 have HR := Lib.hid h
 have hlt := Lib.hid (wide_sum_lt h v)
 have hlen := Lib.hid (Nat.le_of_eq (wide_len h v))
 clear hv h
 cases hn : negR t v with
 | true =>
  have hs := Lib.hid (show sizeR t v = (2 ^ 64 - valF (wideF t v)) % 2 ^ 64 by unfold sizeR; rw [hn]; rfl)
  go_enter Tryz.func77, Tryz.ntmps77
  go_wp2_with (first | (go_at_call 78; refine (Neg_calls HR.out _ v HV.out).mono ?_; rintro e w1 ⟨rfl, hf1⟩; have HB1 := TmW.Box.frm0 HB.out hf1; have c0 := HB1.cells.1; have c1 := HB1.cells.2; have HF := Lib.hid (frm_then hF.out hf1); clear hf1 HB1) | (go_at_call 68; refine (wide_calls HR.out _ v HV.out).mono ?_; rintro e w2 ⟨r, rfl, hrow, hf2, _⟩; have HF2 := Lib.hid (frm_then HF.out hf2); have HRow := Lib.hid hrow; clear hf2 hrow) | (go_at_call 67; refine (Value_calls _ r _ HRow.out.sees hlen.out).mono ?_; rintro e w3 ⟨rfl, hf3⟩; have HF3 := Lib.hid (frm_then HF2.out hf3); clear hf3))
  go_ret
  exact ⟨by rw [hs.out]; show Ending.returned (Value.int .u64 _) = _; rw [negE _ hlt.out], HF3.out⟩
 | false =>
  have hs := Lib.hid (show sizeR t v = valF (wideF t v) by unfold sizeR; rw [hn]; rfl)
  go_enter Tryz.func77, Tryz.ntmps77
  go_wp2_with (first | (go_at_call 78; refine (Neg_calls HR.out _ v HV.out).mono ?_; rintro e w1 ⟨rfl, hf1⟩; have HB1 := TmW.Box.frm0 HB.out hf1; have c0 := HB1.cells.1; have c1 := HB1.cells.2; have HF := Lib.hid (frm_then hF.out hf1); clear hf1 HB1) | (go_at_call 68; refine (wide_calls HR.out _ v HV.out).mono ?_; rintro e w2 ⟨r, rfl, hrow, hf2, _⟩; have HF2 := Lib.hid (frm_then HF.out hf2); have HRow := Lib.hid hrow; clear hf2 hrow) | (go_at_call 67; refine (Value_calls _ r _ HRow.out.sees hlen.out).mono ?_; rintro e w3 ⟨rfl, hf3⟩; have HF3 := Lib.hid (frm_then HF2.out hf3); clear hf3))
  go_ret
  exact ⟨by rw [hs.out]; rfl, HF3.out⟩
theorem size_ne {t : Ty} (h : rightF t = true) {b : Nat} (hb : b < 2 ^ wid t) (h0 : b ≠ 0) : sizeR t b ≠ 0 := by
 rw [size_eq h]
 intro hz
 have h1 : sv t b = 0 := Int.natAbs_eq_zero.1 hz
 have h2 := sv_mod t b
 rw [h1, Nat.mod_eq_of_lt hb] at h2
 simp at h2
 omega
theorem size_lt {t : Ty} (h : rightF t = true) (v : Nat) : sizeR t v < 2 ^ 64 := by
 unfold sizeR
 split
 ·exact Nat.mod_lt _ (Nat.two_pow_pos _)
 ·exact wide_sum_lt h v
set_option maxRecDepth 100000 in
set_option maxHeartbeats 4000000 in
theorem divide_calls {t : Ty} (h : rightF t = true) (w : World) (a b : Nat) (ha : a < 2 ^ wid t) (hb : b < 2 ^ wid t) (h0 : b ≠ 0) :
  Calls Tryz.prog 51 #[.agg #[.int .i64 t.1, .bool t.2], .int .u64 a, .int .u64 b] w fun e w' => e = .returned (.tuple #[.int .u64 (divR t a b).1, .int .u64 (divR t a b).2]) ∧ Frm (fun _ => False) w w' := by
 have hF := Lib.hid (frm_alloc w (.cells #[.int .i64 t.1, .bool t.2] 23))
 have ⟨b0, b1⟩ := (TmW.Box.new w t).cells
 have p64 : (2 : Nat) ^ wid t ≤ 2 ^ 64 := Nat.pow_le_pow_right (by decide) (wid_le h).2
 have HA := Lib.hid (Nat.lt_of_lt_of_le ha p64)
 have HB := Lib.hid (Nat.lt_of_lt_of_le hb p64)
 have HR := Lib.hid h
 have hz := size_ne h hb h0
 have hsa := Lib.hid (size_lt h a)
 have hsb := Lib.hid (size_lt h b)
 have hd0 := Lib.hid (show divR t a b = (if negR t a != negR t b then flipN (sizeR t a / sizeR t b) else sizeR t a / sizeR t b, if negR t a then flipN (sizeR t a % sizeR t b) else sizeR t a % sizeR t b) from rfl)
 clear ha hb h0 h p64
 obtain ⟨sa, esa⟩ : ∃ x, x = sizeR t a := ⟨_, rfl⟩
 obtain ⟨sb, esb⟩ : ∃ x, x = sizeR t b := ⟨_, rfl⟩
 have hSa := Lib.hid (fun w1 => (size_calls HR.out w1 a HA.out))
 have hSb := Lib.hid (fun w1 => (size_calls HR.out w1 b HB.out))
 rw [← esb] at hz hsb hSb hd0
 rw [← esa] at hsa hSa hd0
 clear esa esb
 have hq1 : ((sb : Int) == 0) = false := by simp [hz]
 have hq2 : (sb : Int) ≠ 0 := by simp [hz]
 cases hna : negR t a <;> cases hnb : negR t b
 all_goals
  have hNa := Lib.hid (fun w1 => (Neg_calls HR.out w1 a HA.out))
  have hNb := Lib.hid (fun w1 => (Neg_calls HR.out w1 b HB.out))
  rw [hna] at hNa hd0
  rw [hnb] at hNb hd0
  clear hna hnb
  go_enter Tryz.func51, Tryz.ntmps51
  go_wp2_with fail
  refine Plan.wp_region_plan [0, 0, 3, 0, 0, 31, 63, 0, 0, 447, 0, 0, 4031, 8127, 8191, 32767] [.mk [0, 1, 3, 4, 7, 8, 10, 11] 2 [3, 4, 7, 8, 10, 11], .mk [] 5 [7, 8, 10, 11], .mk [6] 9 [10, 11, 6], .mk [] 12 [6]] [13, 14, 15] (by kernel_rfl) (by kernel_rfl) ?_
  simp only [Plan.wayOf, Plan.pickAll, List.getElem?_cons_zero, List.getElem?_cons_succ, List.getD_eq_getElem?_getD, Option.getD_some]
  refine Plan.wpWay_seg ?_
  repeat go_big_quiet_step (fail)
  refine wpQuiet_nil ?_; refine Plan.wpWay_act ?_
  go_wp2_with fail
  refine (hSa.out _).mono ?_
  rintro e x1 ⟨rfl, hf⟩
  have c0_1 := frm_cellD hf b0
  have c1_1 := frm_cellD hf b1
  have HF1 := Lib.hid (frm_then hF.out.drew hf)
  clear hf
  go_wp2_with fail
  refine And.intro ?_ ?_; focus ((iterate 6 (refine Plan.again_cons ?_ ?_; focus (go_big_quiet_step (fail); exact wpQuiet_nil rfl))); exact Plan.again_nil)
  refine Plan.wpWay_seg ?_
  refine wpQuiet_nil ?_; refine Plan.wpWay_act ?_
  go_wp2_with fail
  refine (hSb.out _).mono ?_
  rintro e x2 ⟨rfl, hf⟩
  have c0_2 := frm_cell hf c0_1
  have c1_2 := frm_cell hf c1_1
  have HF2 := Lib.hid (frm_then HF1.out hf)
  clear hf
  go_wp2_with fail
  refine And.intro ?_ ?_; focus ((iterate 4 (refine Plan.again_cons ?_ ?_; focus (go_big_quiet_step (fail); exact wpQuiet_nil rfl))); exact Plan.again_nil)
  refine Plan.wpWay_seg ?_
  repeat go_big_quiet_step (fail)
  refine wpQuiet_nil ?_; refine Plan.wpWay_act ?_
  go_wp2_with fail
  refine (hSa.out _).mono ?_
  rintro e x3 ⟨rfl, hf⟩
  have c0_3 := frm_cell hf c0_2
  have c1_3 := frm_cell hf c1_2
  have HF3 := Lib.hid (frm_then HF2.out hf)
  clear hf
  go_wp2_with fail
  refine And.intro ?_ ?_; focus ((iterate 3 (refine Plan.again_cons ?_ ?_; focus (go_big_quiet_step (fail); exact wpQuiet_nil rfl))); exact Plan.again_nil)
  refine Plan.wpWay_seg ?_
  refine wpQuiet_nil ?_; refine Plan.wpWay_act ?_
  go_wp2_with fail
  refine (hSb.out _).mono ?_
  rintro e x4 ⟨rfl, hf⟩
  have c0_4 := frm_cell hf c0_3
  have c1_4 := frm_cell hf c1_3
  have HF4 := Lib.hid (frm_then HF3.out hf)
  clear hf
  go_wp2_with fail
  refine And.intro ?_ ?_; focus ((iterate 1 (refine Plan.again_cons ?_ ?_; focus (go_big_quiet_step (fail); exact wpQuiet_nil rfl))); exact Plan.again_nil)
  refine Plan.wpWay_last ?_
  repeat go_big_quiet_step (fail)
  refine wpQuiet_nil ?_; refine NoPanic.normal ?_
  go_wp2_with fail
  have HF4' := HF4
  refine Plan.wp_region_plan [0, 0, 3, 0, 0, 31, 63] [.mk [0, 1, 3, 4] 2 [3, 4], .mk [] 5 []] [6] (by kernel_rfl) (by kernel_rfl) ?_
  simp only [Plan.wayOf, Plan.pickAll, List.getElem?_cons_zero, List.getElem?_cons_succ, List.getD_eq_getElem?_getD, Option.getD_some]
  refine Plan.wpWay_seg ?_
  repeat go_big_quiet_step (fail)
  refine wpQuiet_nil ?_; refine Plan.wpWay_act ?_
  go_wp2_with fail
  refine (hNa.out _).mono ?_
  rintro e x5 ⟨rfl, hf⟩
  have c0_5 := frm_cellD hf c0_4
  have c1_5 := frm_cellD hf c1_4
  have HF5 := Lib.hid (frm_then HF4.out.drew hf)
  clear hf
  go_wp2_with fail
  refine And.intro ?_ ?_; focus ((iterate 2 (refine Plan.again_cons ?_ ?_; focus (go_big_quiet_step (fail); exact wpQuiet_nil rfl))); exact Plan.again_nil)
  refine Plan.wpWay_seg ?_
  refine wpQuiet_nil ?_; refine Plan.wpWay_act ?_
  go_wp2_with fail
  refine (hNb.out _).mono ?_
  rintro e x6 ⟨rfl, hf⟩
  have c0_6 := frm_cell hf c0_5
  have c1_6 := frm_cell hf c1_5
  have HF6 := Lib.hid (frm_then HF5.out hf)
  clear hf
  go_wp2_with fail
  refine And.intro Plan.again_nil ?_
  refine Plan.wpWay_last ?_
  repeat go_big_quiet_step (fail)
  refine wpQuiet_nil ?_; refine NoPanic.normal ?_
  go_wp2_with (go_at_call 78; refine (hNa.out _).mono ?_; rintro e w7 ⟨rfl, hf7⟩; have HF7 := Lib.hid (frm_then HF6.out hf7); clear hf7)
  go_ret2
  refine ⟨TmW.ret_2u64 ?_ ?_, HF7.out⟩
  ·have hql : sa / sb < 2 ^ 64 := Nat.lt_of_le_of_lt (Nat.div_le_self _ _) hsa.out
   rw [hd0.out, ← Int.natCast_ediv, wrap_nat64 _ hql]
   first | rfl | (rw [negE _ hql]; rfl)
  ·have hml : sa % sb < 2 ^ 64 := Nat.lt_of_le_of_lt (Nat.mod_le _ _) hsa.out
   rw [hd0.out, ← Int.natCast_emod]
   first | rfl | (rw [negE _ hml]; rfl)
end RfW
end Go.Proofs.YtbbajekecppioaaGreatDoor
/- append of all of a slice that came in (nil, empty or not), onto a row of the call's own. -/
namespace Go.Mem
open Go.RowKit
section
variable {P : Program} {w : World}
theorem run_append_sees (t ty e : TypeId) (i : TypeInfo) (z : Value) (bytes : Nat) (ht : P.underlying t = some (.slice e)) (hi : P.info? e = some i) (hz : i.zero = some z)
    (hsize : i.size = 1) (hby : i.bytes = bytes) (hzs : z.cells.size = 1) {α : Type} {enc : α → Value} (h1 : ∀ y, (enc y).oneCell' = true)
    (v : Value) (xs ys : List α) (hrow : Row w e enc v xs) (u : Value) (hs : Sees w enc u ys) (h63 : xs.length + ys.length ≤ maxLen) (hbytes : (xs.length + ys.length) * bytes ≤ 140737488355328) :
    ∃ v' w', (Builtin.append_ #[t, t] ty #[v, u]).run P w = .ok v' w' ∧ Row w' e enc v' (xs ++ ys) ∧ Frm (fun b => v.ownBlock = some b) w w' ∧ ∀ g, v'.ownBlock = some g → v.ownBlock = some g ∨ g = w.heap.size := by
  rcases hs with ⟨rfl, rfl⟩ | ⟨g, o, cap, rfl, hcap, _, hc⟩
  · refine ⟨v, w, ?_, by simpa using hrow, Frm.refl _ _, fun g hg => .inl hg⟩
    rcases hrow.2 with ⟨rfl, hl⟩ | ⟨g, cap, cur, rfl, _, _, hnc, _⟩
    · simp [Builtin.append_, run_underlying ht, sizeOf, typeInfo, hi, Builtin.lenOf, Builtin.firstCells]
    · simp [Builtin.append_, run_underlying ht, sizeOf, typeInfo, hi, Builtin.lenOf, Builtin.firstCells, hnc, storeCells]
  · obtain ⟨v', w', hrun, h2, h3, _, h5⟩ := run_append_own_at (P := P) (ty := ty) w 0 t e i z 1 bytes ht hi hz hsize hby hzs (by decide) v xs.length (xs.map enc) hrow ⟨g, o, none⟩ ys.length cap (ys.map enc) (by simp) (fun j u hj => by
      rw [List.getElem?_map] at hj
      obtain ⟨y, hy, rfl⟩ := Option.map_eq_some_iff.1 hj
      have e : (⟨g, o, none⟩ : Addr).add j = ⟨g, o + j, none⟩ := by simp only [Addr.add]; split <;> simp_all
      rw [e]; exact hc j y hy) (fun u hu => by
      obtain ⟨y, _, rfl⟩ := List.mem_map.1 hu
      exact h1 y) h63 hbytes (Nat.zero_le _)
    refine ⟨v', w', hrun, ?_, Frm.of_grown h3, fun g' hg' => ?_⟩
    · show w'.ownsRow 0 e 1 v' (xs ++ ys).length ((xs ++ ys).map enc)
      rw [List.length_append, List.map_append]; exact h2
    · rcases h5 with h5 | h5
      · exact .inl (by rw [← h5]; exact hg')
      · rw [h5] at hg'; cases hg'; exact .inr rfl
theorem wpList_append_sees {ops : Array Oper} {rest : List Oper} {o : Oper} {a : Act} {Q : Exit → Act → World → Prop} (hgd : o.guard = none) (s x : Operand) (t : TypeId)
    (ho : o.op = .call { callee := .builtin .append, args := #[s, x], argTypes := #[t, t] })
    (e : TypeId) (i : TypeInfo) (z : Value) (bytes : Nat) (ht : P.underlying t = some (.slice e)) (hi : P.info? e = some i) (hz : i.zero = some z)
    (hsize : i.size = 1) (hby : i.bytes = bytes) (hzs : z.cells.size = 1) {α : Type} {enc : α → Value} (h1 : ∀ y, (enc y).oneCell' = true)
    (v : Value) (xs ys : List α) (hv : a.eval s = v) (hrow : Row w e enc v xs) (u : Value) (hu : a.eval x = u) (hs : Sees w enc u ys) (h63 : xs.length + ys.length ≤ maxLen) (hbytes : (xs.length + ys.length) * bytes ≤ 140737488355328)
    (h : ∀ v' w', Row w' e enc v' (xs ++ ys) → Frm (fun b => v.ownBlock = some b) w w' → (∀ g, v'.ownBlock = some g → v.ownBlock = some g ∨ g = w.heap.size) → wpList P ops Q rest (a.put o.dst v') w') : wpList P ops Q (o :: rest) a w := by
  refine wpList_plain hgd fun K hK => ?_
  obtain ⟨v', w', hrun, h2, h3, h4⟩ := run_append_sees (P := P) t o.type e i z bytes ht hi hz hsize hby hzs h1 v xs ys hrow u hs h63 hbytes
  unfold Oper.wp execOp
  simp only [ho, resolve, invoke, builtin, Sem.run_bind, Sem.run_pure, Result.andThen_ok, List.map_toArray, List.map_cons, List.map_nil, hv, hu, hrun]
  exact hK _ _ (h v' w' h2 h3 h4)
end
end Go.Mem
