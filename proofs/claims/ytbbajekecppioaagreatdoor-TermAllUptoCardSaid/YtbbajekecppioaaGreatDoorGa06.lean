/- term's small functions walked: boolean, bit, apply, result. -/
import Derived.Test.YtbbajekecppioaaGreatDoorGa05
import Derived.Deep.QuietTactic
set_option linter.unusedSimpArgs false
set_option linter.unusedVariables false
namespace Go.Proofs.YtbbajekecppioaaGreatDoor
open Go.RowKit Go.Mem Go.Wd
namespace TmW
def u64 (n : Nat) : Value := .int .u64 n
set_option maxRecDepth 100000 in
theorem boolean_calls (w : World) :
  Calls Tryz.prog 63 #[] w fun e w' => e = .returned (.agg #[.int .i64 1, .bool false]) ∧ Frm (fun _ => False) w w' := by
 have hF := Lib.hid (frm_alloc w (.cells #[.int .i64 1, .bool false] 23))
 go_enter Tryz.func63, Tryz.ntmps63
 go_wp2
 refine bodyPost_ret (v := .agg #[.int .i64 1, .bool false]) (by simp [results, Tryz.results63, go_sem]) rfl ⟨rfl, hF.out⟩
set_option maxRecDepth 100000 in
theorem bit_calls (w : World) (b : Bool) :
  Calls Tryz.prog 65 #[.bool b] w fun e w' => e = .returned (.int .u64 (b.toNat : Nat)) ∧ w = w' := by
 cases b
 all_goals
  go_enter Tryz.func65, Tryz.ntmps65
  go_wp2
  go_ret
  exact ⟨rfl, rfl⟩
theorem Box.frmD {w w' : World} {b : Nat} {t : Ty} (h : Box w b t) (hf : Frm (fun _ => False) w.drew w') : Box w' b t := Box.frm0 (w := w.drew) h hf
theorem frm_cellD {w w1 : World} {a : Addr} {x : Value} (hf : Frm (fun _ => False) w.drew w1) (h : w.cell? a = some x) : w1.cell? a = some x := frm_cell (w := w.drew) hf h
theorem u8_at (op : ByteArray) {i : Nat} (h : i < op.size) : op.toList[i]? = some op[i] := by
 rw [Lib.toList_data]
 exact List.getElem?_eq_getElem (l := op.data.toList) (by simpa using h)
def applyF (op : ByteArray) (t : Ty) (v : List Nat) : Nat × Int :=
 match v with
 | [a] => if op.size = 2 ∧ op.toList[0]? = some 117 then turnF t (op.extract 1 op.size) a else (0, 12)
 | [a, b] =>
  if (op = ⟨#[38, 38]⟩ ∨ op = ⟨#[124, 124]⟩) ∧ t = (1, false) then (if op = ⟨#[38, 38]⟩ then a &&& b else a ||| b, 0)
  else if (testF t op a b).2 = 0 then ((testF t op a b).1.toNat, 0)
  else if (doF t op a b).2 = 11 then (0, 0)
  else doF t op a b
 | [a, b, c] => if op = ⟨#[105, 116, 101]⟩ then (if a = 1 then b else c, 0) else (0, 12)
 | _ => (0, 12)
theorem applyF1 (op : ByteArray) (t : Ty) (a : Nat) : applyF op t [a] = if op.size = 2 ∧ op.toList[0]? = some 117 then turnF t (op.extract 1 op.size) a else (0, 12) := rfl
theorem applyF2 (op : ByteArray) (t : Ty) (a b : Nat) : applyF op t [a, b] = if (op = ⟨#[38, 38]⟩ ∨ op = ⟨#[124, 124]⟩) ∧ t = (1, false) then (if op = ⟨#[38, 38]⟩ then a &&& b else a ||| b, 0)
  else if (testF t op a b).2 = 0 then ((testF t op a b).1.toNat, 0) else if (doF t op a b).2 = 11 then (0, 0) else doF t op a b := rfl
theorem applyF3 (op : ByteArray) (t : Ty) (a b c : Nat) : applyF op t [a, b, c] = if op = ⟨#[105, 116, 101]⟩ then (if a = 1 then b else c, 0) else (0, 12) := rfl
set_option maxRecDepth 100000 in
set_option maxHeartbeats 1000000 in
theorem apply1_calls (w : World) (op : ByteArray) (t : Ty) (va : Value) (a : Nat) (ha : a < 2 ^ 64) (hs : op.size ≤ maxLen) (hT : Tabs w) (hv : Sees w u64 va [a]) :
  Calls Tryz.prog 33 #[.string op, .agg #[.int .i64 t.1, .bool t.2], va] w fun e w' => e = .returned (.tuple #[.int .u64 (applyF op t [a]).1, .int .i64 (applyF op t [a]).2]) ∧ Frm (fun _ => False) w w' := by
 have HC := Lib.hid (fun w1 op2 (hf : Frm (fun _ => False) w w1) => Turn_calls w1 t op2 a ha (hT.frm0 hf))
 have hF := Lib.hid (frm_alloc w (.cells #[.int .i64 t.1, .bool t.2] 23))
 have HB0 := Lib.hid (Box.new w t)
 rcases hv with ⟨_, h⟩ | ⟨g, o, cap, rfl, hc1, hc2, hc⟩
 ·cases h
 have c0 := hc 0 a rfl
 have hgl := World.block_lt_of_cell? _ _ c0
 have c0' : (w.alloc (.cells #[.int .i64 t.1, .bool t.2] 23)).cell? ⟨g, o, none⟩ = some (.int .u64 a) := (World.cell?_alloc_past _ g _ hgl).trans c0
 clear hT ha hc c0
 by_cases h2 : op.size = 2
 ·have h0 : 0 < op.size := by omega
  have d2 : ((op.size : Int) != 2) = false := by simp; omega
  have h1 : 1 ≤ op.size := by omega
  have hz : op.toList[0]? = some op[0] := u8_at op h0
  by_cases hc : op[0] = 117
  ·have hs : Hid (applyF op t [a] = turnF t (op.extract 1 op.size) a) := Lib.hid (by rw [applyF1, if_pos ⟨h2, by rw [hz, hc]⟩])
   have d117 : (((op[0]'h0).toNat : Int) != 117) = false := by rw [hc]; rfl
   obtain ⟨b0, b1⟩ := HB0.out.cells
   clear h2 hz hc
   go_enter Tryz.func33, Tryz.ntmps33
   go_wp2_with fail
   refine Plan.wp_region_plan [0, 0, 2, 0, 8, 24, 63, 127, 127, 511, 1023] [.mk [0, 1, 2, 3, 4, 5] 6 []] [7, 8, 9, 10] (by kernel_rfl) (by kernel_rfl) ?_
   simp only [Plan.wayOf, Plan.pickAll, List.getElem?_cons_zero, List.getElem?_cons_succ, List.getD_eq_getElem?_getD, Option.getD_some]
   refine Plan.wpWay_seg ?_
   repeat go_big_quiet_step (fail)
   refine wpQuiet_nil ?_; refine Plan.wpWay_act ?_
   go_wp2_with fail
   refine (HC.out _ _ hF.out.drew).mono ?_
   rintro e w1 ⟨rfl, hf1⟩
   have HF1 := Lib.hid (frm_then hF.out.drew hf1)
   clear hf1
   go_wp2_with fail
   refine And.intro Plan.again_nil ?_
   refine Plan.wpWay_last ?_
   repeat go_big_quiet_step (fail)
   refine wpQuiet_nil ?_; refine NoPanic.normal ?_
   go_wp2
   go_ret2
   exact ⟨by rw [hs.out]; rfl, HF1.out⟩
  ·have hs : Hid (applyF op t [a] = (0, 12)) := Lib.hid (by rw [applyF1, if_neg]; rintro ⟨_, h⟩; rw [hz] at h; exact hc (Option.some.inj h))
   have d117 : (((op[0]'h0).toNat : Int) != 117) = true := by
    rw [bne_iff_ne]
    intro h
    exact hc (UInt8.toNat_inj.1 (by exact_mod_cast h))
   clear h2 hz hc
   go_enter Tryz.func33, Tryz.ntmps33
   go_wp2
   go_ret2
   exact ⟨by rw [hs.out]; rfl, hF.out⟩
 ·have hs : Hid (applyF op t [a] = (0, 12)) := Lib.hid (by rw [applyF1, if_neg]; rintro ⟨h, _⟩; exact h2 h)
  have d2 : ((op.size : Int) != 2) = true := by simp; omega
  clear h2
  go_enter Tryz.func33, Tryz.ntmps33
  go_wp2
  go_ret2
  exact ⟨by rw [hs.out]; rfl, hF.out⟩
set_option maxRecDepth 100000 in
set_option maxHeartbeats 1000000 in
theorem apply3_calls (w : World) (op : ByteArray) (t : Ty) (va : Value) (a b c : Nat) (hv : Sees w u64 va [a, b, c]) :
  Calls Tryz.prog 33 #[.string op, .agg #[.int .i64 t.1, .bool t.2], va] w fun e w' => e = .returned (.tuple #[.int .u64 (applyF op t [a, b, c]).1, .int .i64 (applyF op t [a, b, c]).2]) ∧ Frm (fun _ => False) w w' := by
 have hF := Lib.hid (frm_alloc w (.cells #[.int .i64 t.1, .bool t.2] 23))
 rcases hv with ⟨_, h⟩ | ⟨g, o, cap, rfl, hc1, hc2, hc⟩
 ·cases h
 have c0 := hc 0 a rfl
 have hgl := World.block_lt_of_cell? _ _ c0
 have c0' : (w.alloc (.cells #[.int .i64 t.1, .bool t.2] 23)).cell? ⟨g, o, none⟩ = some (.int .u64 a) := (World.cell?_alloc_past _ g _ hgl).trans c0
 have c1' : (w.alloc (.cells #[.int .i64 t.1, .bool t.2] 23)).cell? ⟨g, o + 1, none⟩ = some (.int .u64 b) := (World.cell?_alloc_past _ g _ hgl).trans (hc 1 b rfl)
 have c2' : (w.alloc (.cells #[.int .i64 t.1, .bool t.2] 23)).cell? ⟨g, o + 2, none⟩ = some (.int .u64 c) := (World.cell?_alloc_past _ g _ hgl).trans (hc 2 c rfl)
 clear hc c0
 by_cases hi : op = ⟨#[105, 116, 101]⟩
 ·have d0 : (op.toList == [105, 116, 101]) = true := by rw [eqS]; simp [hi]
  by_cases ha : a = 1
  ·have d1 : ((a : Int) == 1) = true := by simp [ha]
   have hs : Hid (applyF op t [a, b, c] = (b, 0)) := Lib.hid (by rw [applyF3, if_pos hi, if_pos ha])
   clear hi ha
   go_enter Tryz.func33, Tryz.ntmps33
   go_wp2
   go_ret2
   exact ⟨by rw [hs.out]; rfl, hF.out⟩
  ·have d1 : ((a : Int) == 1) = false := by simp; omega
   have hs : Hid (applyF op t [a, b, c] = (c, 0)) := Lib.hid (by rw [applyF3, if_pos hi, if_neg ha])
   clear hi ha
   go_enter Tryz.func33, Tryz.ntmps33
   go_wp2
   go_ret2
   exact ⟨by rw [hs.out]; rfl, hF.out⟩
 ·have d0 : (op.toList == [105, 116, 101]) = false := by rw [eqS]; simpa using hi
  have hs : Hid (applyF op t [a, b, c] = (0, 12)) := Lib.hid (by rw [applyF3, if_neg hi])
  clear hi
  go_enter Tryz.func33, Tryz.ntmps33
  go_wp2
  go_ret2
  exact ⟨by rw [hs.out]; rfl, hF.out⟩
set_option maxRecDepth 100000 in
set_option maxHeartbeats 2000000 in
theorem apply2_calls (w : World) (op : ByteArray) (t : Ty) (va : Value) (a b : Nat) (ha : a < 2 ^ 64) (hb : b < 2 ^ 64) (hT : Tabs w) (hv : Sees w u64 va [a, b]) :
  Calls Tryz.prog 33 #[.string op, .agg #[.int .i64 t.1, .bool t.2], va] w fun e w' => e = .returned (.tuple #[.int .u64 (applyF op t [a, b]).1, .int .i64 (applyF op t [a, b]).2]) ∧ Frm (fun _ => False) w w' := by
 have HTC := Lib.hid (fun w1 (hf : Frm (fun _ => False) w w1) => Test_calls w1 t op a b ha hb (hT.frm0 hf))
 have HDC := Lib.hid (fun w1 (hf : Frm (fun _ => False) w w1) => Do_calls w1 t op a b ha hb (hT.frm0 hf))
 obtain ⟨x, s⟩ := t
 have hF := Lib.hid (frm_alloc w (.cells #[.int .i64 x, .bool s] 23))
 have HB0 := Lib.hid (Box.new w (x, s))
 obtain ⟨b0, b1⟩ := HB0.out.cells
 have Ha := Lib.hid ha
 have Hb := Lib.hid hb
 rcases hv with ⟨_, h⟩ | ⟨g, o, cap, rfl, hc1, hc2, hc⟩
 ·cases h
 have c0 := hc 0 a rfl
 have hgl := World.block_lt_of_cell? _ _ c0
 have c0' : (w.alloc (.cells #[.int .i64 x, .bool s] 23)).cell? ⟨g, o, none⟩ = some (.int .u64 a) := (World.cell?_alloc_past _ g _ hgl).trans c0
 have c1' : (w.alloc (.cells #[.int .i64 x, .bool s] 23)).cell? ⟨g, o + 1, none⟩ = some (.int .u64 b) := (World.cell?_alloc_past _ g _ hgl).trans (hc 1 b rfl)
 clear hc c0 ha hb hT
 have HAB := Lib.hid (show (op = ⟨#[38, 38]⟩ ∨ op = ⟨#[124, 124]⟩) ∧ (x, s) = (1, false) ∨ applyF op (x, s) [a, b] = (if (testF (x, s) op a b).2 = 0 then ((testF (x, s) op a b).1.toNat, 0) else if (doF (x, s) op a b).2 = 11 then (0, 0) else doF (x, s) op a b) from by
  rw [applyF2]
  split
  ·exact .inl ‹_›
  ·exact .inr rfl)
 generalize testF (x, s) op a b = tt at *
 generalize doF (x, s) op a b = dd at *
 cases d1 : (op.toList == [38, 38])
 case true =>
  have h1 : op = ⟨#[38, 38]⟩ := by rw [eqS] at d1; simpa using d1
  have d0 : (op.toList == [105, 116, 101]) = false := by rw [eqS]; simp [h1]
  by_cases hx : x = 1
  ·subst hx
   cases s
   ·have hs : Hid (applyF op (1, false) [a, b] = (a &&& b, 0)) := Lib.hid (by rw [applyF2, if_pos ⟨.inl h1, rfl⟩, if_pos h1])
    clear h1
    go_enter Tryz.func33, Tryz.ntmps33
    go_wp2
    refine Plan.wp_region_plan [0, 1, 3, 7, 15, 31, 63, 127, 127, 511, 1023, 2047] [.mk [0, 1, 2, 3, 4, 5, 6, 7] 8 [7]] [9, 10, 11] (by kernel_rfl) (by kernel_rfl) ?_
    simp only [Plan.wayOf, Plan.pickAll, List.getElem?_cons_zero, List.getElem?_cons_succ, List.getD_eq_getElem?_getD, Option.getD_some]
    refine Plan.wpWay_seg ?_
    repeat go_big_quiet_step (fail)
    refine wpQuiet_nil ?_; refine Plan.wpWay_act ?_
    go_wp2_with fail
    refine (boolean_calls _).mono ?_
    rintro e w1 ⟨rfl, hf1⟩
    have HB1 := Lib.hid (HB0.out.frmD hf1)
    obtain ⟨b2, b3⟩ := HB1.out.cells
    have k0 := frm_cellD hf1 c0'
    have k1 := frm_cellD hf1 c1'
    have HF1 := Lib.hid (frm_then hF.out.drew hf1)
    clear hf1
    go_wp2_with fail
    refine And.intro ?_ ?_; focus ((iterate 1 (refine Plan.again_cons ?_ ?_; focus (go_big_quiet_step (fail); exact wpQuiet_nil rfl))); exact Plan.again_nil)
    refine Plan.wpWay_last ?_
    repeat go_big_quiet_step (fail)
    refine wpQuiet_nil ?_; refine NoPanic.normal ?_
    go_wp2
    go_quiet (fail)
    go_wp2
    rw [bits_and_u64 _ _ Ha.out Hb.out]
    go_ret2
    exact ⟨by rw [hs.out]; rfl, HF1.out.drewN _⟩
   ·have hs := Lib.hid (HAB.out.resolve_left (by simp))
    clear h1 HAB
    go_enter Tryz.func33, Tryz.ntmps33
    go_wp2
    refine Plan.wp_region_plan [0, 1, 3, 7, 15, 31, 63, 127, 127, 511, 1023, 2047] [.mk [0, 1, 2, 3, 4, 5, 6, 7] 8 [7]] [9, 10, 11] (by kernel_rfl) (by kernel_rfl) ?_
    simp only [Plan.wayOf, Plan.pickAll, List.getElem?_cons_zero, List.getElem?_cons_succ, List.getD_eq_getElem?_getD, Option.getD_some]
    refine Plan.wpWay_seg ?_
    repeat go_big_quiet_step (fail)
    refine wpQuiet_nil ?_; refine Plan.wpWay_act ?_
    go_wp2_with fail
    refine (boolean_calls _).mono ?_
    rintro e w1 ⟨rfl, hf1⟩
    have HB1 := Lib.hid (HB0.out.frmD hf1)
    obtain ⟨b2, b3⟩ := HB1.out.cells
    have k0 := frm_cellD hf1 c0'
    have k1 := frm_cellD hf1 c1'
    have HF1 := Lib.hid (frm_then hF.out.drew hf1)
    clear hf1
    go_wp2_with fail
    refine And.intro ?_ ?_; focus ((iterate 1 (refine Plan.again_cons ?_ ?_; focus (go_big_quiet_step (fail); exact wpQuiet_nil rfl))); exact Plan.again_nil)
    refine Plan.wpWay_last ?_
    repeat go_big_quiet_step (fail)
    refine wpQuiet_nil ?_; refine NoPanic.normal ?_
    go_wp2
    refine Plan.wp_region_plan [0, 0, 0, 4, 12, 0, 32, 96, 255, 511, 1023, 1023, 2047, 8191] [.mk [0, 1, 2, 3, 4, 5, 6, 7] 8 []] [9, 10, 11, 12, 13] (by kernel_rfl) (by kernel_rfl) ?_
    simp only [Plan.wayOf, Plan.pickAll, List.getElem?_cons_zero, List.getElem?_cons_succ, List.getD_eq_getElem?_getD, Option.getD_some]
    refine Plan.wpWay_seg ?_
    repeat go_big_quiet_step (fail)
    refine wpQuiet_nil ?_; refine Plan.wpWay_act ?_
    go_wp2_with fail
    refine (HTC.out _ HF1.out.drew).mono ?_
    rintro e w2 ⟨rfl, hf2⟩
    have HB2 := Lib.hid (HB1.out.frmD hf2)
    obtain ⟨e0, e1⟩ := HB2.out.cells
    have q0 := frm_cellD hf2 k0
    have q1 := frm_cellD hf2 k1
    have HF2 := Lib.hid (frm_then HF1.out.drew hf2)
    clear hf2
    go_wp2_with fail
    refine And.intro Plan.again_nil ?_
    refine Plan.wpWay_last ?_
    repeat go_big_quiet_step (fail)
    refine wpQuiet_nil ?_; refine NoPanic.normal ?_
    by_cases h0 : tt.2 = 0
    ·have d5 : (tt.2 == 0) = true := by simp [h0]
     have hs' := Lib.hid (hs.out.trans (show _ = (tt.1.toNat, tt.2) by rw [if_pos h0, h0]))
     clear h0
     go_wp2_with fail
     refine (bit_calls _ tt.1).mono ?_
     rintro e w3 ⟨rfl, rfl⟩
     go_wp2
     go_ret2
     exact ⟨by rw [hs'.out]; rfl, HF2.out⟩
    ·have d5 : (tt.2 == 0) = false := by simp [h0]
     have hs' := Lib.hid (hs.out.trans (if_neg h0))
     clear h0
     go_wp2
     refine Plan.wp_region_plan [0, 0, 0, 4, 12, 0, 32, 96, 255, 511, 1023, 1023, 2047, 8191] [.mk [0, 1, 2, 3, 4, 5, 6, 7] 8 []] [9, 10, 11, 12, 13] (by kernel_rfl) (by kernel_rfl) ?_
     simp only [Plan.wayOf, Plan.pickAll, List.getElem?_cons_zero, List.getElem?_cons_succ, List.getD_eq_getElem?_getD, Option.getD_some]
     refine Plan.wpWay_seg ?_
     repeat go_big_quiet_step (fail)
     refine wpQuiet_nil ?_; refine Plan.wpWay_act ?_
     go_wp2_with fail
     refine (HDC.out _ HF2.out.drew).mono ?_
     rintro e w3 ⟨rfl, hf3⟩
     have HB3 := Lib.hid (HB2.out.frmD hf3)
     obtain ⟨f0, f1⟩ := HB3.out.cells
     have r0 := frm_cellD hf3 q0
     have r1 := frm_cellD hf3 q1
     have HF3 := Lib.hid (frm_then HF2.out.drew hf3)
     clear hf3
     go_wp2_with fail
     refine And.intro Plan.again_nil ?_
     refine Plan.wpWay_last ?_
     repeat go_big_quiet_step (fail)
     refine wpQuiet_nil ?_; refine NoPanic.normal ?_
     by_cases h1 : dd.2 = 11
     ·have d6 : (dd.2 == 11) = true := by simp [h1]
      have hs2 := Lib.hid (hs'.out.trans (if_pos h1))
      clear h1
      go_wp2
      go_ret2
      exact ⟨by rw [hs2.out]; rfl, HF3.out⟩
     ·have d6 : (dd.2 == 11) = false := by simp [h1]
      have hs2 := Lib.hid (hs'.out.trans (if_neg h1))
      clear h1
      go_wp2
      go_ret2
      exact ⟨by rw [hs2.out]; rfl, HF3.out⟩
  ·have dt1 : (x == 1) = false := by simp [hx]
   have hs := Lib.hid (HAB.out.resolve_left (by simp [hx]))
   clear h1 hx HAB
   go_enter Tryz.func33, Tryz.ntmps33
   go_wp2
   refine Plan.wp_region_plan [0, 1, 3, 7, 15, 31, 63, 127, 127, 511, 1023, 2047] [.mk [0, 1, 2, 3, 4, 5, 6, 7] 8 [7]] [9, 10, 11] (by kernel_rfl) (by kernel_rfl) ?_
   simp only [Plan.wayOf, Plan.pickAll, List.getElem?_cons_zero, List.getElem?_cons_succ, List.getD_eq_getElem?_getD, Option.getD_some]
   refine Plan.wpWay_seg ?_
   repeat go_big_quiet_step (fail)
   refine wpQuiet_nil ?_; refine Plan.wpWay_act ?_
   go_wp2_with fail
   refine (boolean_calls _).mono ?_
   rintro e w1 ⟨rfl, hf1⟩
   have HB1 := Lib.hid (HB0.out.frmD hf1)
   obtain ⟨b2, b3⟩ := HB1.out.cells
   have k0 := frm_cellD hf1 c0'
   have k1 := frm_cellD hf1 c1'
   have HF1 := Lib.hid (frm_then hF.out.drew hf1)
   clear hf1
   go_wp2_with fail
   refine And.intro ?_ ?_; focus ((iterate 1 (refine Plan.again_cons ?_ ?_; focus (go_big_quiet_step (fail); exact wpQuiet_nil rfl))); exact Plan.again_nil)
   refine Plan.wpWay_last ?_
   repeat go_big_quiet_step (fail)
   refine wpQuiet_nil ?_; refine NoPanic.normal ?_
   go_wp2
   refine Plan.wp_region_plan [0, 0, 0, 4, 12, 0, 32, 96, 255, 511, 1023, 1023, 2047, 8191] [.mk [0, 1, 2, 3, 4, 5, 6, 7] 8 []] [9, 10, 11, 12, 13] (by kernel_rfl) (by kernel_rfl) ?_
   simp only [Plan.wayOf, Plan.pickAll, List.getElem?_cons_zero, List.getElem?_cons_succ, List.getD_eq_getElem?_getD, Option.getD_some]
   refine Plan.wpWay_seg ?_
   repeat go_big_quiet_step (fail)
   refine wpQuiet_nil ?_; refine Plan.wpWay_act ?_
   go_wp2_with fail
   refine (HTC.out _ HF1.out.drew).mono ?_
   rintro e w2 ⟨rfl, hf2⟩
   have HB2 := Lib.hid (HB1.out.frmD hf2)
   obtain ⟨e0, e1⟩ := HB2.out.cells
   have q0 := frm_cellD hf2 k0
   have q1 := frm_cellD hf2 k1
   have HF2 := Lib.hid (frm_then HF1.out.drew hf2)
   clear hf2
   go_wp2_with fail
   refine And.intro Plan.again_nil ?_
   refine Plan.wpWay_last ?_
   repeat go_big_quiet_step (fail)
   refine wpQuiet_nil ?_; refine NoPanic.normal ?_
   by_cases h0 : tt.2 = 0
   ·have d5 : (tt.2 == 0) = true := by simp [h0]
    have hs' := Lib.hid (hs.out.trans (show _ = (tt.1.toNat, tt.2) by rw [if_pos h0, h0]))
    clear h0
    go_wp2_with fail
    refine (bit_calls _ tt.1).mono ?_
    rintro e w3 ⟨rfl, rfl⟩
    go_wp2
    go_ret2
    exact ⟨by rw [hs'.out]; rfl, HF2.out⟩
   ·have d5 : (tt.2 == 0) = false := by simp [h0]
    have hs' := Lib.hid (hs.out.trans (if_neg h0))
    clear h0
    go_wp2
    refine Plan.wp_region_plan [0, 0, 0, 4, 12, 0, 32, 96, 255, 511, 1023, 1023, 2047, 8191] [.mk [0, 1, 2, 3, 4, 5, 6, 7] 8 []] [9, 10, 11, 12, 13] (by kernel_rfl) (by kernel_rfl) ?_
    simp only [Plan.wayOf, Plan.pickAll, List.getElem?_cons_zero, List.getElem?_cons_succ, List.getD_eq_getElem?_getD, Option.getD_some]
    refine Plan.wpWay_seg ?_
    repeat go_big_quiet_step (fail)
    refine wpQuiet_nil ?_; refine Plan.wpWay_act ?_
    go_wp2_with fail
    refine (HDC.out _ HF2.out.drew).mono ?_
    rintro e w3 ⟨rfl, hf3⟩
    have HB3 := Lib.hid (HB2.out.frmD hf3)
    obtain ⟨f0, f1⟩ := HB3.out.cells
    have r0 := frm_cellD hf3 q0
    have r1 := frm_cellD hf3 q1
    have HF3 := Lib.hid (frm_then HF2.out.drew hf3)
    clear hf3
    go_wp2_with fail
    refine And.intro Plan.again_nil ?_
    refine Plan.wpWay_last ?_
    repeat go_big_quiet_step (fail)
    refine wpQuiet_nil ?_; refine NoPanic.normal ?_
    by_cases h1 : dd.2 = 11
    ·have d6 : (dd.2 == 11) = true := by simp [h1]
     have hs2 := Lib.hid (hs'.out.trans (if_pos h1))
     clear h1
     go_wp2
     go_ret2
     exact ⟨by rw [hs2.out]; rfl, HF3.out⟩
    ·have d6 : (dd.2 == 11) = false := by simp [h1]
     have hs2 := Lib.hid (hs'.out.trans (if_neg h1))
     clear h1
     go_wp2
     go_ret2
     exact ⟨by rw [hs2.out]; rfl, HF3.out⟩
 case false =>
 have h1 : op ≠ ⟨#[38, 38]⟩ := by rw [eqS] at d1; simpa using d1
 cases d2 : (op.toList == [124, 124])
 case true =>
  have h2 : op = ⟨#[124, 124]⟩ := by rw [eqS] at d2; simpa using d2
  have d0 : (op.toList == [105, 116, 101]) = false := by rw [eqS]; simp [h2]
  by_cases hx : x = 1
  ·subst hx
   cases s
   ·have hs : Hid (applyF op (1, false) [a, b] = (a ||| b, 0)) := Lib.hid (by rw [applyF2, if_pos ⟨.inr h2, rfl⟩, if_neg h1])
    clear h1 h2
    go_enter Tryz.func33, Tryz.ntmps33
    go_wp2
    refine Plan.wp_region_plan [0, 1, 3, 7, 15, 31, 63, 127, 127, 511, 1023, 2047] [.mk [0, 1, 2, 3, 4, 5, 6, 7] 8 [7]] [9, 10, 11] (by kernel_rfl) (by kernel_rfl) ?_
    simp only [Plan.wayOf, Plan.pickAll, List.getElem?_cons_zero, List.getElem?_cons_succ, List.getD_eq_getElem?_getD, Option.getD_some]
    refine Plan.wpWay_seg ?_
    repeat go_big_quiet_step (fail)
    refine wpQuiet_nil ?_; refine Plan.wpWay_act ?_
    go_wp2_with fail
    refine (boolean_calls _).mono ?_
    rintro e w1 ⟨rfl, hf1⟩
    have HB1 := Lib.hid (HB0.out.frmD hf1)
    obtain ⟨b2, b3⟩ := HB1.out.cells
    have k0 := frm_cellD hf1 c0'
    have k1 := frm_cellD hf1 c1'
    have HF1 := Lib.hid (frm_then hF.out.drew hf1)
    clear hf1
    go_wp2_with fail
    refine And.intro ?_ ?_; focus ((iterate 1 (refine Plan.again_cons ?_ ?_; focus (go_big_quiet_step (fail); exact wpQuiet_nil rfl))); exact Plan.again_nil)
    refine Plan.wpWay_last ?_
    repeat go_big_quiet_step (fail)
    refine wpQuiet_nil ?_; refine NoPanic.normal ?_
    go_wp2
    go_quiet (fail)
    go_wp2
    rw [bits_or_u64 _ _ Ha.out Hb.out]
    go_ret2
    exact ⟨by rw [hs.out]; rfl, HF1.out.drewN _⟩
   ·have hs := Lib.hid (HAB.out.resolve_left (by simp))
    clear h1 h2 HAB
    go_enter Tryz.func33, Tryz.ntmps33
    go_wp2
    refine Plan.wp_region_plan [0, 1, 3, 7, 15, 31, 63, 127, 127, 511, 1023, 2047] [.mk [0, 1, 2, 3, 4, 5, 6, 7] 8 [7]] [9, 10, 11] (by kernel_rfl) (by kernel_rfl) ?_
    simp only [Plan.wayOf, Plan.pickAll, List.getElem?_cons_zero, List.getElem?_cons_succ, List.getD_eq_getElem?_getD, Option.getD_some]
    refine Plan.wpWay_seg ?_
    repeat go_big_quiet_step (fail)
    refine wpQuiet_nil ?_; refine Plan.wpWay_act ?_
    go_wp2_with fail
    refine (boolean_calls _).mono ?_
    rintro e w1 ⟨rfl, hf1⟩
    have HB1 := Lib.hid (HB0.out.frmD hf1)
    obtain ⟨b2, b3⟩ := HB1.out.cells
    have k0 := frm_cellD hf1 c0'
    have k1 := frm_cellD hf1 c1'
    have HF1 := Lib.hid (frm_then hF.out.drew hf1)
    clear hf1
    go_wp2_with fail
    refine And.intro ?_ ?_; focus ((iterate 1 (refine Plan.again_cons ?_ ?_; focus (go_big_quiet_step (fail); exact wpQuiet_nil rfl))); exact Plan.again_nil)
    refine Plan.wpWay_last ?_
    repeat go_big_quiet_step (fail)
    refine wpQuiet_nil ?_; refine NoPanic.normal ?_
    go_wp2
    refine Plan.wp_region_plan [0, 0, 0, 4, 12, 0, 32, 96, 255, 511, 1023, 1023, 2047, 8191] [.mk [0, 1, 2, 3, 4, 5, 6, 7] 8 []] [9, 10, 11, 12, 13] (by kernel_rfl) (by kernel_rfl) ?_
    simp only [Plan.wayOf, Plan.pickAll, List.getElem?_cons_zero, List.getElem?_cons_succ, List.getD_eq_getElem?_getD, Option.getD_some]
    refine Plan.wpWay_seg ?_
    repeat go_big_quiet_step (fail)
    refine wpQuiet_nil ?_; refine Plan.wpWay_act ?_
    go_wp2_with fail
    refine (HTC.out _ HF1.out.drew).mono ?_
    rintro e w2 ⟨rfl, hf2⟩
    have HB2 := Lib.hid (HB1.out.frmD hf2)
    obtain ⟨e0, e1⟩ := HB2.out.cells
    have q0 := frm_cellD hf2 k0
    have q1 := frm_cellD hf2 k1
    have HF2 := Lib.hid (frm_then HF1.out.drew hf2)
    clear hf2
    go_wp2_with fail
    refine And.intro Plan.again_nil ?_
    refine Plan.wpWay_last ?_
    repeat go_big_quiet_step (fail)
    refine wpQuiet_nil ?_; refine NoPanic.normal ?_
    by_cases h0 : tt.2 = 0
    ·have d5 : (tt.2 == 0) = true := by simp [h0]
     have hs' := Lib.hid (hs.out.trans (show _ = (tt.1.toNat, tt.2) by rw [if_pos h0, h0]))
     clear h0
     go_wp2_with fail
     refine (bit_calls _ tt.1).mono ?_
     rintro e w3 ⟨rfl, rfl⟩
     go_wp2
     go_ret2
     exact ⟨by rw [hs'.out]; rfl, HF2.out⟩
    ·have d5 : (tt.2 == 0) = false := by simp [h0]
     have hs' := Lib.hid (hs.out.trans (if_neg h0))
     clear h0
     go_wp2
     refine Plan.wp_region_plan [0, 0, 0, 4, 12, 0, 32, 96, 255, 511, 1023, 1023, 2047, 8191] [.mk [0, 1, 2, 3, 4, 5, 6, 7] 8 []] [9, 10, 11, 12, 13] (by kernel_rfl) (by kernel_rfl) ?_
     simp only [Plan.wayOf, Plan.pickAll, List.getElem?_cons_zero, List.getElem?_cons_succ, List.getD_eq_getElem?_getD, Option.getD_some]
     refine Plan.wpWay_seg ?_
     repeat go_big_quiet_step (fail)
     refine wpQuiet_nil ?_; refine Plan.wpWay_act ?_
     go_wp2_with fail
     refine (HDC.out _ HF2.out.drew).mono ?_
     rintro e w3 ⟨rfl, hf3⟩
     have HB3 := Lib.hid (HB2.out.frmD hf3)
     obtain ⟨f0, f1⟩ := HB3.out.cells
     have r0 := frm_cellD hf3 q0
     have r1 := frm_cellD hf3 q1
     have HF3 := Lib.hid (frm_then HF2.out.drew hf3)
     clear hf3
     go_wp2_with fail
     refine And.intro Plan.again_nil ?_
     refine Plan.wpWay_last ?_
     repeat go_big_quiet_step (fail)
     refine wpQuiet_nil ?_; refine NoPanic.normal ?_
     by_cases h1 : dd.2 = 11
     ·have d6 : (dd.2 == 11) = true := by simp [h1]
      have hs2 := Lib.hid (hs'.out.trans (if_pos h1))
      clear h1
      go_wp2
      go_ret2
      exact ⟨by rw [hs2.out]; rfl, HF3.out⟩
     ·have d6 : (dd.2 == 11) = false := by simp [h1]
      have hs2 := Lib.hid (hs'.out.trans (if_neg h1))
      clear h1
      go_wp2
      go_ret2
      exact ⟨by rw [hs2.out]; rfl, HF3.out⟩
  ·have dt1 : (x == 1) = false := by simp [hx]
   have hs := Lib.hid (HAB.out.resolve_left (by simp [hx]))
   clear h1 h2 hx HAB
   go_enter Tryz.func33, Tryz.ntmps33
   go_wp2
   refine Plan.wp_region_plan [0, 1, 3, 7, 15, 31, 63, 127, 127, 511, 1023, 2047] [.mk [0, 1, 2, 3, 4, 5, 6, 7] 8 [7]] [9, 10, 11] (by kernel_rfl) (by kernel_rfl) ?_
   simp only [Plan.wayOf, Plan.pickAll, List.getElem?_cons_zero, List.getElem?_cons_succ, List.getD_eq_getElem?_getD, Option.getD_some]
   refine Plan.wpWay_seg ?_
   repeat go_big_quiet_step (fail)
   refine wpQuiet_nil ?_; refine Plan.wpWay_act ?_
   go_wp2_with fail
   refine (boolean_calls _).mono ?_
   rintro e w1 ⟨rfl, hf1⟩
   have HB1 := Lib.hid (HB0.out.frmD hf1)
   obtain ⟨b2, b3⟩ := HB1.out.cells
   have k0 := frm_cellD hf1 c0'
   have k1 := frm_cellD hf1 c1'
   have HF1 := Lib.hid (frm_then hF.out.drew hf1)
   clear hf1
   go_wp2_with fail
   refine And.intro ?_ ?_; focus ((iterate 1 (refine Plan.again_cons ?_ ?_; focus (go_big_quiet_step (fail); exact wpQuiet_nil rfl))); exact Plan.again_nil)
   refine Plan.wpWay_last ?_
   repeat go_big_quiet_step (fail)
   refine wpQuiet_nil ?_; refine NoPanic.normal ?_
   go_wp2
   refine Plan.wp_region_plan [0, 0, 0, 4, 12, 0, 32, 96, 255, 511, 1023, 1023, 2047, 8191] [.mk [0, 1, 2, 3, 4, 5, 6, 7] 8 []] [9, 10, 11, 12, 13] (by kernel_rfl) (by kernel_rfl) ?_
   simp only [Plan.wayOf, Plan.pickAll, List.getElem?_cons_zero, List.getElem?_cons_succ, List.getD_eq_getElem?_getD, Option.getD_some]
   refine Plan.wpWay_seg ?_
   repeat go_big_quiet_step (fail)
   refine wpQuiet_nil ?_; refine Plan.wpWay_act ?_
   go_wp2_with fail
   refine (HTC.out _ HF1.out.drew).mono ?_
   rintro e w2 ⟨rfl, hf2⟩
   have HB2 := Lib.hid (HB1.out.frmD hf2)
   obtain ⟨e0, e1⟩ := HB2.out.cells
   have q0 := frm_cellD hf2 k0
   have q1 := frm_cellD hf2 k1
   have HF2 := Lib.hid (frm_then HF1.out.drew hf2)
   clear hf2
   go_wp2_with fail
   refine And.intro Plan.again_nil ?_
   refine Plan.wpWay_last ?_
   repeat go_big_quiet_step (fail)
   refine wpQuiet_nil ?_; refine NoPanic.normal ?_
   by_cases h0 : tt.2 = 0
   ·have d5 : (tt.2 == 0) = true := by simp [h0]
    have hs' := Lib.hid (hs.out.trans (show _ = (tt.1.toNat, tt.2) by rw [if_pos h0, h0]))
    clear h0
    go_wp2_with fail
    refine (bit_calls _ tt.1).mono ?_
    rintro e w3 ⟨rfl, rfl⟩
    go_wp2
    go_ret2
    exact ⟨by rw [hs'.out]; rfl, HF2.out⟩
   ·have d5 : (tt.2 == 0) = false := by simp [h0]
    have hs' := Lib.hid (hs.out.trans (if_neg h0))
    clear h0
    go_wp2
    refine Plan.wp_region_plan [0, 0, 0, 4, 12, 0, 32, 96, 255, 511, 1023, 1023, 2047, 8191] [.mk [0, 1, 2, 3, 4, 5, 6, 7] 8 []] [9, 10, 11, 12, 13] (by kernel_rfl) (by kernel_rfl) ?_
    simp only [Plan.wayOf, Plan.pickAll, List.getElem?_cons_zero, List.getElem?_cons_succ, List.getD_eq_getElem?_getD, Option.getD_some]
    refine Plan.wpWay_seg ?_
    repeat go_big_quiet_step (fail)
    refine wpQuiet_nil ?_; refine Plan.wpWay_act ?_
    go_wp2_with fail
    refine (HDC.out _ HF2.out.drew).mono ?_
    rintro e w3 ⟨rfl, hf3⟩
    have HB3 := Lib.hid (HB2.out.frmD hf3)
    obtain ⟨f0, f1⟩ := HB3.out.cells
    have r0 := frm_cellD hf3 q0
    have r1 := frm_cellD hf3 q1
    have HF3 := Lib.hid (frm_then HF2.out.drew hf3)
    clear hf3
    go_wp2_with fail
    refine And.intro Plan.again_nil ?_
    refine Plan.wpWay_last ?_
    repeat go_big_quiet_step (fail)
    refine wpQuiet_nil ?_; refine NoPanic.normal ?_
    by_cases h1 : dd.2 = 11
    ·have d6 : (dd.2 == 11) = true := by simp [h1]
     have hs2 := Lib.hid (hs'.out.trans (if_pos h1))
     clear h1
     go_wp2
     go_ret2
     exact ⟨by rw [hs2.out]; rfl, HF3.out⟩
    ·have d6 : (dd.2 == 11) = false := by simp [h1]
     have hs2 := Lib.hid (hs'.out.trans (if_neg h1))
     clear h1
     go_wp2
     go_ret2
     exact ⟨by rw [hs2.out]; rfl, HF3.out⟩
 case false =>
  have h2 : op ≠ ⟨#[124, 124]⟩ := by rw [eqS] at d2; simpa using d2
  have hs := Lib.hid (HAB.out.resolve_left (by simp [h1, h2]))
  clear h1 h2 HAB
  cases d0 : (op.toList == [105, 116, 101])
  all_goals
   go_enter Tryz.func33, Tryz.ntmps33
   go_wp2
   go_quiet (fail)
   obtain ⟨w1, hw1⟩ : ∃ w1, w1 = (w.alloc (.cells #[.int .i64 x, .bool s] 23)).drewN nq := ⟨_, rfl⟩
   rw [← hw1]
   have HB1 := Lib.hid (show Box w1 w.heap.size (x, s) by rw [hw1]; exact HB0.out)
   obtain ⟨b2, b3⟩ := HB1.out.cells
   have k0 : w1.cell? ⟨g, o, none⟩ = some (.int .u64 a) := by rw [hw1]; exact c0'
   have k1 : w1.cell? ⟨g, o + 1, none⟩ = some (.int .u64 b) := by rw [hw1]; exact c1'
   have HF1 := Lib.hid (show Frm (fun _ => False) w w1 by rw [hw1]; exact hF.out.drewN _)
   clear hw1
   go_wp2
   refine Plan.wp_region_plan [0, 0, 0, 4, 12, 0, 32, 96, 255, 511, 1023, 1023, 2047, 8191] [.mk [0, 1, 2, 3, 4, 5, 6, 7] 8 []] [9, 10, 11, 12, 13] (by kernel_rfl) (by kernel_rfl) ?_
   simp only [Plan.wayOf, Plan.pickAll, List.getElem?_cons_zero, List.getElem?_cons_succ, List.getD_eq_getElem?_getD, Option.getD_some]
   refine Plan.wpWay_seg ?_
   repeat go_big_quiet_step (fail)
   refine wpQuiet_nil ?_; refine Plan.wpWay_act ?_
   go_wp2_with fail
   refine (HTC.out _ HF1.out.drew).mono ?_
   rintro e w2 ⟨rfl, hf2⟩
   have HB2 := Lib.hid (HB1.out.frmD hf2)
   obtain ⟨e0, e1⟩ := HB2.out.cells
   have q0 := frm_cellD hf2 k0
   have q1 := frm_cellD hf2 k1
   have HF2 := Lib.hid (frm_then HF1.out.drew hf2)
   clear hf2
   go_wp2_with fail
   refine And.intro Plan.again_nil ?_
   refine Plan.wpWay_last ?_
   repeat go_big_quiet_step (fail)
   refine wpQuiet_nil ?_; refine NoPanic.normal ?_
   by_cases h0 : tt.2 = 0
   ·have d5 : (tt.2 == 0) = true := by simp [h0]
    have hs' := Lib.hid (hs.out.trans (show _ = (tt.1.toNat, tt.2) by rw [if_pos h0, h0]))
    clear h0
    go_wp2_with fail
    refine (bit_calls _ tt.1).mono ?_
    rintro e w3 ⟨rfl, rfl⟩
    go_wp2
    go_ret2
    exact ⟨by rw [hs'.out]; rfl, HF2.out⟩
   ·have d5 : (tt.2 == 0) = false := by simp [h0]
    have hs' := Lib.hid (hs.out.trans (if_neg h0))
    clear h0
    go_wp2
    refine Plan.wp_region_plan [0, 0, 0, 4, 12, 0, 32, 96, 255, 511, 1023, 1023, 2047, 8191] [.mk [0, 1, 2, 3, 4, 5, 6, 7] 8 []] [9, 10, 11, 12, 13] (by kernel_rfl) (by kernel_rfl) ?_
    simp only [Plan.wayOf, Plan.pickAll, List.getElem?_cons_zero, List.getElem?_cons_succ, List.getD_eq_getElem?_getD, Option.getD_some]
    refine Plan.wpWay_seg ?_
    repeat go_big_quiet_step (fail)
    refine wpQuiet_nil ?_; refine Plan.wpWay_act ?_
    go_wp2_with fail
    refine (HDC.out _ HF2.out.drew).mono ?_
    rintro e w3 ⟨rfl, hf3⟩
    have HB3 := Lib.hid (HB2.out.frmD hf3)
    obtain ⟨f0, f1⟩ := HB3.out.cells
    have r0 := frm_cellD hf3 q0
    have r1 := frm_cellD hf3 q1
    have HF3 := Lib.hid (frm_then HF2.out.drew hf3)
    clear hf3
    go_wp2_with fail
    refine And.intro Plan.again_nil ?_
    refine Plan.wpWay_last ?_
    repeat go_big_quiet_step (fail)
    refine wpQuiet_nil ?_; refine NoPanic.normal ?_
    by_cases h1 : dd.2 = 11
    ·have d6 : (dd.2 == 11) = true := by simp [h1]
     have hs2 := Lib.hid (hs'.out.trans (if_pos h1))
     clear h1
     go_wp2
     go_ret2
     exact ⟨by rw [hs2.out]; rfl, HF3.out⟩
    ·have d6 : (dd.2 == 11) = false := by simp [h1]
     have hs2 := Lib.hid (hs'.out.trans (if_neg h1))
     clear h1
     go_wp2
     go_ret2
     exact ⟨by rw [hs2.out]; rfl, HF3.out⟩
end TmW
end Go.Proofs.YtbbajekecppioaaGreatDoor
