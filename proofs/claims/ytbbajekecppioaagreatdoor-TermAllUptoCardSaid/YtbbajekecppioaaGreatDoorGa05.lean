/- word's operators walked, and word.Do. -/
import Derived.Test.YtbbajekecppioaaGreatDoorGa04
set_option linter.unusedSimpArgs false
set_option linter.unusedVariables false
namespace Go.Proofs.YtbbajekecppioaaGreatDoor
open Go.RowKit Go.Mem Go.Wd
namespace TmW
theorem bits_xor_u64 (a b : Nat) (ha : a < 2 ^ 64) (hb : b < 2 ^ 64) : bits .xor .u64 (a : Int) (b : Int) = ((a ^^^ b : Nat) : Int) := by
 unfold bits
 simp only [BitVec.toNat_xor, ofInt_nat64 a ha, ofInt_nat64 b hb]
 exact wrap_nat64 _ (Nat.xor_lt_two_pow (n := 64) ha hb)
theorem wrap_u64 (x : Int) : IntKind.u64.wrap x = x % 2 ^ 64 := by
 simp only [IntKind.wrap, IntKind.bits, IntKind.signed]
 simp
theorem int_ne0 {t : Ty} {v : Nat} (hr : rightF t = true) (hv : v < 2 ^ wid t) (h : v ≠ 0) : intF t v ≠ 0 := by
 have h64 : 2 ^ wid t ≤ 2 ^ 64 := Nat.pow_le_pow_right (by decide) (wid_le hr).2
 have hp : (2 : Int) ^ wid t = ((2 ^ wid t : Nat) : Int) := by simp
 have hn : normF t v = v := by unfold normF; rw [if_pos hr, Nat.mod_eq_of_lt hv]
 unfold intF toI
 rw [hn, hp]
 split
 ·omega
 ·split <;> omega
set_option maxRecDepth 100000 in
set_option maxHeartbeats 1000000 in
theorem bin_calls (k : Bin) (w : World) (t : Ty) (bx a b : Nat) (ha : a < 2 ^ 64) (hb : b < 2 ^ 64) (hT : Tabs w) (hB : Box w bx t) (h0 : (k = .quo ∨ k = .rem) → b ≠ 0 ∧ (t.2 = true → intF t b ≠ 0)) :
  Calls Tryz.prog (fidOf k) (#[.int .u64 a, .int .u64 b] ++ capOf bx k) w fun e w' => e = .returned (.int .u64 (binF t k a b)) ∧ Frm (fun _ => False) w w' := by
 have Ha := Lib.hid ha
 have Hb := Lib.hid hb
 obtain ⟨c0, c1⟩ := hB.cells
 clear ha hb hB
 cases k
 case and =>
  show Calls Tryz.prog 100 #[.int .u64 a, .int .u64 b] w _
  go_enter Tryz.func100, Tryz.ntmps100
  go_wp2
  rw [bits_and_u64 _ _ Ha.out Hb.out]
  go_ret
  exact ⟨rfl, Frm.refl _ _⟩
 case or =>
  show Calls Tryz.prog 101 #[.int .u64 a, .int .u64 b] w _
  go_enter Tryz.func101, Tryz.ntmps101
  go_wp2
  rw [bits_or_u64 _ _ Ha.out Hb.out]
  go_ret
  exact ⟨rfl, Frm.refl _ _⟩
 case xor =>
  show Calls Tryz.prog 102 #[.int .u64 a, .int .u64 b] w _
  go_enter Tryz.func102, Tryz.ntmps102
  go_wp2
  rw [bits_xor_u64 _ _ Ha.out Hb.out]
  go_ret
  exact ⟨rfl, Frm.refl _ _⟩
 case add =>
  show Calls Tryz.prog 103 #[.int .u64 a, .int .u64 b] w _
  go_enter Tryz.func103, Tryz.ntmps103
  go_wp2
  go_ret
  exact ⟨ret_u64 ((wrap_u64 _).trans (by simp only [binF]; omega)), Frm.refl _ _⟩
 case sub =>
  show Calls Tryz.prog 104 #[.int .u64 a, .int .u64 b] w _
  go_enter Tryz.func104, Tryz.ntmps104
  go_wp2
  go_ret
  exact ⟨ret_u64 ((wrap_u64 _).trans (by have := Ha.out; have := Hb.out; simp only [binF]; omega)), Frm.refl _ _⟩
 case mul =>
  show Calls Tryz.prog 105 #[.int .u64 a, .int .u64 b] w _
  go_enter Tryz.func105, Tryz.ntmps105
  go_wp2
  go_ret
  exact ⟨ret_u64 ((wrap_u64 _).trans (by unfold binF; simp)), Frm.refl _ _⟩
 case shl =>
  by_cases h : 64 ≤ b
  ·have hs : Hid (binF t .shl a b = 0) := Lib.hid (by unfold binF; simp [h])
   have d : decide ((b : Int) ≥ 64) = true := by simp; omega
   clear h
   show Calls Tryz.prog 106 #[.int .u64 a, .int .u64 b] w _
   go_enter Tryz.func106, Tryz.ntmps106
   go_wp2
   go_ret
   exact ⟨ret_u64 (by rw [hs.out]; rfl), Frm.refl _ _⟩
  ·have hs : Hid (binF t .shl a b = a * 2 ^ b % 2 ^ 64) := Lib.hid (by unfold binF; simp [h])
   have d : decide ((b : Int) ≥ 64) = false := by simp; omega
   have H := Lib.hid h
   clear h
   show Calls Tryz.prog 106 #[.int .u64 a, .int .u64 b] w _
   go_enter Tryz.func106, Tryz.ntmps106
   go_wp2
   go_ret
   refine ⟨ret_u64 ?_, Frm.refl _ _⟩
   rw [hs.out, Nat.min_eq_left (by have := H.out; omega), wrap_u64]
   simp
 case shr =>
  have HC := Lib.hid (shift_calls w t a b Ha.out Hb.out hT)
  show Calls Tryz.prog 107 #[.int .u64 a, .int .u64 b, .pointer (some ⟨bx, 0, none⟩)] w _
  go_enter Tryz.func107, Tryz.ntmps107
  go_wp2_with fail
  refine HC.out.mono ?_
  rintro e w1 ⟨rfl, hf1⟩
  go_wp2
  go_ret
  exact ⟨rfl, hf1⟩
 case quo =>
  have HC := Lib.hid (divide_calls w t a b Ha.out Hb.out hT (h0 (.inl rfl)).1 (h0 (.inl rfl)).2)
  clear h0
  show Calls Tryz.prog 109 #[.int .u64 a, .int .u64 b, .pointer (some ⟨bx, 0, none⟩)] w _
  go_enter Tryz.func109, Tryz.ntmps109
  go_wp2_with fail
  refine HC.out.mono ?_
  rintro e w1 ⟨rfl, hf1⟩
  go_wp2
  go_ret
  exact ⟨rfl, hf1⟩
 case rem =>
  have HC := Lib.hid (divide_calls w t a b Ha.out Hb.out hT (h0 (.inr rfl)).1 (h0 (.inr rfl)).2)
  clear h0
  show Calls Tryz.prog 111 #[.int .u64 a, .int .u64 b, .pointer (some ⟨bx, 0, none⟩)] w _
  go_enter Tryz.func111, Tryz.ntmps111
  go_wp2_with fail
  refine HC.out.mono ?_
  rintro e w1 ⟨rfl, hf1⟩
  go_wp2
  go_ret
  exact ⟨rfl, hf1⟩
theorem getF_eq (l : List (ByteArray × Bin)) (op : ByteArray) : getF l op = mget l op := by
 induction l with
 | nil => rfl
 | cons x l ih => obtain ⟨a, k⟩ := x; simp only [getF, mget, ih]
theorem zeroF (w : World) : (zeroValue 125).run Tryz.prog w = .ok .nilFunc w := by kernel_rfl
theorem bin_enter (k : Bin) (args : Array Value) (w : World) : (callFunc (fidOf k) args).run Tryz.prog w = .ok (.enter (fidOf k) args) w := by
 cases k
 case and => exact call_enter Tryz.func100 (by kernel_rfl) rfl _ _
 case or => exact call_enter Tryz.func101 (by kernel_rfl) rfl _ _
 case xor => exact call_enter Tryz.func102 (by kernel_rfl) rfl _ _
 case add => exact call_enter Tryz.func103 (by kernel_rfl) rfl _ _
 case sub => exact call_enter Tryz.func104 (by kernel_rfl) rfl _ _
 case mul => exact call_enter Tryz.func105 (by kernel_rfl) rfl _ _
 case shl => exact call_enter Tryz.func106 (by kernel_rfl) rfl _ _
 case shr => exact call_enter Tryz.func107 (by kernel_rfl) rfl _ _
 case quo => exact call_enter Tryz.func109 (by kernel_rfl) rfl _ _
 case rem => exact call_enter Tryz.func111 (by kernel_rfl) rfl _ _
theorem bin_lt (k : Bin) (t : Ty) (a b : Nat) (ha : a < 2 ^ 64) (hb : b < 2 ^ 64) : binF t k a b < 2 ^ 64 := by
 cases k
 case and => exact Nat.and_lt_two_pow _ hb
 case or => exact Nat.or_lt_two_pow ha hb
 case xor => exact Nat.xor_lt_two_pow ha hb
 case add => simp only [binF]; omega
 case sub => simp only [binF]; omega
 case mul => simp only [binF]; omega
 case shl => simp only [binF]; split <;> omega
 case shr =>
  simp only [binF, shiftF]
  split
  ·exact ofI_lt _
  ·split
   ·omega
   ·exact Nat.lt_of_le_of_lt (Nat.div_le_self _ _) ha
 case quo =>
  simp only [binF, divF]
  split
  ·split
   ·exact ofI_lt _
   ·exact ofI_lt _
  ·exact Nat.lt_of_le_of_lt (Nat.div_le_self _ _) ha
 case rem =>
  simp only [binF, divF]
  split
  ·split
   ·exact Nat.two_pow_pos _
   ·exact ofI_lt _
  ·exact Nat.lt_of_le_of_lt (Nat.mod_le _ _) ha
theorem do_bool {t : Ty} {op : ByteArray} {a b : Nat} {k : Bin} (hr : rightF t = true) (hg : getF (opsF t) op = some k) : doF t op a b = if normF t b = 0 ∧ (op = sQuo ∨ op = sRem) then (0, 11) else (normF t (binF t k (normF t a) (normF t b)), 0) := by
 unfold doF
 rw [if_pos hr, hg]
theorem quo_of {t : Ty} {op : ByteArray} {k : Bin} (h : getF (opsF t) op = some k) (hk : k = .quo ∨ k = .rem) : op = sQuo ∨ op = sRem := by
 unfold opsF at h
 split at h
 all_goals
  simp only [getF] at h
  repeat' split at h
  all_goals first | (cases h; rcases hk with hk | hk <;> cases hk; done) | simp_all
set_option maxRecDepth 100000 in
set_option maxHeartbeats 2000000 in
theorem Do_calls (w : World) (t : Ty) (op : ByteArray) (a b : Nat) (ha : a < 2 ^ 64) (hb : b < 2 ^ 64) (hT : Tabs w) :
  Calls Tryz.prog 66 #[.agg #[.int .i64 t.1, .bool t.2], .string op, .int .u64 a, .int .u64 b] w fun e w' => e = .returned (.tuple #[.int .u64 (doF t op a b).1, .int .i64 (doF t op a b).2]) ∧ Frm (fun _ => False) w w' := by
 have HR := Lib.hid (fun w1 (hf : Frm (fun _ => False) w w1) => Right_calls w1 t (hT.frm0 hf))
 have HK := Lib.hid (fun w1 (hf : Frm (fun _ => False) w w1) => Norm_calls w1 t a ha (hT.frm0 hf))
 have HL := Lib.hid (fun w1 (hf : Frm (fun _ => False) w w1) => Norm_calls w1 t b hb (hT.frm0 hf))
 have hF := Lib.hid (frm_alloc w (.cells #[.int .i64 t.1, .bool t.2] 23))
 have HB0 := Lib.hid (Box.new w t)
 have HT := Lib.hid hT
 clear hT ha hb
 by_cases hr : rightF t = true
 case neg =>
  have hs : Hid (doF t op a b = (0, 10)) := Lib.hid (by unfold doF; rw [if_neg hr])
  rw [show rightF t = false by simpa using hr] at HR
  clear hr HK HL
  go_enter Tryz.func66, Tryz.ntmps66
  go_wp2_with fail
  refine (HR.out _ hF.out).mono ?_
  rintro e w1 ⟨rfl, hf1⟩
  have HF1 := Lib.hid (frm_then hF.out hf1)
  clear hf1
  go_wp2
  go_ret2
  exact ⟨by rw [hs.out]; rfl, HF1.out⟩
 case pos =>
 rw [hr] at HR
 cases hg : getF (opsF t) op with
 | none =>
  have hs : Hid (doF t op a b = (0, 12)) := Lib.hid (by unfold doF; rw [if_pos hr, hg])
  have HG := Lib.hid hg
  clear hr hg
  go_enter Tryz.func66, Tryz.ntmps66
  go_wp2_with fail
  refine (HR.out _ hF.out).mono ?_
  rintro e w1 ⟨rfl, hf1⟩
  have HB1 := Lib.hid (HB0.out.frm0 hf1)
  obtain ⟨c0, c1⟩ := HB1.out.cells
  have HF1 := Lib.hid (frm_then hF.out hf1)
  clear hf1
  go_wp2_with fail
  refine (ops_calls _ t).mono ?_
  rintro e w2 ⟨d, rfl, hm2, hf2, hbx⟩
  have HB2 := Lib.hid (HB1.out.frm0 hf2)
  obtain ⟨c2, c3⟩ := HB2.out.cells
  have HBX2 := Lib.hid hbx
  have HF2 := Lib.hid (frm_then HF1.out hf2)
  have hlk := lookup_run keyStr Tryz.underlying127 zeroF hm2 op true
  simp only [if_true, mval, ← getF_eq, HG.out, Option.map_some, Option.map_none, Option.getD_some, Option.getD_none, Option.isSome_some, Option.isSome_none, evB] at hlk
  clear hf2 hm2 hbx
  go_wp2
  refine Plan.wp_region_plan [0, 0, 3, 0, 0, 31, 63, 127] [.mk [0, 1, 3, 4] 2 [3, 4], .mk [] 5 []] [6, 7] (by kernel_rfl) (by kernel_rfl) ?_
  simp only [Plan.wayOf, Plan.pickAll, List.getElem?_cons_zero, List.getElem?_cons_succ, List.getD_eq_getElem?_getD, Option.getD_some]
  refine Plan.wpWay_seg ?_
  repeat go_big_quiet_step (fail)
  refine wpQuiet_nil ?_; refine Plan.wpWay_act ?_
  go_wp2_with fail
  refine (HK.out _ HF2.out.drew).mono ?_
  rintro e w3 ⟨rfl, hf3⟩
  have HB3 := Lib.hid (Box.frm0 (w := w2.drew) (show Box w2.drew _ _ from HB2.out) hf3)
  have HBX3 := Lib.hid (Box.frm0 (w := w2.drew) (show Box w2.drew _ _ from HBX2.out) hf3)
  obtain ⟨c4, c5⟩ := HB3.out.cells
  have HF3 := Lib.hid (frm_then HF2.out.drew hf3)
  clear hf3
  go_wp2_with fail
  refine And.intro ?_ ?_; focus ((iterate 2 (refine Plan.again_cons ?_ ?_; focus (go_big_quiet_step (fail); exact wpQuiet_nil rfl))); exact Plan.again_nil)
  refine Plan.wpWay_seg ?_
  refine wpQuiet_nil ?_; refine Plan.wpWay_act ?_
  go_wp2_with fail
  refine (HL.out _ HF3.out).mono ?_
  rintro e w4 ⟨rfl, hf4⟩
  have HB4 := Lib.hid (HB3.out.frm0 hf4)
  have HBX4 := Lib.hid (HBX3.out.frm0 hf4)
  obtain ⟨c6, c7⟩ := HB4.out.cells
  have HF4 := Lib.hid (frm_then HF3.out hf4)
  clear hf4
  go_wp2_with fail
  refine And.intro Plan.again_nil ?_
  refine Plan.wpWay_last ?_
  repeat go_big_quiet_step (fail)
  refine wpQuiet_nil ?_; refine NoPanic.normal ?_
  go_wp2
  go_ret2
  exact ⟨by rw [hs.out]; rfl, HF4.out⟩
 | some k =>
  have hs := Lib.hid (do_bool (a := a) (b := b) hr hg)
  have HG := Lib.hid hg
  have hla := norm_lt64 t a
  have hlb := norm_lt64 t b
  have HKN := Lib.hid (fun w1 (hf : Frm (fun _ => False) w w1) => Norm_calls w1 t (binF t k (normF t a) (normF t b)) (bin_lt k _ _ _ hla hlb) (HT.out.frm0 hf))
  have HBIN := Lib.hid (fun w1 bx (hf : Frm (fun _ => False) w w1) (hbx : Box w1 bx t) h0 => bin_calls k w1 t bx (normF t a) (normF t b) hla hlb (HT.out.frm0 hf) hbx h0)
  have HZ := Lib.hid (show normF t b ≠ 0 → t.2 = true → intF t (normF t b) ≠ 0 from fun h0 _ => int_ne0 hr (norm_lt _ hr) h0)
  have HQ := Lib.hid (show (k = .quo ∨ k = .rem) → op = sQuo ∨ op = sRem from quo_of hg)
  have hcf := bin_enter k
  clear hr hg hla hlb
  generalize hbn : binF t k (normF t a) (normF t b) = bn at *
  generalize normF t a = na at *
  generalize normF t b = nb at *
  by_cases h0 : nb = 0
  ·have d0 : ((nb : Int) == 0) = true := by simp [h0]
   by_cases h1 : op = sQuo
   ·have d1 : (op.toList == [47]) = true := by rw [eqS]; simp [h1]
    have hs' : Hid (doF t op a b = (0, 11)) := Lib.hid (by rw [hs.out, if_pos ⟨h0, .inl h1⟩])
    clear hs h0 h1 hbn hcf
    go_enter Tryz.func66, Tryz.ntmps66
    go_wp2_with fail
    refine (HR.out _ hF.out).mono ?_
    rintro e w1 ⟨rfl, hf1⟩
    have HB1 := Lib.hid (HB0.out.frm0 hf1)
    obtain ⟨c0, c1⟩ := HB1.out.cells
    have HF1 := Lib.hid (frm_then hF.out hf1)
    clear hf1
    go_wp2_with fail
    refine (ops_calls _ t).mono ?_
    rintro e w2 ⟨d, rfl, hm2, hf2, hbx⟩
    have HB2 := Lib.hid (HB1.out.frm0 hf2)
    obtain ⟨c2, c3⟩ := HB2.out.cells
    have HBX2 := Lib.hid hbx
    have HF2 := Lib.hid (frm_then HF1.out hf2)
    have hlk := lookup_run keyStr Tryz.underlying127 zeroF hm2 op true
    simp only [if_true, mval, ← getF_eq, HG.out, Option.map_some, Option.map_none, Option.getD_some, Option.getD_none, Option.isSome_some, Option.isSome_none, evB] at hlk
    clear hf2 hm2 hbx
    go_wp2
    refine Plan.wp_region_plan [0, 0, 3, 0, 0, 31, 63, 127] [.mk [0, 1, 3, 4] 2 [3, 4], .mk [] 5 []] [6, 7] (by kernel_rfl) (by kernel_rfl) ?_
    simp only [Plan.wayOf, Plan.pickAll, List.getElem?_cons_zero, List.getElem?_cons_succ, List.getD_eq_getElem?_getD, Option.getD_some]
    refine Plan.wpWay_seg ?_
    repeat go_big_quiet_step (fail)
    refine wpQuiet_nil ?_; refine Plan.wpWay_act ?_
    go_wp2_with fail
    refine (HK.out _ HF2.out.drew).mono ?_
    rintro e w3 ⟨rfl, hf3⟩
    have HB3 := Lib.hid (Box.frm0 (w := w2.drew) (show Box w2.drew _ _ from HB2.out) hf3)
    have HBX3 := Lib.hid (Box.frm0 (w := w2.drew) (show Box w2.drew _ _ from HBX2.out) hf3)
    obtain ⟨c4, c5⟩ := HB3.out.cells
    have HF3 := Lib.hid (frm_then HF2.out.drew hf3)
    clear hf3
    go_wp2_with fail
    refine And.intro ?_ ?_; focus ((iterate 2 (refine Plan.again_cons ?_ ?_; focus (go_big_quiet_step (fail); exact wpQuiet_nil rfl))); exact Plan.again_nil)
    refine Plan.wpWay_seg ?_
    refine wpQuiet_nil ?_; refine Plan.wpWay_act ?_
    go_wp2_with fail
    refine (HL.out _ HF3.out).mono ?_
    rintro e w4 ⟨rfl, hf4⟩
    have HB4 := Lib.hid (HB3.out.frm0 hf4)
    have HBX4 := Lib.hid (HBX3.out.frm0 hf4)
    obtain ⟨c6, c7⟩ := HB4.out.cells
    have HF4 := Lib.hid (frm_then HF3.out hf4)
    clear hf4
    go_wp2_with fail
    refine And.intro Plan.again_nil ?_
    refine Plan.wpWay_last ?_
    repeat go_big_quiet_step (fail)
    refine wpQuiet_nil ?_; refine NoPanic.normal ?_
    go_wp2
    go_ret2
    exact ⟨by rw [hs'.out]; rfl, HF4.out⟩
   ·have d1 : (op.toList == [47]) = false := by rw [eqS]; simpa using h1
    by_cases h2 : op = sRem
    ·have d2 : (op.toList == [37]) = true := by rw [eqS]; simp [h2]
     have hs' : Hid (doF t op a b = (0, 11)) := Lib.hid (by rw [hs.out, if_pos ⟨h0, .inr h2⟩])
     clear hs h0 h1 h2 hbn hcf
     go_enter Tryz.func66, Tryz.ntmps66
     go_wp2_with fail
     refine (HR.out _ hF.out).mono ?_
     rintro e w1 ⟨rfl, hf1⟩
     have HB1 := Lib.hid (HB0.out.frm0 hf1)
     obtain ⟨c0, c1⟩ := HB1.out.cells
     have HF1 := Lib.hid (frm_then hF.out hf1)
     clear hf1
     go_wp2_with fail
     refine (ops_calls _ t).mono ?_
     rintro e w2 ⟨d, rfl, hm2, hf2, hbx⟩
     have HB2 := Lib.hid (HB1.out.frm0 hf2)
     obtain ⟨c2, c3⟩ := HB2.out.cells
     have HBX2 := Lib.hid hbx
     have HF2 := Lib.hid (frm_then HF1.out hf2)
     have hlk := lookup_run keyStr Tryz.underlying127 zeroF hm2 op true
     simp only [if_true, mval, ← getF_eq, HG.out, Option.map_some, Option.map_none, Option.getD_some, Option.getD_none, Option.isSome_some, Option.isSome_none, evB] at hlk
     clear hf2 hm2 hbx
     go_wp2
     refine Plan.wp_region_plan [0, 0, 3, 0, 0, 31, 63, 127] [.mk [0, 1, 3, 4] 2 [3, 4], .mk [] 5 []] [6, 7] (by kernel_rfl) (by kernel_rfl) ?_
     simp only [Plan.wayOf, Plan.pickAll, List.getElem?_cons_zero, List.getElem?_cons_succ, List.getD_eq_getElem?_getD, Option.getD_some]
     refine Plan.wpWay_seg ?_
     repeat go_big_quiet_step (fail)
     refine wpQuiet_nil ?_; refine Plan.wpWay_act ?_
     go_wp2_with fail
     refine (HK.out _ HF2.out.drew).mono ?_
     rintro e w3 ⟨rfl, hf3⟩
     have HB3 := Lib.hid (Box.frm0 (w := w2.drew) (show Box w2.drew _ _ from HB2.out) hf3)
     have HBX3 := Lib.hid (Box.frm0 (w := w2.drew) (show Box w2.drew _ _ from HBX2.out) hf3)
     obtain ⟨c4, c5⟩ := HB3.out.cells
     have HF3 := Lib.hid (frm_then HF2.out.drew hf3)
     clear hf3
     go_wp2_with fail
     refine And.intro ?_ ?_; focus ((iterate 2 (refine Plan.again_cons ?_ ?_; focus (go_big_quiet_step (fail); exact wpQuiet_nil rfl))); exact Plan.again_nil)
     refine Plan.wpWay_seg ?_
     refine wpQuiet_nil ?_; refine Plan.wpWay_act ?_
     go_wp2_with fail
     refine (HL.out _ HF3.out).mono ?_
     rintro e w4 ⟨rfl, hf4⟩
     have HB4 := Lib.hid (HB3.out.frm0 hf4)
     have HBX4 := Lib.hid (HBX3.out.frm0 hf4)
     obtain ⟨c6, c7⟩ := HB4.out.cells
     have HF4 := Lib.hid (frm_then HF3.out hf4)
     clear hf4
     go_wp2_with fail
     refine And.intro Plan.again_nil ?_
     refine Plan.wpWay_last ?_
     repeat go_big_quiet_step (fail)
     refine wpQuiet_nil ?_; refine NoPanic.normal ?_
     go_wp2
     go_ret2
     exact ⟨by rw [hs'.out]; rfl, HF4.out⟩
    ·have d2 : (op.toList == [37]) = false := by rw [eqS]; simpa using h2
     have hs' : Hid (doF t op a b = (normF t bn, 0)) := Lib.hid (by rw [hs.out, if_neg (by simp [h1, h2])])
     have HP : Hid ((k = .quo ∨ k = .rem) → nb ≠ 0 ∧ (t.2 = true → intF t nb ≠ 0)) := Lib.hid fun hk => by rcases HQ.out hk with h | h; exact absurd h h1; exact absurd h h2
     clear hs h0 h1 h2 hbn
     go_enter Tryz.func66, Tryz.ntmps66
     go_wp2_with fail
     refine (HR.out _ hF.out).mono ?_
     rintro e w1 ⟨rfl, hf1⟩
     have HB1 := Lib.hid (HB0.out.frm0 hf1)
     obtain ⟨c0, c1⟩ := HB1.out.cells
     have HF1 := Lib.hid (frm_then hF.out hf1)
     clear hf1
     go_wp2_with fail
     refine (ops_calls _ t).mono ?_
     rintro e w2 ⟨d, rfl, hm2, hf2, hbx⟩
     have HB2 := Lib.hid (HB1.out.frm0 hf2)
     obtain ⟨c2, c3⟩ := HB2.out.cells
     have HBX2 := Lib.hid hbx
     have HF2 := Lib.hid (frm_then HF1.out hf2)
     have hlk := lookup_run keyStr Tryz.underlying127 zeroF hm2 op true
     simp only [if_true, mval, ← getF_eq, HG.out, Option.map_some, Option.map_none, Option.getD_some, Option.getD_none, Option.isSome_some, Option.isSome_none, evB] at hlk
     clear hf2 hm2 hbx
     go_wp2
     refine Plan.wp_region_plan [0, 0, 3, 0, 0, 31, 63, 127] [.mk [0, 1, 3, 4] 2 [3, 4], .mk [] 5 []] [6, 7] (by kernel_rfl) (by kernel_rfl) ?_
     simp only [Plan.wayOf, Plan.pickAll, List.getElem?_cons_zero, List.getElem?_cons_succ, List.getD_eq_getElem?_getD, Option.getD_some]
     refine Plan.wpWay_seg ?_
     repeat go_big_quiet_step (fail)
     refine wpQuiet_nil ?_; refine Plan.wpWay_act ?_
     go_wp2_with fail
     refine (HK.out _ HF2.out.drew).mono ?_
     rintro e w3 ⟨rfl, hf3⟩
     have HB3 := Lib.hid (Box.frm0 (w := w2.drew) (show Box w2.drew _ _ from HB2.out) hf3)
     have HBX3 := Lib.hid (Box.frm0 (w := w2.drew) (show Box w2.drew _ _ from HBX2.out) hf3)
     obtain ⟨c4, c5⟩ := HB3.out.cells
     have HF3 := Lib.hid (frm_then HF2.out.drew hf3)
     clear hf3
     go_wp2_with fail
     refine And.intro ?_ ?_; focus ((iterate 2 (refine Plan.again_cons ?_ ?_; focus (go_big_quiet_step (fail); exact wpQuiet_nil rfl))); exact Plan.again_nil)
     refine Plan.wpWay_seg ?_
     refine wpQuiet_nil ?_; refine Plan.wpWay_act ?_
     go_wp2_with fail
     refine (HL.out _ HF3.out).mono ?_
     rintro e w4 ⟨rfl, hf4⟩
     have HB4 := Lib.hid (HB3.out.frm0 hf4)
     have HBX4 := Lib.hid (HBX3.out.frm0 hf4)
     obtain ⟨c6, c7⟩ := HB4.out.cells
     have HF4 := Lib.hid (frm_then HF3.out hf4)
     clear hf4
     go_wp2_with fail
     refine And.intro Plan.again_nil ?_
     refine Plan.wpWay_last ?_
     repeat go_big_quiet_step (fail)
     refine wpQuiet_nil ?_; refine NoPanic.normal ?_
     go_wp2
     refine Plan.wp_region_plan [0, 0, 0, 0, 14, 31, 63, 127] [.mk [0, 1, 2, 3] 4 [0], .mk [] 5 []] [6, 7] (by kernel_rfl) (by kernel_rfl) ?_
     simp only [Plan.wayOf, Plan.pickAll, List.getElem?_cons_zero, List.getElem?_cons_succ, List.getD_eq_getElem?_getD, Option.getD_some]
     refine Plan.wpWay_seg ?_
     repeat go_big_quiet_step (fail)
     refine wpQuiet_nil ?_; refine Plan.wpWay_act ?_
     go_wp2_with fail
     refine (HBIN.out _ _ HF4.out.drew HBX4.out HP.out).mono ?_
     rintro e w5 ⟨rfl, hf5⟩
     have HB5 := Lib.hid (Box.frm0 (w := w4.drew) (show Box w4.drew _ _ from HB4.out) hf5)
     obtain ⟨c8, c9⟩ := HB5.out.cells
     have HF5 := Lib.hid (frm_then HF4.out.drew hf5)
     clear hf5
     go_wp2_with fail
     refine And.intro ?_ ?_; focus ((iterate 1 (refine Plan.again_cons ?_ ?_; focus (go_big_quiet_step (fail); exact wpQuiet_nil rfl))); exact Plan.again_nil)
     refine Plan.wpWay_seg ?_
     refine wpQuiet_nil ?_; refine Plan.wpWay_act ?_
     go_wp2_with fail
     refine (HKN.out _ HF5.out).mono ?_
     rintro e w6 ⟨rfl, hf6⟩
     have HF6 := Lib.hid (frm_then HF5.out hf6)
     clear hf6
     go_wp2_with fail
     refine And.intro Plan.again_nil ?_
     refine Plan.wpWay_last ?_
     repeat go_big_quiet_step (fail)
     refine wpQuiet_nil ?_; refine NoPanic.normal ?_
     go_wp2
     go_ret2
     exact ⟨by rw [hs'.out]; rfl, HF6.out⟩
  ·have d0 : ((nb : Int) == 0) = false := by simp [h0]
   have hs' : Hid (doF t op a b = (normF t bn, 0)) := Lib.hid (by rw [hs.out, if_neg (by simp [h0])])
   have HP : Hid ((k = .quo ∨ k = .rem) → nb ≠ 0 ∧ (t.2 = true → intF t nb ≠ 0)) := Lib.hid fun hk => ⟨h0, HZ.out h0⟩
   clear hs h0 hbn
   go_enter Tryz.func66, Tryz.ntmps66
   go_wp2_with fail
   refine (HR.out _ hF.out).mono ?_
   rintro e w1 ⟨rfl, hf1⟩
   have HB1 := Lib.hid (HB0.out.frm0 hf1)
   obtain ⟨c0, c1⟩ := HB1.out.cells
   have HF1 := Lib.hid (frm_then hF.out hf1)
   clear hf1
   go_wp2_with fail
   refine (ops_calls _ t).mono ?_
   rintro e w2 ⟨d, rfl, hm2, hf2, hbx⟩
   have HB2 := Lib.hid (HB1.out.frm0 hf2)
   obtain ⟨c2, c3⟩ := HB2.out.cells
   have HBX2 := Lib.hid hbx
   have HF2 := Lib.hid (frm_then HF1.out hf2)
   have hlk := lookup_run keyStr Tryz.underlying127 zeroF hm2 op true
   simp only [if_true, mval, ← getF_eq, HG.out, Option.map_some, Option.map_none, Option.getD_some, Option.getD_none, Option.isSome_some, Option.isSome_none, evB] at hlk
   clear hf2 hm2 hbx
   go_wp2
   refine Plan.wp_region_plan [0, 0, 3, 0, 0, 31, 63, 127] [.mk [0, 1, 3, 4] 2 [3, 4], .mk [] 5 []] [6, 7] (by kernel_rfl) (by kernel_rfl) ?_
   simp only [Plan.wayOf, Plan.pickAll, List.getElem?_cons_zero, List.getElem?_cons_succ, List.getD_eq_getElem?_getD, Option.getD_some]
   refine Plan.wpWay_seg ?_
   repeat go_big_quiet_step (fail)
   refine wpQuiet_nil ?_; refine Plan.wpWay_act ?_
   go_wp2_with fail
   refine (HK.out _ HF2.out.drew).mono ?_
   rintro e w3 ⟨rfl, hf3⟩
   have HB3 := Lib.hid (Box.frm0 (w := w2.drew) (show Box w2.drew _ _ from HB2.out) hf3)
   have HBX3 := Lib.hid (Box.frm0 (w := w2.drew) (show Box w2.drew _ _ from HBX2.out) hf3)
   obtain ⟨c4, c5⟩ := HB3.out.cells
   have HF3 := Lib.hid (frm_then HF2.out.drew hf3)
   clear hf3
   go_wp2_with fail
   refine And.intro ?_ ?_; focus ((iterate 2 (refine Plan.again_cons ?_ ?_; focus (go_big_quiet_step (fail); exact wpQuiet_nil rfl))); exact Plan.again_nil)
   refine Plan.wpWay_seg ?_
   refine wpQuiet_nil ?_; refine Plan.wpWay_act ?_
   go_wp2_with fail
   refine (HL.out _ HF3.out).mono ?_
   rintro e w4 ⟨rfl, hf4⟩
   have HB4 := Lib.hid (HB3.out.frm0 hf4)
   have HBX4 := Lib.hid (HBX3.out.frm0 hf4)
   obtain ⟨c6, c7⟩ := HB4.out.cells
   have HF4 := Lib.hid (frm_then HF3.out hf4)
   clear hf4
   go_wp2_with fail
   refine And.intro Plan.again_nil ?_
   refine Plan.wpWay_last ?_
   repeat go_big_quiet_step (fail)
   refine wpQuiet_nil ?_; refine NoPanic.normal ?_
   go_wp2
   refine Plan.wp_region_plan [0, 0, 0, 0, 14, 31, 63, 127] [.mk [0, 1, 2, 3] 4 [0], .mk [] 5 []] [6, 7] (by kernel_rfl) (by kernel_rfl) ?_
   simp only [Plan.wayOf, Plan.pickAll, List.getElem?_cons_zero, List.getElem?_cons_succ, List.getD_eq_getElem?_getD, Option.getD_some]
   refine Plan.wpWay_seg ?_
   repeat go_big_quiet_step (fail)
   refine wpQuiet_nil ?_; refine Plan.wpWay_act ?_
   go_wp2_with fail
   refine (HBIN.out _ _ HF4.out.drew HBX4.out HP.out).mono ?_
   rintro e w5 ⟨rfl, hf5⟩
   have HB5 := Lib.hid (Box.frm0 (w := w4.drew) (show Box w4.drew _ _ from HB4.out) hf5)
   obtain ⟨c8, c9⟩ := HB5.out.cells
   have HF5 := Lib.hid (frm_then HF4.out.drew hf5)
   clear hf5
   go_wp2_with fail
   refine And.intro ?_ ?_; focus ((iterate 1 (refine Plan.again_cons ?_ ?_; focus (go_big_quiet_step (fail); exact wpQuiet_nil rfl))); exact Plan.again_nil)
   refine Plan.wpWay_seg ?_
   refine wpQuiet_nil ?_; refine Plan.wpWay_act ?_
   go_wp2_with fail
   refine (HKN.out _ HF5.out).mono ?_
   rintro e w6 ⟨rfl, hf6⟩
   have HF6 := Lib.hid (frm_then HF5.out hf6)
   clear hf6
   go_wp2_with fail
   refine And.intro Plan.again_nil ?_
   refine Plan.wpWay_last ?_
   repeat go_big_quiet_step (fail)
   refine wpQuiet_nil ?_; refine NoPanic.normal ?_
   go_wp2
   go_ret2
   exact ⟨by rw [hs'.out]; rfl, HF6.out⟩
end TmW
end Go.Proofs.YtbbajekecppioaaGreatDoor
