/- The document's answer, walked: asks. -/
import Derived.Test.YtjajpdmmoiiojaaTabW2
namespace Go.Proofs.Ytjajpdmmoiiojaa
open Go.RowKit Go.Mem Go.Bdd
namespace TabW

theorem xor_bit_lt {n i v : Nat} (hi : i < 2 ^ n) (hv : v < n) : i ^^^ bit n v < 2 ^ n :=
  Nat.xor_lt_two_pow hi (by unfold bit; exact Nat.pow_lt_pow_right (by decide) (by omega))
theorem tat_get {t : List Bool} {i : Nat} (h : i < t.length) : t[i]? = some (tat t i) := by
  simp [tat, h]

theorem shift_bit {n v : Nat} (hn : n ≤ 60) (hv : v < n) : IntKind.i64.wrap (2 ^ min (IntKind.u64.wrap (IntKind.i64.wrap (IntKind.i64.wrap ((n : Int) - 1) - v))).toNat 64) = ((bit n v : Nat) : Int) := by
  have e1 : IntKind.i64.wrap ((n : Int) - 1) = ((n - 1 : Nat) : Int) := by
    rw [show ((n : Int) - 1) = ((n - 1 : Nat) : Int) by omega]; exact wrap_nat _ (by omega)
  have e2 : IntKind.i64.wrap (((n - 1 : Nat) : Int) - v) = ((n - 1 - v : Nat) : Int) := by
    rw [show (((n - 1 : Nat) : Int) - v) = ((n - 1 - v : Nat) : Int) by omega]; exact wrap_nat _ (by omega)
  have e3 : IntKind.u64.wrap ((n - 1 - v : Nat) : Int) = ((n - 1 - v : Nat) : Int) := by rw [IntKind.wrap_u64]; omega
  rw [e1, e2, e3, Int.toNat_natCast, Nat.min_eq_left (by omega)]
  have h60 : bit n v < 4611686018427387904 := by
    have h2 : 2 ^ (n - 1 - v) ≤ 2 ^ 60 := Nat.pow_le_pow_right (by omega) (by omega)
    have h3 : (2 : Nat) ^ 60 = 1152921504606846976 := by decide
    unfold bit; omega
  have := wrap_nat _ h60
  unfold bit at *
  simpa using this
theorem xor_bit {n v k : Nat} (hn : n ≤ 60) (hv : v < n) (hk : k < 2 ^ n) : bits .xor .i64 (k : Int) (IntKind.i64.wrap (2 ^ min (IntKind.u64.wrap (IntKind.i64.wrap (IntKind.i64.wrap ((n : Int) - 1) - v))).toNat 64)) = ((k ^^^ bit n v : Nat) : Int) := by
  rw [shift_bit hn hv]
  exact bits_xor_i64 _ _ (lt62 hn hk) (lt62 hn (by unfold bit; exact Nat.pow_lt_pow_right (by decide) (by omega)))

set_option maxRecDepth 100000 in
set_option maxHeartbeats 1000000 in
theorem asks_calls (w : World) (vt : Value) (t : List Bool) (n v : Nat) (hn : n ≤ 60) (hv : v < n) (ht : t.length = 2 ^ n) (hs : Sees w Value.bool vt t) :
    Calls Try.prog 54 #[vt, .int .i64 n, .int .i64 v] w fun e w' => e = .returned (.bool (asksF t n v)) ∧ Frm (fun _ => False) w w' := by
  obtain ⟨A, c, rfl, hc⟩ := sees_slice hs
  have Hc := Lib.hid hc
  have hl60 : t.length ≤ 1152921504606846976 := by
    have h2 : 2 ^ n ≤ 2 ^ 60 := Nat.pow_le_pow_right (by omega) hn
    have h3 : (2 : Nat) ^ 60 = 1152921504606846976 := by decide
    omega
  clear hc hs
  go_enter Try.func54, Try.ntmps54
  go_wp2
  go_loopw [7] (fun v7 w' => ∃ k : Nat, k ≤ t.length ∧ v7 = .int .i64 k ∧ Hid (∀ i < k, (tat t i != tat t (i ^^^ bit n v)) = false) ∧ Hid (Frm (fun _ => False) w w')) (fun v7 _ => t.length - (intOf v7).toNat)
  case atStart => exact ⟨0, Nat.zero_le _, rfl, Lib.hid fun i hi => by omega, Lib.hid (Frm.refl _ _)⟩
  case round =>
    obtain ⟨k, hk, rfl, HB, HF⟩ := hrel
    by_cases hlt : k < t.length
    · have hx := tat_get hlt
      have hxl : k ^^^ bit n v < t.length := by rw [ht]; exact xor_bit_lt (by omega) hv
      have hy := tat_get hxl
      obtain ⟨g, o, rfl, hcell⟩ := Hc.out k _ hx
      obtain ⟨g2, o2, e2, hcell2⟩ := Hc.out _ _ hy
      cases e2
      have hcell' := (World.cell?_of_block (w := w) (a := ⟨g, o + k, none⟩) (HF.out.block g (World.block_lt_of_cell? _ _ hcell) id)).trans hcell
      have hcell2' := (World.cell?_of_block (w := w) (a := ⟨g, o + (k ^^^ bit n v), none⟩) (HF.out.block g (World.block_lt_of_cell? _ _ hcell2) id)).trans hcell2
      have hX := xor_bit (n := n) (v := v) (k := k) hn hv (by omega)
      have hxl' : ((k ^^^ bit n v : Nat) : Int) < (t.length : Int) := by omega
      have Ht := Lib.hid ht
      clear hcell hcell2 hx hy ht
      generalize hX0 : tat t k = x at *
      generalize hY0 : tat t (k ^^^ bit n v) = y at *
      have HX0 := Lib.hid hX0
      have HY0 := Lib.hid hY0
      clear hX0 hY0
      cases hxy : (x == y) with
      | false =>
        have hxz : (!x == y) = true := by rw [hxy]; rfl
        have hfin := Lib.hid (show asksF t n v = true from by
          unfold asksF
          rw [List.any_eq_true]
          exact ⟨k, by simp; omega, by rw [HX0.out, HY0.out]; simpa [bne] using hxz⟩)
        go_wp2
        go_quiet (fail)
        go_wp2
        go_ret
        exact ⟨by rw [hfin.out]; rfl, HF.out.drewN _⟩
      | true =>
        have hxz : (!x == y) = false := by rw [hxy]; rfl
        have hfin := Lib.hid (show ∀ i < k + 1, (tat t i != tat t (i ^^^ bit n v)) = false from fun i hi => by
          by_cases e : i = k
          · subst e; rw [HX0.out, HY0.out]; simpa [bne] using hxz
          · exact HB.out i (by omega))
        go_wp2
        go_quiet (fail)
        go_wp2
        go_roundw
        case rel => exact ⟨k + 1, by omega, by go_num, hfin, Lib.hid (HF.out.drewN _)⟩
        case measure => simp [intOf]; omega
    · have hke : k = t.length := by omega
      have hfin := Lib.hid (show asksF t n v = false from by
        unfold asksF
        rw [List.any_eq_false]
        intro i hi
        have := HB.out i (by simpa [hke] using hi)
        simpa using this)
      clear hke ht
      go_wp2
      go_ret
      exact ⟨by rw [hfin.out]; rfl, HF.out⟩
end TabW
end Go.Proofs.Ytjajpdmmoiiojaa
