/- The document's answer, walked: Way, asks. -/
import Derived.Test.YtjajpdmmoiiojaaTabW1
import Derived.Test.YtjajpdmmoiiojaaApp
import Derived.Test.YtjajpdmmoiiojaaBits
import Derived.Test.YtjajpdmmoiiojaaBddW10
namespace Go.Proofs.Ytjajpdmmoiiojaa
open Go.RowKit Go.Mem Go.Bdd
namespace TabW

theorem wayF_len (n i : Nat) : (wayF n i).length = n := by simp [wayF]
theorem wayF_get {n i k : Nat} (h : k < n) : (wayF n i)[k]? = some (i.testBit (n - 1 - k)) := by simp [wayF, h]
theorem lt62 {n i : Nat} (hn : n ≤ 60) (hi : i < 2 ^ n) : i < 4611686018427387904 := by
  have h2 : 2 ^ n ≤ 2 ^ 60 := Nat.pow_le_pow_right (by omega) hn
  have h3 : (2 : Nat) ^ 60 = 1152921504606846976 := by decide
  omega

set_option maxRecDepth 100000 in
set_option maxHeartbeats 1000000 in
theorem Way_calls (w : World) (n i : Nat) (hn : n ≤ 60) (hin : i < 2 ^ n) :
    Calls Try.prog 27 #[.int .i64 n, .int .i64 i] w fun e w' => ∃ v, e = .returned v ∧ Row w' 4 Value.bool v (wayF n i) ∧ Frm (fun _ => False) w w' ∧ ∀ g, v.ownBlock = some g → w.heap.size ≤ g := by
  obtain ⟨i0, hi, hz0, hz1, hz2⟩ := info_parts BddW.info_bool
  have hi62 := lt62 hn hin
  go_enter Try.func27, Try.ntmps27
  go_wp2
  go_loopw [5, 6] (fun v5 v6 w' => ∃ k : Nat, k ≤ n ∧ v6 = .int .i64 k ∧ Hid (Row w' 4 Value.bool v5 ((wayF n i).take k)) ∧ Hid (Frm (fun _ => False) w w') ∧ ∀ g, v5.ownBlock = some g → w.heap.size ≤ g) (fun _ v6 _ => n - (intOf v6).toNat)
  case atStart => exact ⟨0, Nat.zero_le _, rfl, Lib.hid ⟨by simp, .inr ⟨w.heap.size, 0, _, rfl, Nat.zero_le _, blk_new _, by simp⟩⟩, Lib.hid ((Frm.refl _ _).alloc _), fun g hg => by cases hg; exact Nat.le_refl _⟩
  case round =>
    obtain ⟨k, hk, rfl, HR, HF, hown⟩ := hrel
    by_cases hlt : k < n
    · have hb := test_bit i (n - 1 - k) hi62
      have htk : (wayF n i).take (k + 1) = (wayF n i).take k ++ [i.testBit (n - 1 - k)] := by rw [List.take_add_one, wayF_get hlt]; rfl
      have hl : ((wayF n i).take k).length = k := by rw [List.length_take, wayF_len]; omega
      have Hb := Lib.hid hb
      have Ht := Lib.hid htk
      have Ho := Lib.hid hown
      have Hl := Lib.hid hl
      clear hb htk hown hl
      go_wp2_with (first | (at_builtin; refine wpList_append_row rfl _ _ 33 rfl 4 i0 (.bool false) 1 Try.underlying33 hi hz0 hz1 hz2 rfl (enc := Value.bool) u5 ((wayF n i).take k) rfl (HR.out.frm0 ((Frm.refl _ _).alloc _)) ⟨wr.heap.size, 0, none⟩ 1 (i.testBit (n - 1 - k)) rfl ?c1 rfl ?c2 ?c3 ?_) | go_in)
      case c1 => rw [Hb.out]; exact blk_cell (blk_new _) 0
      case c2 => rw [Hl.out]; have : maxLen = 9223372036854775807 := rfl; omega
      case c3 => rw [Hl.out]; omega
      intro g cap w7 hrow hfr hg hlt7
      have HR' := Lib.hid hrow
      have HF' := Lib.hid (((HF.out.alloc (.cells #[Value.bool (bits BinOp.and IntKind.i64 (↑i / 2 ^ (n - 1 - k)) 1 == 1)] 4)).trans hfr fun x hx h => by have := Ho.out x h; omega))
      have Hg := Lib.hid (show w.heap.size ≤ g by rcases hg with h | h; exact Ho.out g h; rw [h]; have := HF.out.size; simp; omega)
      clear hrow hfr hg
      go_wp2
      go_roundw
      case rel => exact ⟨k + 1, by omega, by go_num, Lib.hid (by rw [Ht.out]; exact HR'.out), HF', fun g' hg' => by cases hg'; exact Hg.out⟩
      case measure => simp [intOf]; omega
    · have hke : (wayF n i).take k = wayF n i := List.take_of_length_le (by rw [wayF_len]; omega)
      have HE := Lib.hid hke
      have Ho := Lib.hid hown
      clear hke hown
      go_wp2
      go_ret
      exact ⟨_, rfl, by rw [← HE.out]; exact HR.out, HF.out, Ho.out⟩
end TabW
end Go.Proofs.Ytjajpdmmoiiojaa
