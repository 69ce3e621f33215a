/- The document's answer, walked: exists. -/
import Derived.Test.YtjajpdmmoiiojaaTabW5
namespace Go.Bdd
theorem exist1_len (t : List Bool) (n v : Nat) : (exist1 t n v).length = t.length := by simp [exist1]
theorem exist1_get {t : List Bool} {n v i : Nat} (h : i < t.length) : (exist1 t n v)[i]? = some (tat t i || tat t (i ^^^ bit n v)) := by simp [exist1, h]
theorem existsT_len (n : Nat) : ∀ (vars : List Int) (t : List Bool), (existsT t n vars).length = t.length
  | [], t => rfl
  | v :: r, t => by
    show (existsT (exist1 t n v.toNat) n r).length = _
    rw [existsT_len n r, exist1_len]
theorem existsT_take {t : List Bool} {n k : Nat} {vars : List Int} {x : Int} (h : vars[k]? = some x) : existsT t n (vars.take (k + 1)) = exist1 (existsT t n (vars.take k)) n x.toNat := by
  unfold existsT
  rw [List.take_add_one, h, List.foldl_append]
  rfl
end Go.Bdd
namespace Go.Proofs.Ytjajpdmmoiiojaa
open Go.RowKit Go.Mem Go.Bdd
namespace TabW

theorem xor_bit2 {n v k : Nat} (hn : n ≤ 60) (hv : v < n) (hk : k < 2 ^ n) : bits .xor .i64 (k : Int) (wrap64 (2 ^ (n - 1 - v))) = ((k ^^^ bit n v : Nat) : Int) := by
  have h60 : bit n v < 4611686018427387904 := by
    have h2 : 2 ^ (n - 1 - v) ≤ 2 ^ 60 := Nat.pow_le_pow_right (by omega) (by omega)
    have h3 : (2 : Nat) ^ 60 = 1152921504606846976 := by decide
    unfold bit; omega
  have : wrap64 (2 ^ (n - 1 - v)) = ((bit n v : Nat) : Int) := by
    have e : (2 : Int) ^ (n - 1 - v) = ((bit n v : Nat) : Int) := by unfold bit; simp
    rw [e]; unfold wrap64; omega
  rw [this]
  exact bits_xor_i64 _ _ (lt62 hn hk) h60

set_option maxRecDepth 100000 in
set_option maxHeartbeats 2000000 in
theorem exists_calls (w : World) (vt vv : Value) (t : List Bool) (n : Nat) (vars : List Int) (hn : n ≤ 30) (ht : t.length = 2 ^ n) (hs : Sees w Value.bool vt t) (hv : Sees w (Value.int .i64) vv vars) (hvr : ∀ x ∈ vars, 0 ≤ x ∧ x < n) :
    Calls Try.prog 49 #[vt, .int .i64 n, vv] w fun e w' => ∃ v, e = .returned v ∧ Sees w' Value.bool v (existsT t n vars) ∧ Frm (fun _ => False) w w' ∧ ∀ g, InBlk v g → InBlk vt g ∨ w.heap.size ≤ g := by
  obtain ⟨i0, hi, hz0, hz1, hz2⟩ := info_parts BddW.info_bool
  obtain ⟨B, d, rfl, hd⟩ := sees_slice hv
  have h30 : t.length ≤ 1073741824 := by
    have h2 : 2 ^ n ≤ 2 ^ 30 := Nat.pow_le_pow_right (by omega) hn
    have h3 : (2 : Nat) ^ 30 = 1073741824 := by decide
    omega
  have hvl : (vars.length : Int) ≤ 9223372036854775807 := by have := hv.len; have h : maxLen = 9223372036854775807 := rfl; omega
  have Hs := Lib.hid hs
  have Hv := Lib.hid hv
  have Ht := Lib.hid ht
  have Hvr := Lib.hid hvr
  clear hd hs hv ht hvr
  go_enter Try.func49, Try.ntmps49
  go_wp2
  go_loopw [0, 7] (fun v0 v7 w' => ∃ k : Nat, k ≤ vars.length ∧ v7 = .int .i64 k ∧ Hid (Sees w' Value.bool v0 (existsT t n (vars.take k))) ∧ Hid (Frm (fun _ => False) w w') ∧ Hid (∀ g, InBlk v0 g → InBlk vt g ∨ w.heap.size ≤ g)) (fun _ v7 _ => vars.length - (intOf v7).toNat)
  case atStart => exact ⟨0, Nat.zero_le _, rfl, Hs, Lib.hid (Frm.refl _ _), Lib.hid fun g hg => .inl hg⟩
  case round =>
    obtain ⟨k, hk, rfl, HR, HF, Hown⟩ := hrel
    by_cases hlt : k < vars.length
    · obtain ⟨A, c, e0, _⟩ := sees_slice HR.out
      have hcl : (existsT t n (vars.take k)).length = t.length := existsT_len _ _ _
      rw [hcl] at e0
      subst e0
      have hx : vars[k]? = some vars[k] := List.getElem?_eq_getElem hlt
      have hxr := Hvr.out _ (List.getElem_mem hlt)
      have hstep := existsT_take (t := t) (n := n) hx
      generalize vars[k] = x at *
      obtain ⟨v, rfl⟩ := Int.eq_ofNat_of_zero_le hxr.1
      have hvn : v < n := by omega
      rw [Int.toNat_natCast] at hstep
      generalize existsT t n (vars.take k) = cur at *
      have Hcl := Lib.hid hcl
      have HLT := Lib.hid hlt
      have Hx := Lib.hid hx
      have Hstep := Lib.hid hstep
      clear hcl hx hxr hstep
      go_wp2
      go_loopw [8, 9] (fun v8 v9 w' => ∃ j : Nat, j ≤ t.length ∧ v9 = .int .i64 j ∧ Hid (Row w' 4 Value.bool v8 ((exist1 cur n v).take j)) ∧ Hid (Frm (fun _ => False) w w') ∧ Hid (Frm (fun _ => False) wr w') ∧ Hid (∀ g, v8.ownBlock = some g → wr.heap.size ≤ g)) (fun _ v9 _ => t.length - (intOf v9).toNat)
      case atStart => exact ⟨0, Nat.zero_le _, rfl, Lib.hid ⟨by simp, .inr ⟨wr.heap.size, 0, _, rfl, Nat.zero_le _, blk_new _, by simp⟩⟩, Lib.hid (HF.out.alloc _), Lib.hid ((Frm.refl _ _).alloc _), Lib.hid fun g hg => by cases hg; exact Nat.le_refl _⟩
      case round =>
        obtain ⟨j, hj, rfl, HR2, HF2, HF3, Hown2⟩ := hrel
        by_cases hjt : j < t.length
        · have HS2 := HR.out.frm HF3.out fun _ _ _ => id
          have HV2 := Hv.out.frm HF2.out fun _ _ _ => id
          obtain ⟨B2, d2, e2, hd2⟩ := sees_slice HV2
          cases e2
          obtain ⟨g2, o2, e2, hc2⟩ := hd2 k _ Hx.out
          cases e2
          obtain ⟨A3, d3, e3, hd3⟩ := sees_slice HS2
          rw [Hcl.out] at e3
          cases e3
          have hy := tat_get (t := cur) (i := j) (by rw [Hcl.out]; exact hjt)
          have hxl : j ^^^ bit n v < t.length := by rw [Ht.out] at hjt ⊢; exact xor_bit_lt hjt hvn
          have hy2 := tat_get (t := cur) (i := j ^^^ bit n v) (by rw [Hcl.out]; exact hxl)
          obtain ⟨g3, o3, e3, hc3⟩ := hd3 _ _ hy
          cases e3
          obtain ⟨g4, o4, e4, hc4⟩ := hd3 _ _ hy2
          cases e4
          have hget := exist1_get (t := cur) (n := n) (v := v) (i := j) (by rw [Hcl.out]; exact hjt)
          have htk : (exist1 cur n v).take (j + 1) = (exist1 cur n v).take j ++ [tat cur j || tat cur (j ^^^ bit n v)] := by rw [List.take_add_one, hget]; rfl
          have hlk : ((exist1 cur n v).take j).length = j := by rw [List.length_take, exist1_len, Hcl.out]; omega
          have hX := xor_bit2 (n := n) (v := v) (k := j) (by omega) hvn (by rw [← Ht.out]; exact hjt)
          have hxl' : ((j ^^^ bit n v : Nat) : Int) < (t.length : Int) := by omega
          generalize tat cur j = b1 at *
          generalize tat cur (j ^^^ bit n v) = b2 at *
          have Htk := Lib.hid htk
          have Hlk := Lib.hid hlk
          clear hd2 hd3 HS2 HV2 hy hy2 hget htk hlk
          cases b1 with
          | true =>
            go_wp2_with (first | (at_builtin; refine wpList_append_row rfl _ _ 33 rfl 4 i0 (.bool false) 1 Try.underlying33 hi hz0 hz1 hz2 rfl (enc := Value.bool) u8 ((exist1 cur n v).take j) rfl (HR2.out.frm0 ((Frm.refl _ _).alloc _)) ⟨wr.heap.size, 0, none⟩ 1 true rfl ?c1 rfl ?c2 ?c3 ?_) | go_in)
            case c1 => exact blk_cell (blk_new _) 0
            case c2 => rw [Hlk.out]; have : maxLen = 9223372036854775807 := rfl; omega
            case c3 => rw [Hlk.out]; omega
            intro g cap w7 hrow hfr hg hlt7
            have HR' := Lib.hid hrow
            have hwr2 := HF.out.size
            have HF' := Lib.hid ((HF2.out.alloc (.cells #[Value.bool true] 4)).trans hfr fun x hx h => by have := Hown2.out x h; omega)
            have HF'' := Lib.hid ((HF3.out.alloc (.cells #[Value.bool true] 4)).trans hfr fun x hx h => by have := Hown2.out x h; omega)
            have Hg := Lib.hid hg
            clear hrow hfr hg
            go_wp2
            go_roundw
            case rel => exact ⟨j + 1, by omega, by go_num, Lib.hid (by rw [Htk.out]; exact HR'.out), HF', HF'', Lib.hid fun g' hg' => by cases hg'; rcases Hg.out with h | h; exact Hown2.out _ h; have h3 := HF3.out.size; show _ ≤ g; omega⟩
            case measure => simp [intOf]; omega
          | false =>
            go_wp2_with (first | (at_builtin; refine wpList_append_row rfl _ _ 33 rfl 4 i0 (.bool false) 1 Try.underlying33 hi hz0 hz1 hz2 rfl (enc := Value.bool) u8 ((exist1 cur n v).take j) rfl (HR2.out.frm0 ((Frm.refl _ _).alloc _)) ⟨wr.heap.size, 0, none⟩ 1 b2 rfl ?c1 rfl ?c2 ?c3 ?_) | go_in)
            case c1 => exact blk_cell (blk_new _) 0
            case c2 => rw [Hlk.out]; have : maxLen = 9223372036854775807 := rfl; omega
            case c3 => rw [Hlk.out]; omega
            intro g cap w7 hrow hfr hg hlt7
            have HR' := Lib.hid hrow
            have hwr2 := HF.out.size
            have HF' := Lib.hid ((HF2.out.alloc (.cells #[Value.bool b2] 4)).trans hfr fun x hx h => by have := Hown2.out x h; omega)
            have HF'' := Lib.hid ((HF3.out.alloc (.cells #[Value.bool b2] 4)).trans hfr fun x hx h => by have := Hown2.out x h; omega)
            have Hg := Lib.hid hg
            clear hrow hfr hg
            go_wp2
            go_roundw
            case rel => exact ⟨j + 1, by omega, by go_num, Lib.hid (by rw [Htk.out]; exact HR'.out), HF', HF'', Lib.hid fun g' hg' => by cases hg'; rcases Hg.out with h | h; exact Hown2.out _ h; have h3 := HF3.out.size; show _ ≤ g; omega⟩
            case measure => simp [intOf]; omega
        · have hke : (exist1 cur n v).take j = exist1 cur n v := List.take_of_length_le (by rw [exist1_len, Hcl.out]; omega)
          have HE := Lib.hid hke
          have Hsz := Lib.hid HF.out.size
          clear hke
          go_wp2
          go_roundw
          case rel => exact ⟨k + 1, by have := HLT.out; omega, by go_num, Lib.hid (by rw [Hstep.out, ← HE.out]; exact HR2.out.sees), HF2, Lib.hid fun g hg => by
            right
            have := Hsz.out
            obtain ⟨o', n', c', e'⟩ := hg
            have h1 : u8.ownBlock = some g := by rw [e']; rfl
            have := Hown2.out g h1
            omega⟩
          case measure => have := HLT.out; simp [intOf]; omega
    · have hke : vars.take k = vars := List.take_of_length_le (by omega)
      have HE := Lib.hid (show existsT t n (vars.take k) = existsT t n vars by rw [hke])
      clear hke
      go_wp2
      go_ret
      exact ⟨_, rfl, by rw [← HE.out]; exact HR.out, HF.out, Hown.out⟩
end TabW
end Go.Proofs.Ytjajpdmmoiiojaa
