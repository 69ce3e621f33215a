/- The document's answer, walked: rename. -/
import Derived.Test.YtjajpdmmoiiojaaTabW4
namespace Go.Bdd
theorem wayF_len (n i : Nat) : (wayF n i).length = n := by simp [wayF]
/-- The old way, as far as it is filled. -/
def oldL (t : List Bool) (n : Nat) (to : List Int) (i j : Nat) : List Bool := (List.range n).map fun v => decide (v < j) && (asksF t n v && tat (wayF n i) (toAt to v).toNat)
theorem oldL_len (t : List Bool) (n : Nat) (to : List Int) (i j : Nat) : (oldL t n to i j).length = n := by simp [oldL]
theorem oldL_zero (t : List Bool) (n : Nat) (to : List Int) (i : Nat) : oldL t n to i 0 = wayF n 0 := by
  unfold oldL wayF
  refine List.map_congr_left fun v _ => ?_
  simp
theorem oldL_all (t : List Bool) (n : Nat) (to : List Int) (i : Nat) : oldL t n to i n = oldWay t n to i := by
  unfold oldL oldWay
  refine List.map_congr_left fun v hv => ?_
  have : v < n := by simpa using hv
  simp [this]
theorem oldL_skip {t : List Bool} {n : Nat} {to : List Int} {i j : Nat} (h : asksF t n j = false) : oldL t n to i (j + 1) = oldL t n to i j := by
  unfold oldL
  refine List.map_congr_left fun v _ => ?_
  by_cases e : v = j
  · subst e; simp [h]
  · have : (v < j + 1) ↔ (v < j) := by omega
    simp [this]
theorem oldL_set {t : List Bool} {n : Nat} {to : List Int} {i j : Nat} (h : asksF t n j = true) : (oldL t n to i j).set j (tat (wayF n i) (toAt to j).toNat) = oldL t n to i (j + 1) := by
  apply List.ext_getElem
  · simp [oldL]
  · intro v h1 h2
    rw [List.getElem_set]
    by_cases e : j = v
    · subst e; simp [oldL, h]
    · have : (v < j + 1) ↔ (v < j) := by omega
      simp [oldL, e, this]
theorem renameT_len (t : List Bool) (n : Nat) (to : List Int) : (renameT t n to).length = t.length := by simp [renameT]
theorem renameT_get {t : List Bool} {n : Nat} {to : List Int} {i : Nat} (h : i < t.length) : (renameT t n to)[i]? = some (tat t (atF (oldWay t n to i))) := by simp [renameT, h]
end Go.Bdd
namespace Go.Proofs.Ytjajpdmmoiiojaa
open Go.RowKit Go.Mem Go.Bdd
namespace TabW

theorem old_lt (t : List Bool) (n : Nat) (to : List Int) (i : Nat) : atF (oldWay t n to i) < 2 ^ n := by
  have := atF_lt (oldWay t n to i)
  rw [← oldL_all, oldL_len] at *
  exact this

set_option maxRecDepth 100000 in
set_option maxHeartbeats 2000000 in
theorem rename_calls (w : World) (vt vo : Value) (t : List Bool) (n : Nat) (to : List Int) (hn : n ≤ 30) (h0 : 0 < n) (ht : t.length = 2 ^ n) (hs : Sees w Value.bool vt t) (ho : Sees w (Value.int .i64) vo to) (hl : to.length = n)
    (hto : ∀ v < n, asksF t n v = true → 0 ≤ toAt to v ∧ toAt to v < n) :
    Calls Try.prog 50 #[vt, .int .i64 n, vo] w fun e w' => ∃ v, e = .returned v ∧ Row w' 4 Value.bool v (renameT t n to) ∧ Frm (fun _ => False) w w' ∧ ∀ g, v.ownBlock = some g → w.heap.size ≤ g := by
  obtain ⟨i0, hi, hz0, hz1, hz2⟩ := info_parts BddW.info_bool
  obtain ⟨A, c, rfl, hc⟩ := sees_slice hs
  have h30 : t.length ≤ 1073741824 := by
    have h2 : 2 ^ n ≤ 2 ^ 30 := Nat.pow_le_pow_right (by omega) hn
    have h3 : (2 : Nat) ^ 30 = 1073741824 := by decide
    omega
  obtain ⟨B, d, rfl, hd⟩ := sees_slice ho
  have Hs := Lib.hid hs
  have Ho := Lib.hid ho
  have Ht := Lib.hid ht
  have Hto := Lib.hid hto
  have Hl := Lib.hid hl
  clear hl hc hd hs ho ht hto
  go_enter Try.func50, Try.ntmps50
  go_wp2
  go_loopw [7, 8] (fun v7 v8 w' => ∃ k : Nat, k ≤ t.length ∧ v8 = .int .i64 k ∧ Hid (Row w' 4 Value.bool v7 ((renameT t n to).take k)) ∧ Hid (Frm (fun _ => False) w w') ∧ Hid (∀ g, v7.ownBlock = some g → w.heap.size ≤ g)) (fun _ v8 _ => t.length - (intOf v8).toNat)
  case atStart => exact ⟨0, Nat.zero_le _, rfl, Lib.hid ⟨by simp, .inr ⟨w.heap.size, 0, _, rfl, Nat.zero_le _, blk_new _, by simp⟩⟩, Lib.hid ((Frm.refl _ _).alloc _), Lib.hid fun g hg => by cases hg; exact Nat.le_refl _⟩
  case round =>
    obtain ⟨k, hk, rfl, HR, HF, Hown⟩ := hrel
    by_cases hlt : k < t.length
    · have Hw1 := Lib.hid (Way_calls wr n k (by omega) (by rw [← Ht.out]; exact hlt))
      go_wp2_with fail
      refine Hw1.out.mono ?_
      rintro e w1 ⟨vw, rfl, hrw, hfw, how⟩
      have HRW := Lib.hid hrw
      have HFW := Lib.hid hfw
      have Hw0 := Lib.hid (Way_calls w1 n 0 (by omega) (Nat.pow_pos (by decide)))
      clear hrw hfw how
      go_wp2_with fail
      refine Hw0.out.mono ?_
      rintro e w2 ⟨vold, rfl, hro, hfo, hoo⟩
      rw [← oldL_zero t n to k] at hro
      obtain ⟨gold, cold, rfl, hgo⟩ : ∃ g c, vold = .slice (some ⟨g, 0, none⟩) n c ∧ w1.heap.size ≤ g := by
        rcases hro.shape with ⟨_, e⟩ | ⟨g, c, e, h1, _⟩
        · have := oldL_len t n to k 0; rw [e] at this; simp at this; omega
        · rw [oldL_len] at e
          exact ⟨g, c, e, hoo g h1⟩
      have hgl : gold < w2.heap.size := hro.lt gold rfl
      have HRO := Lib.hid hro
      have HFO := Lib.hid hfo
      have HRW2 := Lib.hid (HRW.out.frm0 hfo)
      have HF2 := Lib.hid ((HF.out.trans HFW.out fun _ _ => id).trans hfo fun _ _ => id)
      have HR2 := Lib.hid (HR.out.frm0 (HFW.out.trans hfo fun _ _ => id))
      have hwg : w.heap.size ≤ gold := by have := HF.out.size; have := HFW.out.size; omega
      have Hrl := Lib.hid (show ∀ g, u7.ownBlock = some g → g < w1.heap.size from fun g hg => by have := HR.out.lt g hg; have := HFW.out.size; omega)
      have Hwl := Lib.hid (show ∀ g, vw.ownBlock = some g → g < w1.heap.size from fun g hg => HRW.out.lt g hg)
      have hk2 : k < 2 ^ n := by rw [← Ht.out]; exact hlt
      clear hro hfo hoo
      go_wp2
      go_loopw [11] (fun v11 w' => ∃ j : Nat, j ≤ n ∧ v11 = .int .i64 j ∧ Hid (Row w' 4 Value.bool (.slice (some ⟨gold, 0, none⟩) n cold) (oldL t n to k j)) ∧ Hid (Frm (fun b => b = gold) w2 w')) (fun v11 _ => n - (intOf v11).toNat)
      case atStart => exact ⟨0, Nat.zero_le _, rfl, HRO, Lib.hid (Frm.refl _ _)⟩
      case round =>
        obtain ⟨j, hj, rfl, HL, HG⟩ := hrel
        have HFw := Lib.hid (HF2.out.trans HG.out fun x hx e => by omega)
        have Hsw := Lib.hid (Hs.out.frm HFw.out fun _ _ _ => id)
        by_cases hjt : j < n
        · have Ha := Lib.hid (asks_calls wr _ t n j (by omega) hjt Ht.out Hsw.out)
          cases ha : asksF t n j with
          | false =>
            have hsk := Lib.hid (oldL_skip (to := to) (i := k) ha)
            rw [ha] at Ha
            clear ha
            go_wp2_with fail
            refine Ha.out.mono ?_
            rintro e w4 ⟨rfl, hf4⟩
            have HF4 := Lib.hid hf4
            clear hf4
            go_wp2
            go_roundw
            case rel => exact ⟨j + 1, by omega, by go_num, Lib.hid (by rw [hsk.out]; exact HL.out.frm0 HF4.out), Lib.hid (HG.out.trans HF4.out fun _ _ h => h.elim)⟩
            case measure => simp [intOf]; omega
          | true =>
            have hsk := Lib.hid (oldL_set (to := to) (i := k) ha)
            obtain ⟨b0, b1⟩ := Hto.out j hjt ha
            have hx := toAt_get (to := to) (v := j) (by have := Hl.out; omega)
            have hy := tat_get (t := wayF n k) (i := (toAt to j).toNat) (by rw [wayF_len]; omega)
            rw [ha] at Ha
            clear ha
            generalize hX0 : toAt to j = x at *
            clear hX0
            have HX := Lib.hid hx
            have HY := Lib.hid hy
            clear hx hy
            go_wp2_with fail
            refine Ha.out.mono ?_
            rintro e w4 ⟨rfl, hf4⟩
            have hFw4 : Frm (fun _ => False) w w4 := HFw.out.trans hf4 fun _ _ => id
            obtain ⟨A3, d3, e3, hd3⟩ := sees_slice (Ho.out.frm hFw4 fun _ _ _ => id)
            cases e3
            obtain ⟨g3, o3, e3, hc3⟩ := hd3 j x HX.out
            cases e3
            have hrw4 := (HRW2.out.frm HG.out fun g hg e => by have := Hwl.out g hg; omega).frm0 hf4
            obtain ⟨A4, d4, e4, hd4⟩ := sees_slice hrw4.sees
            cases e4
            obtain ⟨g4, o4, e4, hc4⟩ := hd4 x.toNat _ HY.out
            cases e4
            have hL4 := HL.out.frm0 hf4
            obtain ⟨y0, hy0⟩ : ∃ y0, (oldL t n to k j)[j]? = some y0 := ⟨_, List.getElem?_eq_getElem (by rw [oldL_len]; exact hjt)⟩
            obtain ⟨hc5, hz5⟩ := BddW.row_cell hL4 hy0
            have hset := row_set hL4 j (by rw [oldL_len]; exact hjt) (tat (wayF n k) x.toNat)
            rw [hsk.out] at hset
            have Hset := Lib.hid hset
            have hlw : x < ((wayF n k).length : Int) := by rw [wayF_len]; exact b1
            have hlo : (j : Int) < (to.length : Int) := by have := Hl.out; omega
            have HF4 := Lib.hid hf4
            have hgl4 : gold < w4.heap.size := hL4.lt gold rfl
            clear hf4 hFw4 hd3 hrw4 hd4 hL4 hy0 hset
            go_wp2
            go_roundw
            case rel => exact ⟨j + 1, by omega, by go_num, Hset, Lib.hid ((HG.out.trans HF4.out fun _ _ h => h.elim).set (p := ⟨gold, j, none⟩) (.inl rfl) _)⟩
            case measure => simp [intOf]; omega
        · have hjn : j = n := by omega
          subst hjn
          have hlo := HL.out
          rw [oldL_all] at hlo
          have hol : (oldWay t j to k).length = j := by rw [← oldL_all, oldL_len]
          have Hat := Lib.hid (At_calls _ _ wr hlo.sees (by rw [hol]; omega))
          have hat := old_lt t j to k
          rw [← Ht.out] at hat
          obtain ⟨A3, d3, e3, hd3⟩ := sees_slice Hsw.out
          cases e3
          obtain ⟨g3, o3, e3, hc3⟩ := hd3 _ _ (tat_get hat)
          cases e3
          have hR3 := HR2.out.frm HG.out fun g hg e => by have := Hrl.out g hg; omega
          have htk : (renameT t j to).take (k + 1) = (renameT t j to).take k ++ [tat t (atF (oldWay t j to k))] := by rw [List.take_add_one, renameT_get hlt]; rfl
          have hlk : ((renameT t j to).take k).length = k := by rw [List.length_take, renameT_len]; omega
          generalize atF (oldWay t j to k) = m at *
          generalize hB0 : tat t m = b at *
          have HR3 := Lib.hid hR3
          have Htk := Lib.hid htk
          have Hlk := Lib.hid hlk
          have HFz := Lib.hid (HFw.out)
          have hml : (m : Int) < (t.length : Int) := by omega
          clear hlo hol hd3 hR3 htk hlk hB0 hjt
          go_wp2_with fail
          refine Hat.out.mono ?_
          rintro e w4 ⟨rfl, rfl⟩
          go_wp2_with (first | (at_builtin; refine wpList_append_row rfl _ _ 33 rfl 4 i0 (.bool false) 1 Try.underlying33 hi hz0 hz1 hz2 rfl (enc := Value.bool) u7 ((renameT t j to).take k) rfl (HR3.out.frm0 ((Frm.refl _ _).alloc _)) ⟨wr.heap.size, 0, none⟩ 1 b rfl ?c1 rfl ?c2 ?c3 ?_) | go_in)
          case c1 => exact blk_cell (blk_new _) 0
          case c2 => rw [Hlk.out]; have : maxLen = 9223372036854775807 := rfl; omega
          case c3 => rw [Hlk.out]; omega
          intro g cap w7 hrow hfr hg hlt7
          have HR' := Lib.hid hrow
          have HF' := Lib.hid ((HFz.out.alloc (.cells #[Value.bool b] 4)).trans hfr fun x hx h => by have := Hown.out x h; omega)
          have Hg := Lib.hid (show w.heap.size ≤ g by rcases hg with h | h; exact Hown.out g h; rw [h]; have := HFz.out.size; simp; omega)
          clear hrow hfr hg
          go_wp2
          go_roundw
          case rel => exact ⟨k + 1, by omega, by go_num, Lib.hid (by rw [Htk.out]; exact HR'.out), HF', Lib.hid fun g' hg' => by cases hg'; exact Hg.out⟩
          case measure => simp [intOf]; omega
    · have hke : (renameT t n to).take k = renameT t n to := List.take_of_length_le (by rw [renameT_len]; omega)
      have HE := Lib.hid hke
      clear hke
      go_wp2
      go_ret
      exact ⟨_, rfl, by rw [← HE.out]; exact HR.out, HF.out, Hown.out⟩
end TabW
end Go.Proofs.Ytjajpdmmoiiojaa
