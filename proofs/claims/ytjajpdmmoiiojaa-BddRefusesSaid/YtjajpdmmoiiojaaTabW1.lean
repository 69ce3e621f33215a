/- The document's answer, walked: Same, Count, At, fit. -/
import Derived.Test.YtjajpdmmoiiojaaTabF
import Derived.Test.YtjajpdmmoiiojaaSl
import Derived.Test.YtjajpdmmoiiojaaBddW9
namespace Go.Proofs.Ytjajpdmmoiiojaa
open Go.RowKit Go.Mem Go.Bdd
namespace TabW

theorem sees_slice {α : Type} {w : World} {enc : α → Value} {v : Value} {xs : List α} (hv : Sees w enc v xs) : ∃ A c, v = .slice A xs.length c ∧ ∀ i x, xs[i]? = some x → ∃ g o, A = some ⟨g, o, none⟩ ∧ w.cell? ⟨g, o + i, none⟩ = some (enc x) := by
  rcases hv with ⟨rfl, rfl⟩ | ⟨g, o, c, rfl, _, _, h⟩
  · exact ⟨none, 0, rfl, fun i x h => by simp at h⟩
  · exact ⟨some ⟨g, o, none⟩, c, rfl, fun i x hx => ⟨g, o, rfl, h i x hx⟩⟩

theorem fit_calls (w : World) (v n : Int) (h0 : 0 < n) (hn : n < 4611686018427387904) (hv : -9223372036854775808 ≤ v ∧ v ≤ 9223372036854775807) :
    Calls Try.prog 48 #[.int .i64 v, .int .i64 n] w fun e w' => e = .returned (.int .i64 (fitF v n)) ∧ w = w' := by
  have hne : (n == 0) = false := by simp; omega
  have hne' : n ≠ 0 := by omega
  have he : (0 ≤ v.tmod n ∧ v.tmod n = fitF v n) ∨ (v.tmod n < 0 ∧ wrap64 (v.tmod n + n) = fitF v n) := by
    have h1 := Int.emod_nonneg v hne'
    have h2 := Int.emod_lt_of_pos v h0
    have h3 := Int.tmod_eq_emod (a := v) (b := n)
    have hab : (n.natAbs : Int) = n := by omega
    unfold fitF
    generalize v % n = q at *
    generalize v.tmod n = m at *
    split at h3
    · left; constructor <;> omega
    · right
      refine ⟨by omega, ?_⟩
      unfold wrap64
      omega
  have He := Lib.hid he
  clear he
  go_enter Try.func48, Try.ntmps48
  go_wp2
  · rename_i h
    rcases He.out with ⟨h1, _⟩ | ⟨_, h2⟩
    · exact absurd h (by omega)
    · go_ret
      exact ⟨by rw [h2]; rfl, rfl⟩
  · rename_i h
    rcases He.out with ⟨_, h2⟩ | ⟨h1, _⟩
    · go_ret
      exact ⟨by rw [h2]; rfl, rfl⟩
    · exact absurd h1 (by omega)

set_option maxHeartbeats 1000000 in
theorem Count_calls (v : Value) (t : List Bool) (w : World) (hv : Sees w Value.bool v t) :
    Calls Try.prog 16 #[v] w fun e w' => e = .returned (.int .u64 (countT t)) ∧ w = w' := by
  have hlen : (t.length : Int) ≤ 9223372036854775807 := by have := hv.len; have h : maxLen = 9223372036854775807 := rfl; omega
  obtain ⟨A, c, rfl, hc⟩ := sees_slice hv
  have Hc := Lib.hid hc
  clear hc hv
  go_enter Try.func16, Try.ntmps16
  go_wp2
  go_loop [3, 4] (fun v3 v4 => ∃ k : Nat, k ≤ t.length ∧ v4 = .int .i64 k ∧ v3 = .int .u64 (countT (t.take k))) (fun _ v4 => t.length - (intOf v4).toNat)
  case atStart => exact ⟨0, Nat.zero_le _, rfl, rfl⟩
  case round =>
    obtain ⟨k, hk, rfl, rfl⟩ := hrel
    have hcl : countT (t.take k) ≤ k := by
      have h1 : countT (t.take k) ≤ (t.take k).length := List.countP_le_length
      rw [List.length_take] at h1
      omega
    by_cases hlt : k < t.length
    · have hx : t[k]? = some t[k] := List.getElem?_eq_getElem hlt
      obtain ⟨g, o, rfl, hcell⟩ := Hc.out k _ hx
      have hst : countT (t.take (k + 1)) = countT (t.take k) + (t[k]).toNat := by
        show List.countP id _ = List.countP id _ + _; rw [List.take_add_one, hx, List.countP_append]; cases t[k] <;> rfl
      generalize t[k] = x at *
      cases x with
      | true =>
        have Hs := Lib.hid hst
        clear hst hx
        go_wp2
        go_round
        case rel => exact ⟨k + 1, by omega, by go_num, by rw [Hs.out]; show _ = Value.int .u64 ((countT (t.take k) + 1 : Nat) : Int); go_num⟩
        case measure => simp [intOf]; omega
      | false =>
        have Hs := Lib.hid hst
        clear hst hx
        go_wp2
        go_round
        case rel => exact ⟨k + 1, by omega, by go_num, by rw [Hs.out]; rfl⟩
        case measure => simp [intOf]; omega
    · have hke : k = t.length := by omega
      have hfin := Lib.hid (show countT (t.take k) = countT t by rw [hke, List.take_length])
      clear hke
      go_wp2
      go_ret
      exact ⟨by rw [hfin.out]; rfl, rfl⟩

theorem at_le : ∀ (l : List Bool) (a : Nat), l.foldl (fun a b => 2 * a + b.toNat) a + 1 ≤ (a + 1) * 2 ^ l.length
  | [], a => by simp
  | b :: r, a => by
    rw [List.foldl_cons, List.length_cons]
    refine Nat.le_trans (at_le r _) ?_
    rw [Nat.pow_succ, Nat.mul_comm (2 ^ r.length) 2, ← Nat.mul_assoc]
    refine Nat.mul_le_mul_right _ ?_
    cases b <;> simp <;> omega
theorem atF_lt (l : List Bool) : atF l < 2 ^ l.length := by have := at_le l 0; unfold atF; omega
theorem atF_take {t : List Bool} {k : Nat} {x : Bool} (hx : t[k]? = some x) : atF (t.take (k + 1)) = 2 * atF (t.take k) + x.toNat := by
  unfold atF
  rw [List.take_add_one, hx, List.foldl_append]
  rfl

set_option maxHeartbeats 1000000 in
theorem At_calls (v : Value) (t : List Bool) (w : World) (hv : Sees w Value.bool v t) (hl : t.length ≤ 60) :
    Calls Try.prog 17 #[v] w fun e w' => e = .returned (.int .i64 (atF t)) ∧ w = w' := by
  obtain ⟨A, c, rfl, hc⟩ := sees_slice hv
  have Hc := Lib.hid hc
  clear hc hv
  go_enter Try.func17, Try.ntmps17
  go_wp2
  go_loop [3, 4] (fun v3 v4 => ∃ k : Nat, k ≤ t.length ∧ v4 = .int .i64 k ∧ v3 = .int .i64 (atF (t.take k))) (fun _ v4 => t.length - (intOf v4).toNat)
  case atStart => exact ⟨0, Nat.zero_le _, rfl, rfl⟩
  case round =>
    obtain ⟨k, hk, rfl, rfl⟩ := hrel
    have hcl : atF (t.take k) < 1152921504606846976 := by
      have h1 := atF_lt (t.take k)
      have h2 : 2 ^ (t.take k).length ≤ 2 ^ 60 := Nat.pow_le_pow_right (by omega) (by rw [List.length_take]; omega)
      have h3 : (2 : Nat) ^ 60 = 1152921504606846976 := by decide
      omega
    by_cases hlt : k < t.length
    · have hx : t[k]? = some t[k] := List.getElem?_eq_getElem hlt
      obtain ⟨g, o, rfl, hcell⟩ := Hc.out k _ hx
      have hst := atF_take hx
      generalize t[k] = x at *
      generalize atF (t.take k) = a at *
      cases x with
      | true =>
        have Hs := Lib.hid hst
        clear hst hx
        go_wp2
        go_round
        case rel => exact ⟨k + 1, by omega, by go_num, by rw [Hs.out]; show _ = Value.int .i64 ((2 * a + 1 : Nat) : Int); go_num⟩
        case measure => simp [intOf]; omega
      | false =>
        have Hs := Lib.hid hst
        clear hst hx
        go_wp2
        go_round
        case rel => exact ⟨k + 1, by omega, by go_num, by rw [Hs.out]; show _ = Value.int .i64 ((2 * a + 0 : Nat) : Int); go_num⟩
        case measure => simp [intOf]; omega
    · have hke : k = t.length := by omega
      have hfin := Lib.hid (show atF (t.take k) = atF t by rw [hke, List.take_length])
      clear hke
      go_wp2
      go_ret
      exact ⟨by rw [hfin.out]; rfl, rfl⟩

set_option maxHeartbeats 1000000 in
theorem Same_calls (v u : Value) (s t : List Bool) (w : World) (hv : Sees w Value.bool v s) (hu : Sees w Value.bool u t) :
    Calls Try.prog 13 #[v, u] w fun e w' => e = .returned (.bool (decide (s = t))) ∧ Frm (fun _ => False) w w' := by
  have hlen : (s.length : Int) ≤ 9223372036854775807 := by have := hv.len; have h : maxLen = 9223372036854775807 := rfl; omega
  obtain ⟨A, c, rfl, hc⟩ := sees_slice hv
  obtain ⟨B, d, rfl, hd⟩ := sees_slice hu
  have Hc := Lib.hid hc
  have Hd := Lib.hid hd
  clear hc hv hd hu
  by_cases hl : s.length = t.length
  case neg =>
    have hfin := Lib.hid (show decide (s = t) = false by simp; intro e; exact hl (by rw [e]))
    have hb : ((s.length : Int) != (t.length : Int)) = true := by simp; omega
    clear hl
    go_enter Try.func13, Try.ntmps13
    go_wp2
    go_ret
    exact ⟨by rw [hfin.out]; rfl, Frm.refl _ _⟩
  case pos =>
    have hb : ((s.length : Int) != (t.length : Int)) = false := by simp; omega
    go_enter Try.func13, Try.ntmps13
    go_wp2
    go_loopw [5] (fun v5 w' => ∃ k : Nat, k ≤ s.length ∧ v5 = .int .i64 k ∧ Hid (s.take k = t.take k) ∧ Hid (Frm (fun _ => False) w w')) (fun v5 _ => s.length - (intOf v5).toNat)
    case atStart => exact ⟨0, Nat.zero_le _, rfl, Lib.hid rfl, Lib.hid (Frm.refl _ _)⟩
    case round =>
      obtain ⟨k, hk, rfl, HT, HF⟩ := hrel
      by_cases hlt : k < s.length
      · have hx : s[k]? = some s[k] := List.getElem?_eq_getElem hlt
        have hy : t[k]? = some (t[k]'(by omega)) := List.getElem?_eq_getElem (by omega)
        obtain ⟨g, o, rfl, hcell⟩ := Hc.out k _ hx
        obtain ⟨g2, o2, rfl, hcell2⟩ := Hd.out k _ hy
        have hcell' := (World.cell?_of_block (w := w) (a := ⟨g, o + k, none⟩) (HF.out.block g (World.block_lt_of_cell? _ _ hcell) id)).trans hcell
        have hcell2' := (World.cell?_of_block (w := w) (a := ⟨g2, o2 + k, none⟩) (HF.out.block g2 (World.block_lt_of_cell? _ _ hcell2) id)).trans hcell2
        have hlt' : (k : Int) < (t.length : Int) := by omega
        generalize s[k] = x at *
        generalize t[k]'(by omega) = y at *
        have Hx := Lib.hid hx
        have Hy := Lib.hid hy
        clear hcell hcell2 hx hy
        cases hxy : (x == y) with
        | false =>
          have hxz : (!x == y) = true := by rw [hxy]; rfl
          have hfin := Lib.hid (show decide (s = t) = false by simp; intro e; subst e; have := Hx.out.symm.trans Hy.out; simp_all)
          clear hl hb
          go_wp2
          go_quiet (fail)
          go_wp2
          go_ret
          exact ⟨by rw [hfin.out]; rfl, HF.out.drewN _⟩
        | true =>
          have hxz : (!x == y) = false := by rw [hxy]; rfl
          have hfin := Lib.hid (show s.take (k + 1) = t.take (k + 1) by rw [List.take_add_one, List.take_add_one, Hx.out, Hy.out, HT.out]; simp_all)
          clear hl hb
          go_wp2
          go_quiet (fail)
          go_wp2
          go_roundw
          case rel => exact ⟨k + 1, by omega, by go_num, hfin, Lib.hid (HF.out.drewN _)⟩
          case measure => simp [intOf]; omega
      · have hke : k = s.length := by omega
        have hfin := Lib.hid (show decide (s = t) = true by have := HT.out; rw [hke, List.take_length, hl, List.take_length] at this; simp [this])
        clear hke
        go_wp2
        go_ret
        exact ⟨by rw [hfin.out]; rfl, HF.out⟩
end TabW
end Go.Proofs.Ytjajpdmmoiiojaa
