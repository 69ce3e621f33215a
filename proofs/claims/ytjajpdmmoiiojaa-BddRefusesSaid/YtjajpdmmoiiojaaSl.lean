/- Package slices at whole numbers, walked: Index, Contains, IndexFunc, ContainsFunc. -/
import Derived.Test.YtjajpdmmoiiojaaProg
import Derived.Test.YtjajpdmmoiiojaaMem
import Derived.BigQuiet
import Derived.Lib.Hide
namespace Go.Proofs.Ytjajpdmmoiiojaa
open Go.RowKit Go.Mem
namespace Sl

/-- The first index at which q is true; below 0: none. -/
def idx {α : Type} (q : α → Bool) (xs : List α) : Int := match xs.findIdx? q with | some i => i | none => -1
theorem idx_any {α : Type} (q : α → Bool) (xs : List α) : decide (idx q xs ≥ 0) = xs.any q := by
  unfold idx
  cases h : xs.findIdx? q with
  | none =>
    have := List.findIdx?_eq_none_iff.1 h
    simp only [ge_iff_le, show ¬ ((0 : Int) ≤ -1) from by decide, decide_false]
    symm
    simpa using this
  | some i =>
    have := (List.findIdx?_eq_some_iff_findIdx_eq.1 h)
    simp only [ge_iff_le, Int.natCast_nonneg, decide_true]
    symm
    rw [List.any_eq_true]
    have h2 := List.findIdx?_eq_some_iff_getElem.1 h
    obtain ⟨hi, hq, _⟩ := h2
    exact ⟨xs[i], List.getElem_mem hi, hq⟩
theorem idx_hit {α : Type} {q : α → Bool} {xs : List α} {k : Nat} {x : α} (hx : xs[k]? = some x) (hq : q x = true) (hb : ∀ j y, j < k → xs[j]? = some y → q y = false) : idx q xs = k := by
  have hk := (List.getElem?_eq_some_iff.1 hx)
  obtain ⟨hk, rfl⟩ := hk
  have : xs.findIdx? q = some k := List.findIdx?_eq_some_iff_getElem.2 ⟨hk, hq, fun j hj => by have := hb j _ hj (List.getElem?_eq_getElem (by omega)); simp [this]⟩
  unfold idx
  rw [this]
theorem idx_miss {α : Type} {q : α → Bool} {xs : List α} (hb : ∀ j y, j < xs.length → xs[j]? = some y → q y = false) : idx q xs = -1 := by
  have : xs.findIdx? q = none := List.findIdx?_eq_none_iff.2 fun x hx => by
    obtain ⟨i, hi, rfl⟩ := List.getElem_of_mem hx
    exact hb i _ hi (List.getElem?_eq_getElem hi)
  unfold idx
  rw [this]

def Before {α : Type} (q : α → Bool) (xs : List α) (k : Nat) : Prop := ∀ j y, j < k → xs[j]? = some y → q y = false
theorem Before.zero {α : Type} (q : α → Bool) (xs : List α) : Before q xs 0 := fun j y h => by omega
theorem Before.succ {α : Type} {q : α → Bool} {xs : List α} {k : Nat} {x : α} (h : Before q xs k) (hx : xs[k]? = some x) (hq : q x = false) : Before q xs (k + 1) := fun j y hj hy => by
  by_cases e : j = k
  · subst e; rw [hx] at hy; cases hy; exact hq
  · exact h j y (by omega) hy

set_option maxHeartbeats 1000000 in
theorem indexFunc_calls (fid : FuncId) (cap : Array Value) (q : Int → Bool) (v : Value) (xs : List Int) (w : World) (hv : Sees w (Value.int .i64) v xs)
    (hcf : ∀ (x : Int) (w : World), (callFunc fid (#[.int .i64 x] ++ cap)).run Try.prog w = .ok (.enter fid (#[.int .i64 x] ++ cap)) w)
    (hq : ∀ x : Int, Calls Try.prog fid (#[.int .i64 x] ++ cap) w fun e w' => e = .returned (.bool (q x)) ∧ w = w') :
    Calls Try.prog 56 #[v, .func (.func fid) #[] cap] w fun e w' => e = .returned (.int .i64 (idx q xs)) ∧ w = w' := by
  have Hq := Lib.hid hq
  clear hq
  have hlen : (xs.length : Int) ≤ 9223372036854775807 := by have := hv.len; have h : maxLen = 9223372036854775807 := rfl; omega
  obtain ⟨A, c, rfl, hc⟩ : ∃ A c, v = .slice A xs.length c ∧ ∀ i x, xs[i]? = some x → ∃ g o, A = some ⟨g, o, none⟩ ∧ w.cell? ⟨g, o + i, none⟩ = some (.int .i64 x) := by
    rcases hv with ⟨rfl, rfl⟩ | ⟨g, o, c, rfl, _, _, h⟩
    · exact ⟨none, 0, rfl, fun i x h => by simp at h⟩
    · exact ⟨some ⟨g, o, none⟩, c, rfl, fun i x hx => ⟨g, o, rfl, h i x hx⟩⟩
  have Hc := Lib.hid hc
  clear hc hv
  go_enter Try.func56, Try.ntmps56
  go_wp2
  go_loop [5, 8] (fun _ v8 => ∃ k : Nat, k ≤ xs.length ∧ v8 = .int .i64 k ∧ Before q xs k) (fun _ v8 => xs.length - (intOf v8).toNat)
  case atStart => exact ⟨0, Nat.zero_le _, rfl, .zero _ _⟩
  case round =>
    obtain ⟨k, hk, rfl, hB⟩ := hrel
    by_cases hlt : k < xs.length
    · have hx : xs[k]? = some xs[k] := List.getElem?_eq_getElem hlt
      obtain ⟨g, o, rfl, hcell⟩ := Hc.out k _ hx
      generalize xs[k] = x at *
      have Hx := Lib.hid hx
      clear hx
      have HB := Lib.hid hB
      clear hB
      go_wp2_with fail
      refine (Hq.out x).mono ?_
      cases hqx : q x with
      | true =>
        rintro e w' ⟨rfl, rfl⟩
        have hfin := Lib.hid (idx_hit Hx.out hqx HB.out)
        clear hqx
        go_wp2
        go_ret
        exact ⟨by rw [hfin.out]; rfl, rfl⟩
      | false =>
        rintro e w' ⟨rfl, rfl⟩
        have hfin := Lib.hid (HB.out.succ Hx.out hqx)
        clear hqx
        go_wp2
        go_round
        case rel => exact ⟨k + 1, by omega, by go_num, hfin.out⟩
        case measure => simp [intOf]; omega
    · have hke : k = xs.length := by omega
      have hfin := Lib.hid (idx_miss (q := q) (xs := xs) (by rw [← hke]; exact hB))
      clear hke
      have HB := Lib.hid hB
      clear hB
      go_wp2
      go_ret
      exact ⟨by rw [hfin.out]; rfl, rfl⟩

theorem containsFunc_calls (fid : FuncId) (cap : Array Value) (q : Int → Bool) (v : Value) (xs : List Int) (w : World) (hv : Sees w (Value.int .i64) v xs)
    (hcf : ∀ (x : Int) (w : World), (callFunc fid (#[.int .i64 x] ++ cap)).run Try.prog w = .ok (.enter fid (#[.int .i64 x] ++ cap)) w)
    (hq : ∀ x : Int, Calls Try.prog fid (#[.int .i64 x] ++ cap) w fun e w' => e = .returned (.bool (q x)) ∧ w = w') :
    Calls Try.prog 39 #[v, .func (.func fid) #[] cap] w fun e w' => e = .returned (.bool (xs.any q)) ∧ w = w' := by
  have Hi := Lib.hid (indexFunc_calls fid cap q v xs w hv hcf hq)
  have hfin := Lib.hid (idx_any q xs)
  clear hv hcf hq
  generalize idx q xs = r at *
  go_enter Try.func39, Try.ntmps39
  go_wp2_with fail
  refine Hi.out.mono ?_
  rintro e w' ⟨rfl, rfl⟩
  go_wp2
  go_ret
  exact ⟨by rw [← hfin.out]; rfl, rfl⟩

set_option maxHeartbeats 1000000 in
theorem index_calls (v : Value) (xs : List Int) (x : Int) (w : World) (hv : Sees w (Value.int .i64) v xs) :
    Calls Try.prog 57 #[v, .int .i64 x] w fun e w' => e = .returned (.int .i64 (idx (fun y => x == y) xs)) ∧ w = w' := by
  have hlen : (xs.length : Int) ≤ 9223372036854775807 := by have := hv.len; have h : maxLen = 9223372036854775807 := rfl; omega
  obtain ⟨A, c, rfl, hc⟩ : ∃ A c, v = .slice A xs.length c ∧ ∀ i x, xs[i]? = some x → ∃ g o, A = some ⟨g, o, none⟩ ∧ w.cell? ⟨g, o + i, none⟩ = some (.int .i64 x) := by
    rcases hv with ⟨rfl, rfl⟩ | ⟨g, o, c, rfl, _, _, h⟩
    · exact ⟨none, 0, rfl, fun i x h => by simp at h⟩
    · exact ⟨some ⟨g, o, none⟩, c, rfl, fun i x hx => ⟨g, o, rfl, h i x hx⟩⟩
  have Hc := Lib.hid hc
  clear hc hv
  go_enter Try.func57, Try.ntmps57
  go_wp2
  go_loop [5, 8] (fun _ v8 => ∃ k : Nat, k ≤ xs.length ∧ v8 = .int .i64 k ∧ Before (fun y => x == y) xs k) (fun _ v8 => xs.length - (intOf v8).toNat)
  case atStart => exact ⟨0, Nat.zero_le _, rfl, .zero _ _⟩
  case round =>
    obtain ⟨k, hk, rfl, hB⟩ := hrel
    have HB := Lib.hid hB
    clear hB
    by_cases hlt : k < xs.length
    · have hx : xs[k]? = some xs[k] := List.getElem?_eq_getElem hlt
      obtain ⟨g, o, rfl, hcell⟩ := Hc.out k _ hx
      generalize xs[k] = y at *
      have Hx := Lib.hid hx
      clear hx
      cases hqx : (x == y) with
      | true =>
        have hfin := Lib.hid (idx_hit (q := fun y => x == y) Hx.out hqx HB.out)
        go_wp2
        go_ret
        exact ⟨by rw [hfin.out]; rfl, rfl⟩
      | false =>
        have hfin := Lib.hid (HB.out.succ Hx.out hqx)
        go_wp2
        go_round
        case rel => exact ⟨k + 1, by omega, by go_num, hfin.out⟩
        case measure => simp [intOf]; omega
    · have hke : k = xs.length := by omega
      have hfin := Lib.hid (idx_miss (q := fun y => x == y) (xs := xs) (by rw [← hke]; exact HB.out))
      clear hke
      go_wp2
      go_ret
      exact ⟨by rw [hfin.out]; rfl, rfl⟩

theorem contains_calls (v : Value) (xs : List Int) (x : Int) (w : World) (hv : Sees w (Value.int .i64) v xs) :
    Calls Try.prog 43 #[v, .int .i64 x] w fun e w' => e = .returned (.bool (decide (x ∈ xs))) ∧ w = w' := by
  have Hi := Lib.hid (index_calls v xs x w hv)
  have hfin : decide (idx (fun y => x == y) xs ≥ 0) = decide (x ∈ xs) := by
    rw [idx_any, Bool.eq_iff_iff, List.any_eq_true]
    simp
  have hfin := Lib.hid hfin
  clear hv
  generalize idx (fun y => x == y) xs = r at *
  go_enter Try.func43, Try.ntmps43
  go_wp2_with fail
  refine Hi.out.mono ?_
  rintro e w' ⟨rfl, rfl⟩
  go_wp2
  go_ret
  exact ⟨by rw [← hfin.out]; rfl, rfl⟩
end Sl
end Go.Proofs.Ytjajpdmmoiiojaa
