/- The document's arithmetic, bit by bit, and that it comes to package word's. No program in sight. -/
import Derived.Test.YtbbajekecppioaaGreatDoorGa02
set_option linter.unusedSimpArgs false
set_option linter.unusedVariables false
namespace Go.Wd
def bitsF (v n : Nat) : List Bool := (List.range n).map fun i => v.testBit i
def valF : List Bool → Nat
  | [] => 0
  | b :: l => 2 * valF l + b.toNat
theorem bits_len (v n : Nat) : (bitsF v n).length = n := by simp [bitsF]
theorem bits_succ (v n : Nat) : bitsF v (n + 1) = bitsF v n ++ [v.testBit n] := by simp [bitsF, List.range_succ]
theorem bits_get {v n i : Nat} (h : i < n) : (bitsF v n)[i]? = some (v.testBit i) := by simp [bitsF, h]
theorem bits_getD (v n i : Nat) : (bitsF v n).getD i false = (decide (i < n) && v.testBit i) := by
  rw [List.getD_eq_getElem?_getD]
  by_cases h : i < n
  · rw [bits_get h]; simp [h]
  · rw [List.getElem?_eq_none (by rw [bits_len]; omega)]; simp [h]
theorem val_testBit : ∀ (l : List Bool) (i : Nat), (valF l).testBit i = l.getD i false
  | [], i => by simp [valF]
  | b :: l, 0 => by
    rw [Nat.testBit_zero, valF]
    cases b <;> simp
  | b :: l, i + 1 => by
    rw [Nat.testBit_succ, valF, show (2 * valF l + b.toNat) / 2 = valF l by cases b <;> simp <;> omega, val_testBit l i]
    rfl
theorem val_lt : ∀ l : List Bool, valF l < 2 ^ l.length
  | [] => by simp [valF]
  | b :: l => by
    have := val_lt l
    rw [List.length_cons, Nat.pow_succ, valF]
    cases b <;> simp <;> omega
theorem val_bits (v n : Nat) : valF (bitsF v n) = v % 2 ^ n := by
  apply Nat.eq_of_testBit_eq
  intro i
  rw [val_testBit, bits_getD, Nat.testBit_mod_two_pow]
theorem val_append : ∀ a b : List Bool, valF (a ++ b) = valF a + 2 ^ a.length * valF b
  | [], b => by simp [valF]
  | x :: a, b => by
    rw [List.cons_append, valF, val_append a b, valF, List.length_cons, Nat.pow_succ, Nat.mul_right_comm]
    omega
theorem val_rep (s : Bool) : ∀ k : Nat, valF (List.replicate k s) = if s then 2 ^ k - 1 else 0
  | 0 => by cases s <;> rfl
  | k + 1 => by
    rw [List.replicate_succ, valF, val_rep s k]
    have := Nat.two_pow_pos k
    cases s
    · simp
    · simp [Nat.pow_succ]; omega
/-- The highest bit. -/
def hiF (t : Ty) (v : Nat) : Bool := v.testBit (wid t - 1)
def negR (t : Ty) (v : Nat) : Bool := t.2 && hiF t v
def wideF (t : Ty) (v : Nat) : List Bool := bitsF v (wid t) ++ List.replicate (64 - wid t) (negR t v)
theorem wide_len {t : Ty} (h : rightF t = true) (v : Nat) : (wideF t v).length = 64 := by
  have := wid_le h
  simp [wideF, bits_len]; omega
/-- A value with its sign. -/
def sv (t : Ty) (v : Nat) : Int := if negR t v then ((v % 2 ^ wid t : Nat) : Int) - 2 ^ wid t else (v % 2 ^ wid t : Nat)
theorem pow_split {t : Ty} (h : rightF t = true) : 2 ^ wid t = 2 * 2 ^ (wid t - 1) := by
  have := wid_le h
  rw [← Nat.pow_succ']; congr 1; omega
theorem pow_le64 {t : Ty} (h : rightF t = true) : 2 ^ wid t ≤ 2 ^ 64 := Nat.pow_le_pow_right (by decide) (wid_le h).2
theorem hi_iff {t : Ty} (h : rightF t = true) (v : Nat) : hiF t v = decide (2 ^ (wid t - 1) ≤ v % 2 ^ wid t) := by
  obtain ⟨a, _⟩ := wid_le h
  obtain ⟨m, hm⟩ : ∃ m, wid t = m + 1 := ⟨wid t - 1, by omega⟩
  unfold hiF
  rw [hm, Nat.add_sub_cancel, Nat.mod_pow_succ, Nat.testBit_eq_decide_div_mod_eq]
  have h1 := Nat.mod_lt v (Nat.two_pow_pos m)
  rcases Nat.mod_two_eq_zero_or_one (v / 2 ^ m) with e | e
  · rw [e]; simp; omega
  · rw [e]; simp
theorem top_eq {t : Ty} (h : rightF t = true) (v : Nat) : topF t (normF t v) = hiF t v := by
  rw [hi_iff h]
  unfold topF normF
  rw [if_pos h]
  have h1 := Nat.mod_lt v (Nat.two_pow_pos (wid t))
  have h2 := pow_split h
  have h3 := Nat.two_pow_pos (wid t - 1)
  generalize v % 2 ^ wid t = x at *
  generalize 2 ^ (wid t - 1) = p at *
  rw [decide_eq_decide]
  constructor
  · intro e
    rcases Nat.lt_or_ge x p with h4 | h4
    · rw [Nat.div_eq_of_lt h4] at e; omega
    · exact h4
  · intro e
    rw [Nat.div_eq_iff h3]; omega
theorem sv_in {t : Ty} (h : rightF t = true) (v : Nat) : -(2 ^ (wid t - 1) : Nat) ≤ sv t v ∧ sv t v < (2 ^ wid t : Nat) ∧ (t.2 = true → sv t v < (2 ^ (wid t - 1) : Nat)) ∧ (negR t v = decide (sv t v < 0)) := by
  have h1 := Nat.mod_lt v (Nat.two_pow_pos (wid t))
  have h2 := pow_split h
  have h3 := hi_iff h v
  have hp : (2 : Int) ^ wid t = ((2 ^ wid t : Nat) : Int) := by simp
  unfold sv negR
  rw [h3, hp]
  generalize v % 2 ^ wid t = x at *
  generalize 2 ^ wid t = q at *
  generalize 2 ^ (wid t - 1) = p at *
  cases ht : t.2
  · simp; omega
  · by_cases h4 : p ≤ x
    · simp [h4]; omega
    · simp [h4]; omega
theorem int_sv {t : Ty} (h : rightF t = true) (hs : t.2 = true) (v : Nat) : intF t v = sv t v := by
  have h1 := Nat.mod_lt v (Nat.two_pow_pos (wid t))
  have h3 := hi_iff h v
  have h2 := pow_split h
  have h64 := pow_le64 h
  unfold intF sv negR
  rw [hs, h, top_eq h, Bool.true_and, Bool.true_and]
  unfold normF
  rw [if_pos h]
  by_cases hh : hiF t v = true
  · rw [if_pos hh, if_pos hh]
  · rw [if_neg hh, if_neg hh]
    unfold toI
    rw [if_pos]
    rw [h3] at hh
    simp at hh
    omega
theorem ofI_int {t : Ty} (h : rightF t = true) (v : Nat) : ofI (intF t v) = ofI (sv t v) := by
  cases hs : t.2
  · have h1 := Nat.mod_lt v (Nat.two_pow_pos (wid t))
    have h64 := pow_le64 h
    unfold intF sv negR
    rw [hs, Bool.false_and, Bool.false_and]
    unfold normF
    rw [if_pos h]
    simp only [Bool.false_eq_true, if_false]
    unfold toI ofI
    split <;> omega
  · rw [int_sv h hs]
theorem val_wide {t : Ty} (h : rightF t = true) (v : Nat) : valF (wideF t v) = ofI (sv t v) := by
  have h1 := Nat.mod_lt v (Nat.two_pow_pos (wid t))
  have h64 := pow_le64 h
  have hl := wid_le h
  have hp : (2 : Int) ^ wid t = ((2 ^ wid t : Nat) : Int) := by simp
  unfold wideF sv
  rw [val_append, val_bits, bits_len, val_rep]
  cases hn : negR t v
  · simp only [Bool.false_eq_true, if_false]
    unfold ofI
    omega
  · simp only [if_true]
    rw [Nat.mul_sub, Nat.mul_one, ← Nat.pow_add, show wid t + (64 - wid t) = 64 by omega, hp]
    unfold ofI
    omega
def sizeR (t : Ty) (v : Nat) : Nat := if negR t v then (2 ^ 64 - valF (wideF t v)) % 2 ^ 64 else valF (wideF t v)
theorem size_eq {t : Ty} (h : rightF t = true) (v : Nat) : sizeR t v = (sv t v).natAbs := by
  obtain ⟨a, b, _, c⟩ := sv_in h v
  have h64 := pow_le64 h
  have h2 := pow_split h
  unfold sizeR
  rw [val_wide h, c]
  unfold ofI
  by_cases hn : sv t v < 0
  · simp only [hn, decide_true, if_true]; omega
  · simp only [hn, decide_false, Bool.false_eq_true, if_false]; omega
def flipN (n : Nat) : Nat := (2 ^ 64 - n) % 2 ^ 64
def divR (t : Ty) (a b : Nat) : Nat × Nat :=
  (if negR t a != negR t b then flipN (sizeR t a / sizeR t b) else sizeR t a / sizeR t b, if negR t a then flipN (sizeR t a % sizeR t b) else sizeR t a % sizeR t b)
theorem tdiv_abs (x y : Int) : (x.tdiv y).natAbs = x.natAbs / y.natAbs := Int.natAbs_tdiv x y
set_option maxHeartbeats 1000000 in
theorem div_eq {t : Ty} (h : rightF t = true) (a b : Nat) (ha : a < 2 ^ wid t) (hb : b < 2 ^ wid t) (h0 : b ≠ 0) : divR t a b = divF t a b := by
  have h64 := pow_le64 h
  obtain ⟨a1, a2, a3, a4⟩ := sv_in h a
  obtain ⟨b1, b2, b3, b4⟩ := sv_in h b
  unfold divR divF
  rw [size_eq h, size_eq h]
  cases hs : t.2
  · have na : negR t a = false := by unfold negR; rw [hs]; rfl
    have nb : negR t b = false := by unfold negR; rw [hs]; rfl
    have ea : sv t a = (a : Int) := by unfold sv; rw [na, Nat.mod_eq_of_lt ha]; rfl
    have eb : sv t b = (b : Int) := by unfold sv; rw [nb, Nat.mod_eq_of_lt hb]; rfl
    rw [na, nb, ea, eb]
    simp
  · rw [a4, b4, int_sv h hs, int_sv h hs]
    have hbz : sv t b ≠ 0 := by
      have hp : (2 : Int) ^ wid t = ((2 ^ wid t : Nat) : Int) := by simp
      unfold sv
      rw [Nat.mod_eq_of_lt hb, hp]
      split <;> omega
    have hp := pow_split h
    have a3' := a3 hs
    have b3' := b3 hs
    clear a3 b3 a4 b4
    generalize sv t a = x at *
    generalize sv t b = y at *
    have hq : (x.tdiv y).natAbs = x.natAbs / y.natAbs := Int.natAbs_tdiv x y
    have hr : (x.tmod y).natAbs = x.natAbs % y.natAbs := Int.natAbs_tmod x y
    have hqle : x.natAbs / y.natAbs ≤ x.natAbs := Nat.div_le_self _ _
    have hrle : x.natAbs % y.natAbs ≤ x.natAbs := Nat.mod_le _ _
    have hrs : 0 ≤ x → 0 ≤ x.tmod y := fun h => Int.tmod_nonneg y h
    have hrn : x < 0 → x.tmod y ≤ 0 := fun h => by
      have := Int.tmod_nonneg (a := -x) y (by omega)
      rw [Int.neg_tmod] at this; omega
    have hqs : 0 ≤ x → 0 < y → 0 ≤ x.tdiv y := fun h k => Int.tdiv_nonneg h (by omega)
    have hqs2 : x < 0 → y < 0 → 0 ≤ x.tdiv y := fun h k => by
      have := Int.tdiv_nonneg (a := -x) (b := -y) (by omega) (by omega)
      rw [Int.neg_tdiv_neg] at this; exact this
    have hqn : 0 ≤ x → y < 0 → x.tdiv y ≤ 0 := fun h k => by
      have := Int.tdiv_nonneg (a := x) (b := -y) h (by omega)
      rw [Int.tdiv_neg] at this; omega
    have hqn2 : x < 0 → 0 < y → x.tdiv y ≤ 0 := fun h k => by
      have := Int.tdiv_nonneg (a := -x) (b := y) (by omega) (by omega)
      rw [Int.neg_tdiv] at this; omega
    have goal1 : (if decide (x < 0) != decide (y < 0) then flipN (x.natAbs / y.natAbs) else x.natAbs / y.natAbs) = ofI (x.tdiv y) := by
      unfold flipN ofI
      by_cases hx : x < 0 <;> by_cases hy : y < 0
      · have := hqs2 hx hy; simp only [hx, hy, decide_true, bne_self_eq_false, Bool.false_eq_true, if_false]; omega
      · have := hqn2 hx (by omega); simp only [hx, hy, decide_true, decide_false, Bool.bne_false, if_true]; omega
      · have := hqn (by omega) hy; simp only [hx, hy, decide_true, decide_false, Bool.false_bne, if_true]; omega
      · have := hqs (by omega) (by omega); simp only [hx, hy, decide_false, bne_self_eq_false, Bool.false_eq_true, if_false]; omega
    have goal2 : (if decide (x < 0) then flipN (x.natAbs % y.natAbs) else x.natAbs % y.natAbs) = ofI (x.tmod y) := by
      unfold flipN ofI
      by_cases hx : x < 0
      · have := hrn hx; simp only [hx, decide_true, if_true]; omega
      · have := hrs (by omega); simp only [hx, decide_false, Bool.false_eq_true, if_false]; omega
    rw [goal1, goal2, if_pos rfl]
    by_cases hy1 : y = -1
    · rw [if_pos hy1, hy1, Int.tdiv_neg, Int.tdiv_one, Int.tmod_neg, Int.tmod_one]; rfl
    · rw [if_neg hy1]
end Go.Wd
/- The document's arithmetic goes on: shifts, bit by bit, tests, turns, casts. No program in sight. -/
namespace Go.Wd
/-! ### Bits moved -/
def shlB (n : Nat) (l : List Bool) : List Bool := false :: l.take (n - 1)
def shrB (s : Bool) (l : List Bool) : List Bool := l.drop 1 ++ [s]
def itF {α : Type} (f : α → α) : Nat → α → α
  | 0, x => x
  | k + 1, x => f (itF f k x)
theorem shl_len {n : Nat} (h : 1 ≤ n) {l : List Bool} (hl : l.length = n) : (shlB n l).length = n := by simp [shlB]; omega
theorem shr_len {s : Bool} {n : Nat} (h : 1 ≤ n) {l : List Bool} (hl : l.length = n) : (shrB s l).length = n := by simp [shrB]; omega
theorem it_shl_len {n : Nat} (h : 1 ≤ n) {l : List Bool} (hl : l.length = n) : ∀ k, (itF (shlB n) k l).length = n
  | 0 => hl
  | k + 1 => shl_len h (it_shl_len h hl k)
theorem it_shr_len {s : Bool} {n : Nat} (h : 1 ≤ n) {l : List Bool} (hl : l.length = n) : ∀ k, (itF (shrB s) k l).length = n
  | 0 => hl
  | k + 1 => shr_len h (it_shr_len h hl k)
theorem val_take (l : List Bool) (k : Nat) : valF (l.take k) = valF l % 2 ^ k := by
  apply Nat.eq_of_testBit_eq
  intro i
  rw [val_testBit, Nat.testBit_mod_two_pow, val_testBit, List.getD_eq_getElem?_getD, List.getD_eq_getElem?_getD]
  by_cases h : i < k
  · rw [List.getElem?_take_of_lt h]; simp [h]
  · rw [List.getElem?_eq_none (by simp; omega)]; simp [h]
theorem val_drop1 (l : List Bool) : valF (l.drop 1) = valF l / 2 := by
  cases l with
  | nil => rfl
  | cons b l => rw [List.drop_succ_cons, List.drop_zero, valF]; cases b <;> simp <;> omega
theorem val_shl {n : Nat} (h : 1 ≤ n) (l : List Bool) : valF (shlB n l) = (2 * valF l) % 2 ^ n := by
  obtain ⟨m, rfl⟩ : ∃ m, n = m + 1 := ⟨n - 1, by omega⟩
  unfold shlB
  rw [valF, val_take, Nat.add_sub_cancel, Nat.pow_succ, Nat.mul_comm (2 ^ m) 2, Nat.mul_mod_mul_left]
  rfl
theorem val_it_shl {n : Nat} (h : 1 ≤ n) (l : List Bool) (hl : l.length = n) : ∀ k, valF (itF (shlB n) k l) = (valF l * 2 ^ k) % 2 ^ n
  | 0 => by have := val_lt l; rw [hl] at this; simp only [itF, Nat.pow_zero, Nat.mul_one]; rw [Nat.mod_eq_of_lt this]
  | k + 1 => by
    rw [itF, val_shl h, val_it_shl h l hl k, Nat.mul_mod_mod, Nat.pow_succ, Nat.mul_comm 2, Nat.mul_assoc]
theorem val_shr (s : Bool) {n : Nat} (h : 1 ≤ n) (l : List Bool) (hl : l.length = n) : valF (shrB s l) = valF l / 2 + 2 ^ (n - 1) * s.toNat := by
  unfold shrB
  rw [val_append, val_drop1, List.length_drop, hl]
  simp [valF]
theorem neg_ediv {x q : Int} (hq : 0 < q) : x / q < 0 ↔ x < 0 := by
  constructor
  · intro h
    rcases Int.lt_or_le x 0 with h0 | h0
    · exact h0
    · have := Int.ediv_nonneg h0 (Int.le_of_lt hq); omega
  · intro h; exact Int.ediv_neg_of_neg_of_pos h hq
theorem mod_neg {x q : Int} (h : -q ≤ x ∧ x < 0) : x % q = x + q := by
  rw [← Int.add_emod_right, Int.emod_eq_of_lt (by omega) (by omega)]
/-- Moved to the right with its sign: the quotient, rounded down. -/
theorem val_it_shr {n : Nat} (h : 1 ≤ n) (s : Bool) (x : Int) (hx : -(2 ^ (n - 1) : Nat) ≤ x ∧ x < (2 ^ n : Nat)) (hs : s = decide (x < 0)) (l : List Bool) (hl : l.length = n) (hv : (valF l : Int) = x % (2 ^ n : Nat)) :
    ∀ k, (valF (itF (shrB s) k l) : Int) = (x / (2 ^ k : Nat)) % (2 ^ n : Nat)
  | 0 => by simpa [itF] using hv
  | k + 1 => by
    have ih := val_it_shr h s x hx hs l hl hv k
    have hp : 2 ^ n = 2 * 2 ^ (n - 1) := by rw [← Nat.pow_succ']; congr 1; omega
    have hk := Nat.two_pow_pos k
    rw [itF, val_shr s h _ (it_shr_len h hl k), Nat.pow_succ, hp, Int.natCast_mul (2 ^ k), ← Int.ediv_ediv_of_nonneg (by omega)]
    rw [hp] at ih hx
    have hb : -((2 ^ (n - 1) : Nat) : Int) ≤ x / (2 ^ k : Nat) ∧ x / (2 ^ k : Nat) < ((2 * 2 ^ (n - 1) : Nat) : Int) ∧ (x < 0 ↔ x / (2 ^ k : Nat) < 0) := by
      generalize 2 ^ k = q at *
      refine ⟨?_, ?_, ?_⟩
      · rw [Int.le_ediv_iff_mul_le (by omega)]
        have : (-(2 ^ (n - 1) : Nat) : Int) * (q : Int) ≤ -(2 ^ (n - 1) : Nat) := by
          have h1 : (2 ^ (n - 1) : Nat) * 1 ≤ (2 ^ (n - 1) : Nat) * q := Nat.mul_le_mul_left _ hk
          have h2 : ((2 ^ (n - 1) * q : Nat) : Int) = ((2 ^ (n - 1) : Nat) : Int) * (q : Int) := Int.natCast_mul _ _
          rw [Int.neg_mul, ← h2]
          omega
        omega
      · rcases Int.lt_or_le x 0 with h0 | h0
        · have := (neg_ediv (show (0 : Int) < q by omega) (x := x)).2 h0; omega
        · have := Int.ediv_le_self (b := (q : Int)) h0; omega
      · exact (neg_ediv (by omega)).symm
    subst hs
    generalize x / (2 ^ k : Nat) = y at *
    generalize 2 ^ (n - 1) = p at *
    rw [Int.natCast_add, Int.natCast_ediv, ih, Int.natCast_mul]
    have e2 : ((2 : Nat) : Int) = 2 := rfl
    rw [e2]
    by_cases h0 : x < 0
    · have h1 := hb.2.2.1 h0
      rw [mod_neg (q := (2 * (p : Int))) ⟨by omega, h1⟩, mod_neg (q := (2 * (p : Int))) (x := y / 2) ⟨by omega, by omega⟩]
      simp only [h0, decide_true, Bool.toNat_true]
      omega
    · have h1 : ¬ y < 0 := fun h => h0 (hb.2.2.2 h)
      rw [Int.emod_eq_of_lt (b := (2 * (p : Int))) (by omega) (by omega), Int.emod_eq_of_lt (a := y / 2) (b := (2 * (p : Int))) (by omega) (by omega)]
      simp only [h0, decide_false, Bool.toNat_false]
      omega
/-- The document's shift. -/
def shiftR (t : Ty) (a b : Nat) (left : Bool) : Nat := valF (itF (if left then shlB (wid t) else shrB (negR t a)) (min b 64) (bitsF a (wid t)))
theorem shl_eq {t : Ty} (h : rightF t = true) (a b : Nat) (ha : a < 2 ^ wid t) : normF t (shiftR t a b true) = normF t (binF t .shl a b) := by
  have hl := wid_le h
  unfold shiftR normF binF
  rw [if_pos h, if_pos rfl, val_it_shl hl.1 _ (bits_len _ _), val_bits, Nat.mod_eq_of_lt ha, Nat.mod_mod]
  have hd : (2 : Nat) ^ wid t ∣ 2 ^ 64 := Nat.pow_dvd_pow 2 hl.2
  by_cases hb : 64 ≤ b
  · rw [Nat.min_eq_right hb]
    simp only [if_pos hb, Nat.zero_mod]
    rw [Nat.mod_eq_zero_of_dvd (Nat.dvd_trans hd (Nat.dvd_mul_left _ _))]; split <;> rfl
  · rw [Nat.min_eq_left (by omega)]
    simp only [if_neg hb, if_pos h]
    rw [Nat.mod_mod_of_dvd _ hd]
theorem sv_mod (t : Ty) (v : Nat) : sv t v % (2 ^ wid t : Nat) = (v % 2 ^ wid t : Nat) := by
  have h1 := Nat.mod_lt v (Nat.two_pow_pos (wid t))
  have hp : (2 : Int) ^ wid t = ((2 ^ wid t : Nat) : Int) := by simp
  unfold sv
  rw [hp]
  generalize v % 2 ^ wid t = x at *
  generalize 2 ^ wid t = q at *
  split
  · rw [Int.sub_emod_right, Int.emod_eq_of_lt (by omega) (by omega)]
  · rw [Int.emod_eq_of_lt (by omega) (by omega)]
theorem ofI_mod {n : Nat} (hn : n ≤ 64) (x : Int) : ((ofI x % 2 ^ n : Nat) : Int) = x % (2 ^ n : Nat) := by
  have hd : ((2 ^ n : Nat) : Int) ∣ ((2 ^ 64 : Nat) : Int) := by exact_mod_cast Nat.pow_dvd_pow 2 hn
  unfold ofI
  have e : ((x % 2 ^ 64).toNat : Int) = x % ((2 ^ 64 : Nat) : Int) := by omega
  rw [Int.natCast_emod, e, Int.emod_emod_of_dvd _ hd]
theorem shr_eq {t : Ty} (h : rightF t = true) (a b : Nat) (ha : a < 2 ^ wid t) : normF t (shiftR t a b false) = normF t (binF t .shr a b) := by
  obtain ⟨h1, h2, h3, h4⟩ := sv_in h a
  have hl := wid_le h
  have hq := pow_split h
  have h64 := pow_le64 h
  have hv := val_it_shr hl.1 (negR t a) (sv t a) ⟨h1, h2⟩ h4 (bitsF a (wid t)) (bits_len _ _) (by rw [val_bits, sv_mod]) (min b 64)
  have hn : ((normF t (shiftR t a b false) : Nat) : Int) = sv t a / (2 ^ min b 64 : Nat) % (2 ^ wid t : Nat) := by
    unfold normF shiftR
    rw [if_pos h, if_neg (by decide), Int.natCast_emod, hv, Int.emod_emod_of_dvd _ (Int.dvd_refl _)]
  apply Int.ofNat.inj
  show ((normF t (shiftR t a b false) : Nat) : Int) = ((normF t (binF t .shr a b) : Nat) : Int)
  rw [hn]
  unfold normF binF shiftF
  rw [if_pos h]
  cases hs : t.2
  · have na : negR t a = false := by unfold negR; rw [hs]; rfl
    have ea : sv t a = (a : Int) := by unfold sv; rw [na, Nat.mod_eq_of_lt ha]; rfl
    simp only [Bool.false_eq_true, if_false]
    rw [ea]
    by_cases hb : 64 ≤ b
    · rw [if_pos hb, Nat.min_eq_right hb, ← Int.natCast_ediv, Nat.div_eq_of_lt (by omega)]; simp
    · rw [if_neg hb, Nat.min_eq_left (by omega), ← Int.natCast_ediv, ← Int.natCast_emod]
  · simp only [if_true]
    rw [int_sv h hs, ofI_mod hl.2]
    by_cases hb : 64 ≤ b
    · rw [Nat.min_eq_right hb, Nat.min_eq_right (by omega)]
      congr 1
      have := h3 hs
      have h63 : 2 ^ (wid t - 1) ≤ 2 ^ 63 := Nat.pow_le_pow_right (by decide) (by omega)
      show _ = sv t a / (2 : Int) ^ 63
      generalize sv t a = x at *
      omega
    · rw [Nat.min_eq_left (by omega), Nat.min_eq_left (by omega)]
      simp
/-! ### Bit by bit -/
def eachF (n : Nat) (f : Bool → Bool → Bool) (a b : Nat) : List Bool := (List.range n).map fun i => f (a.testBit i) (b.testBit i)
theorem val_each (n : Nat) (f : Bool → Bool → Bool) (a b c : Nat) (h : ∀ i, c.testBit i = f (a.testBit i) (b.testBit i)) : valF (eachF n f a b) = c % 2 ^ n := by
  apply Nat.eq_of_testBit_eq
  intro i
  rw [val_testBit, Nat.testBit_mod_two_pow, List.getD_eq_getElem?_getD, h]
  unfold eachF
  by_cases hi : i < n
  · simp [hi]
  · simp [hi]
/-- What the document says of two values. -/
def binR (t : Ty) (k : Bin) (a b : Nat) : Nat := match k with
  | .and => valF (eachF (wid t) and a b)
  | .or => valF (eachF (wid t) or a b)
  | .xor => valF (eachF (wid t) (fun x y => x != y) a b)
  | .add => (a + b) % 2 ^ 64
  | .sub => (a + 2 ^ 64 - b) % 2 ^ 64
  | .mul => (a * b) % 2 ^ 64
  | .shl => shiftR t a b true
  | .shr => shiftR t a b false
  | .quo => (divR t a b).1
  | .rem => (divR t a b).2
def doR (t : Ty) (op : ByteArray) (a b : Nat) : Nat × Int :=
  if rightF t then
    if op = sAnd ∨ op = sOr ∨ op = sXor then (binR t (if op = sAnd then .and else if op = sOr then .or else .xor) (normF t a) (normF t b), 0)
    else if t.1 = 1 then (0, 12)
    else match getF (opsF t) op with
      | none => (0, 12)
      | some k => if normF t b = 0 ∧ (op = sQuo ∨ op = sRem) then (0, 11) else (normF t (binR t k (normF t a) (normF t b)), 0)
  else (0, 10)
theorem bin_eq {t : Ty} (h : rightF t = true) (k : Bin) (a b : Nat) (ha : a < 2 ^ wid t) (hb : b < 2 ^ wid t) (h0 : (k = .quo ∨ k = .rem) → b ≠ 0) : normF t (binR t k a b) = normF t (binF t k a b) := by
  cases k
  case and => unfold binR binF normF; rw [if_pos h]; simp only [h, if_true]; rw [val_each _ _ _ _ (a &&& b) fun i => Nat.testBit_and .., Nat.mod_mod]
  case or => unfold binR binF normF; rw [if_pos h]; simp only [h, if_true]; rw [val_each _ _ _ _ (a ||| b) fun i => Nat.testBit_or .., Nat.mod_mod]
  case xor => unfold binR binF normF; rw [if_pos h]; simp only [h, if_true]; rw [val_each _ _ _ _ (a ^^^ b) fun i => by rw [Nat.testBit_xor], Nat.mod_mod]
  case shl => exact shl_eq h a b ha
  case shr => exact shr_eq h a b ha
  case quo => unfold binR binF; rw [div_eq h a b ha hb (h0 (.inl rfl))]
  case rem => unfold binR binF; rw [div_eq h a b ha hb (h0 (.inr rfl))]
  all_goals rfl
theorem norm_idem (t : Ty) (v : Nat) : normF t (normF t v) = normF t v := by unfold normF; split <;> simp
theorem norm_of_lt {t : Ty} (h : rightF t = true) {v : Nat} (hv : v < 2 ^ wid t) : normF t v = v := by unfold normF; rw [if_pos h, Nat.mod_eq_of_lt hv]
theorem binR_bit_lt (t : Ty) (k : Bin) (hk : k = .and ∨ k = .or ∨ k = .xor) (a b : Nat) : binR t k a b < 2 ^ wid t := by
  rcases hk with rfl | rfl | rfl
  all_goals
    refine Nat.lt_of_lt_of_le (val_lt _) ?_
    simp [eachF]
theorem opsF_wide {t : Ty} (h : t.1 ≠ 1) : opsF t = [(sAnd, .and), (sOr, .or), (sXor, .xor), (sAdd, .add), (sSub, .sub), (sMul, .mul), (sShl, .shl), (sShr, .shr), (sQuo, .quo), (sRem, .rem)] := by unfold opsF; rw [if_neg h]
theorem getF_quo {t : Ty} {op : ByteArray} {k : Bin} (h : getF (opsF t) op = some k) (hk : k = .quo ∨ k = .rem) : op = sQuo ∨ op = sRem := by
  unfold opsF at h
  split at h
  all_goals
    simp only [getF] at h
    repeat' split at h
    all_goals first | (cases h; rcases hk with hk | hk <;> cases hk; done) | simp_all
theorem do_eq (t : Ty) (op : ByteArray) (a b : Nat) : doR t op a b = doF t op a b := by
  unfold doR doF
  by_cases h : rightF t = true
  · rw [if_pos h, if_pos h]
    have la := norm_lt a h
    have lb := norm_lt b h
    by_cases h1 : op = sAnd ∨ op = sOr ∨ op = sXor
    · rw [if_pos h1]
      have hg : getF (opsF t) op = some (if op = sAnd then .and else if op = sOr then .or else .xor) := by
        unfold opsF
        rcases h1 with rfl | rfl | rfl <;> split <;> simp [getF, sAnd, sOr, sXor]
      rw [hg]
      have hz : ¬ (normF t b = 0 ∧ (op = sQuo ∨ op = sRem)) := by
        rcases h1 with rfl | rfl | rfl <;> simp [sAnd, sOr, sXor, sQuo, sRem]
      simp only [if_neg hz]
      generalize hk : (if op = sAnd then Bin.and else if op = sOr then .or else .xor) = k
      have hk3 : k = .and ∨ k = .or ∨ k = .xor := by
        rw [← hk]; split
        · exact .inl rfl
        · split
          · exact .inr (.inl rfl)
          · exact .inr (.inr rfl)
      have := bin_eq h k _ _ la lb (by rcases hk3 with rfl | rfl | rfl <;> simp)
      rw [norm_of_lt h (binR_bit_lt t k hk3 _ _)] at this
      rw [this]
    · rw [if_neg h1]
      by_cases h2 : t.1 = 1
      · rw [if_pos h2]
        have hg : getF (opsF t) op = none := by
          unfold opsF
          rw [if_pos h2]
          simp only [not_or] at h1
          simp [getF, Ne.symm h1.1, Ne.symm h1.2.1, Ne.symm h1.2.2]
        rw [hg]
      · rw [if_neg h2]
        cases hg : getF (opsF t) op with
        | none => rfl
        | some k =>
          simp only
          by_cases hz : normF t b = 0 ∧ (op = sQuo ∨ op = sRem)
          · rw [if_pos hz, if_pos hz]
          · rw [if_neg hz, if_neg hz, bin_eq h k _ _ la lb fun hk h0 => hz ⟨h0, getF_quo hg hk⟩]
  · rw [if_neg h, if_neg h]
/-! ### Tests -/
def lessB (sg : Bool) (n a b : Nat) : Nat → Bool
  | 0 => false
  | k + 1 => if a.testBit k != b.testBit k then b.testBit k != (sg && decide (k + 1 = n)) else lessB sg n a b k
theorem less_low (sg : Bool) (n a b : Nat) : ∀ k, k < n ∨ (k = n ∧ sg = false) → lessB sg n a b k = decide (a % 2 ^ k < b % 2 ^ k)
  | 0, _ => by simp [lessB, Nat.mod_one]
  | k + 1, hk => by
    rw [lessB, less_low sg n a b k (by omega), Nat.mod_pow_succ, Nat.mod_pow_succ, Nat.testBit_eq_decide_div_mod_eq, Nat.testBit_eq_decide_div_mod_eq]
    have ha := Nat.mod_lt a (Nat.two_pow_pos k)
    have hb := Nat.mod_lt b (Nat.two_pow_pos k)
    have hsg : (sg && decide (k + 1 = n)) = false := by
      rcases hk with h | ⟨_, h⟩
      · have : ¬ (k + 1 = n) := by omega
        simp [this]
      · simp [h]
    rw [hsg]
    generalize 2 ^ k = p at *
    generalize a % p = x at *
    generalize b % p = y at *
    rcases Nat.mod_two_eq_zero_or_one (a / p) with e | e <;> rcases Nat.mod_two_eq_zero_or_one (b / p) with f | f <;> rw [e, f]
    · simp
    · simp; omega
    · simp; omega
    · simp
theorem less_eq {t : Ty} (h : rightF t = true) (a b : Nat) : lessB t.2 (wid t) a b (wid t) = decide (sv t a < sv t b) := by
  obtain ⟨m, hm⟩ : ∃ m, wid t = m + 1 := ⟨wid t - 1, by have := wid_le h; omega⟩
  have hha := hi_iff h a
  have hhb := hi_iff h b
  unfold hiF at hha hhb
  have hp : (2 : Int) ^ wid t = ((2 ^ wid t : Nat) : Int) := by simp
  cases hs : t.2
  · rw [less_low false (wid t) a b (wid t) (.inr ⟨rfl, rfl⟩)]
    have na : negR t a = false := by unfold negR; rw [hs]; rfl
    have nb : negR t b = false := by unfold negR; rw [hs]; rfl
    unfold sv
    rw [na, nb]
    simp only [Bool.false_eq_true, if_false, Int.ofNat_lt]
  · have hq := pow_split h
    have la := Nat.mod_lt a (Nat.two_pow_pos (wid t))
    have lb := Nat.mod_lt b (Nat.two_pow_pos (wid t))
    rw [hm, lessB, less_low true (m + 1) a b m (.inl (by omega))]
    rw [hm, Nat.add_sub_cancel] at hha hhb
    unfold sv negR hiF
    rw [hs, hp, hm, Nat.add_sub_cancel, hha, hhb, Nat.mod_pow_succ, Nat.mod_pow_succ]
    have ha := Nat.mod_lt a (Nat.two_pow_pos m)
    have hb := Nat.mod_lt b (Nat.two_pow_pos m)
    rw [Nat.pow_succ]
    generalize 2 ^ m = p at *
    generalize a % p = x at *
    generalize b % p = y at *
    have dx0 : decide (p ≤ x + p * 0) = false := by simp; omega
    have dy0 : decide (p ≤ y + p * 0) = false := by simp; omega
    have dx1 : decide (p ≤ x + p * 1) = true := by simp
    have dy1 : decide (p ≤ y + p * 1) = true := by simp
    rcases Nat.mod_two_eq_zero_or_one (a / p) with e | e <;> rcases Nat.mod_two_eq_zero_or_one (b / p) with f | f <;> rw [e, f]
    · simp only [dx0, dy0, bne_self_eq_false, Bool.and_false, Bool.false_eq_true, if_false]; rw [decide_eq_decide]; omega
    · simp only [dx0, dy1, Bool.false_bne, Bool.and_false, Bool.false_eq_true, if_true, if_false, Bool.and_true, decide_true, bne_self_eq_false, Bool.true_and]; symm; rw [decide_eq_false_iff_not]; omega
    · simp only [dx1, dy0, Bool.bne_false, Bool.and_false, Bool.false_eq_true, if_true, if_false, Bool.and_true, decide_true, Bool.false_bne, Bool.true_and]; symm; rw [decide_eq_true_iff]; omega
    · simp only [dx1, dy1, bne_self_eq_false, Bool.false_eq_true, if_true, if_false, Bool.and_true]; rw [decide_eq_decide]; omega
def testR (t : Ty) (op : ByteArray) (a b : Nat) : Bool × Int :=
  if rightF t then
    if op = sEq ∨ op = sNe then (decide (normF t a = normF t b) == decide (op = sEq), 0)
    else if t.1 = 1 ∨ (op ≠ sLt ∧ op ≠ sLe ∧ op ≠ sGt ∧ op ≠ sGe) then (false, 12)
    else if op = sLt then (lessB t.2 (wid t) a b (wid t), 0)
    else if op = sLe then (lessB t.2 (wid t) a b (wid t) || decide (normF t a = normF t b), 0)
    else if op = sGt then (!lessB t.2 (wid t) a b (wid t) && !decide (normF t a = normF t b), 0)
    else (!lessB t.2 (wid t) a b (wid t), 0)
  else (false, 10)
theorem sv_norm {t : Ty} (h : rightF t = true) (v : Nat) : sv t (normF t v) = sv t v := by
  have e : normF t v % 2 ^ wid t = v % 2 ^ wid t := by unfold normF; rw [if_pos h, Nat.mod_mod]
  unfold sv negR
  rw [hi_iff h, hi_iff h, e]
theorem lessF_sv {t : Ty} (h : rightF t = true) (a b : Nat) : lessF t (normF t a) (normF t b) = decide (sv t a < sv t b) := by
  unfold lessF
  cases hs : t.2
  · have na : negR t a = false := by unfold negR; rw [hs]; rfl
    have nb : negR t b = false := by unfold negR; rw [hs]; rfl
    unfold sv
    rw [na, nb, norm_idem, norm_idem]
    unfold normF
    rw [if_pos h, if_pos h]
    simp only [Bool.false_eq_true, if_false, Int.ofNat_lt]
  · rw [int_sv h hs, int_sv h hs, sv_norm h, sv_norm h]; simp
theorem sv_inj {t : Ty} (h : rightF t = true) (a b : Nat) : normF t a = normF t b ↔ sv t a = sv t b := by
  have e : ∀ v, normF t v = v % 2 ^ wid t := fun v => by unfold normF; rw [if_pos h]
  rw [e, e]
  constructor
  · intro h1
    unfold sv negR
    rw [hi_iff h, hi_iff h, h1]
  · intro h1
    have := sv_mod t a
    rw [h1, sv_mod t b] at this
    exact_mod_cast this.symm
theorem right_w1 {t : Ty} (h : rightF t = true) : t.1 = 1 ∨ 1 < t.1 := by
  rcases right_iff.1 h with rfl | rfl | rfl | rfl | rfl | rfl | rfl | rfl | rfl <;> simp
theorem test_eq (t : Ty) (op : ByteArray) (a b : Nat) : testR t op a b = testF t op a b := by
  unfold testR testF
  by_cases h : rightF t = true
  · rw [if_pos h, if_pos h, less_eq h, lessF_sv h, lessF_sv h]
    have hi := sv_inj h a b
    by_cases h1 : op = sEq
    · subst h1; simp
    · by_cases h2 : op = sNe
      · subst h2; simp [sEq, sNe]
      · rw [if_neg (by simp [h1, h2]), if_neg h1, if_neg h2]
        rcases right_w1 h with h3 | h3
        · rw [if_pos (.inl h3), if_neg (by omega)]
        · have h3' : t.1 ≠ 1 := by omega
          rw [if_pos h3]
          generalize sv t a = x at *
          generalize sv t b = y at *
          have hd : decide (normF t a = normF t b) = decide (x = y) := by simp [hi]
          by_cases e1 : op = sLt
          · subst e1; simp [h3']
          · by_cases e2 : op = sLe
            · subst e2
              rw [if_neg (by simp [h3']), if_neg e1, if_neg e1, if_pos rfl, if_pos rfl, hd]
              congr 1
              rw [Bool.eq_iff_iff]; simp; omega
            · by_cases e3 : op = sGt
              · subst e3
                rw [if_neg (by simp [h3']), if_neg e1, if_neg e1, if_neg e2, if_neg e2, if_pos rfl, if_pos rfl, hd]
                congr 1
                rw [Bool.eq_iff_iff]; simp; omega
              · by_cases e4 : op = sGe
                · subst e4
                  rw [if_neg (by simp [h3']), if_neg e1, if_neg e1, if_neg e2, if_neg e2, if_neg e3, if_neg e3, if_pos rfl]
                · rw [if_pos (.inr ⟨e1, e2, e3, e4⟩), if_neg e1, if_neg e2, if_neg e3, if_neg e4]
  · rw [if_neg h, if_neg h]
def notF (v n : Nat) : List Bool := (List.range n).map fun i => !v.testBit i
theorem val_not {n v : Nat} (hn : n ≤ 64) (hv : v < 2 ^ 64) : valF (notF v n) = (2 ^ 64 - 1 - v) % 2 ^ n := by
  apply Nat.eq_of_testBit_eq
  intro i
  rw [val_testBit, Nat.testBit_mod_two_pow, List.getD_eq_getElem?_getD, show 2 ^ 64 - 1 - v = 2 ^ 64 - (v + 1) by omega, Nat.testBit_two_pow_sub_succ hv]
  unfold notF
  by_cases hi : i < n
  · have : i < 64 := by omega
    simp [hi, this]
  · simp [hi]
def turnR (t : Ty) (op : ByteArray) (a : Nat) : Nat × Int :=
  if rightF t then
    if (op = sTil ∧ 1 < t.1) ∨ (op = sNot ∧ t.1 = 1) then (valF (notF a (wid t)), 0)
    else if op = sSub ∧ 1 < t.1 then (normF t ((2 ^ 64 - a) % 2 ^ 64), 0)
    else (0, 12)
  else (0, 10)
theorem turn_eq (t : Ty) (op : ByteArray) (a : Nat) (ha : a < 2 ^ 64) : turnR t op a = turnF t op a := by
  unfold turnR turnF
  by_cases h : rightF t = true
  · rw [if_pos h, if_pos h]
    by_cases h1 : op = sSub ∧ 1 < t.1
    · rw [if_pos h1, if_neg (by rw [h1.1]; simp [sSub, sTil, sNot]), if_pos h1]
    · by_cases h2 : (op = sTil ∧ 1 < t.1) ∨ (op = sNot ∧ t.1 = 1)
      · rw [if_pos h2, if_pos h2, val_not (wid_le h).2 ha]
        rw [if_neg h1]
        unfold normF
        rw [if_pos h]
      · rw [if_neg h2, if_neg h2, if_neg h1]
  · rw [if_neg h, if_neg h]
def castR (s t : Ty) (v : Nat) : Nat :=
  if rightF s && rightF t then (if t.1 = 1 then (if normF s v = 0 then 0 else 1) else valF ((wideF s v).take (wid t))) else 0
theorem cast_eq (s t : Ty) (v : Nat) : castR s t v = castF s t v := by
  unfold castR castF
  by_cases h : (rightF s && rightF t) = true
  · rw [if_pos h, if_pos h]
    simp only [Bool.and_eq_true] at h
    by_cases h1 : t.1 = 1
    · rw [if_pos h1, if_pos h1]
      split <;> omega
    · rw [if_neg h1, if_neg h1, val_take, val_wide h.1, ← ofI_int h.1]
      unfold normF
      rw [if_pos h.2]
  · rw [if_neg h, if_neg h]
end Go.Wd
