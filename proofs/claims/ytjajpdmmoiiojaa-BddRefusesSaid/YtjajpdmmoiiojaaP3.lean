/- Plain laws of tables of truth: a table is a truth of so many variables; what flips, what is asked, Exists and Rename of tables. No program in sight. -/
import Derived.Test.YtjajpdmmoiiojaaP2
namespace Go.Bdd
open Go.Mem Go.RowKit

theorem atF_snoc (l : List Bool) (b : Bool) : atF (l ++ [b]) = 2 * atF l + b.toNat := by simp [atF]
theorem rev_ind {α : Type} {P : List α → Prop} (h0 : P []) (h1 : ∀ l a, P l → P (l ++ [a])) (l : List α) : P l := by
  rw [← List.reverse_reverse l]
  induction l.reverse with
  | nil => exact h0
  | cons a l ih => rw [List.reverse_cons]; exact h1 _ _ ih
theorem atF_lt (l : List Bool) : atF l < 2 ^ l.length := by
  induction l using rev_ind with
  | h0 => simp [atF]
  | h1 l b ih =>
    rw [atF_snoc, List.length_append, List.length_singleton, Nat.pow_succ]
    have : b.toNat ≤ 1 := by cases b <;> decide
    omega
theorem atF_bit (l : List Bool) : ∀ v, v < l.length → (atF l).testBit (l.length - 1 - v) = tat l v := by
  induction l using rev_ind with
  | h0 => intro v hv; simp at hv
  | h1 l b ih =>
    intro v hv
    rw [List.length_append, List.length_singleton] at hv ⊢
    rw [atF_snoc]
    have hb : b.toNat ≤ 1 := by cases b <;> decide
    by_cases h : v < l.length
    · rw [show l.length + 1 - 1 - v = (l.length - 1 - v) + 1 by omega, Nat.testBit_succ, show (2 * atF l + b.toNat) / 2 = atF l by omega, ih v h]
      simp [tat, List.getElem?_append_left h]
    · have : v = l.length := by omega
      subst this
      rw [show l.length + 1 - 1 - l.length = 0 by omega, Nat.testBit_zero]
      have : (2 * atF l + b.toNat) % 2 = b.toNat := by omega
      rw [this]
      simp [tat]
theorem wayF_tat (n i v : Nat) (h : v < n) : tat (wayF n i) v = i.testBit (n - 1 - v) := by simp [tat, wayF, h]
theorem wayF_length (n i : Nat) : (wayF n i).length = n := by simp [wayF]
theorem way_at {l : List Bool} {n : Nat} (h : l.length = n) : wayF n (atF l) = l := by
  subst h
  apply List.ext_getElem
  · simp [wayF]
  · intro v h1 h2
    have := atF_bit l v h2
    simp only [wayF, List.getElem_map, List.getElem_range]
    rw [this]; simp [tat, h2]
theorem at_way (n i : Nat) (h : i < 2 ^ n) : atF (wayF n i) = i := by
  apply Nat.eq_of_testBit_eq
  intro j
  by_cases hj : j < n
  · have := atF_bit (wayF n i) (n - 1 - j) (by rw [wayF_length]; omega)
    rw [wayF_length, show n - 1 - (n - 1 - j) = j by omega] at this
    rw [this, wayF_tat n i _ (by omega), show n - 1 - (n - 1 - j) = j by omega]
  · have h1 := atF_lt (wayF n i)
    rw [wayF_length] at h1
    have hp : 2 ^ n ≤ 2 ^ j := Nat.pow_le_pow_right (by omega) (by omega)
    rw [Nat.testBit_lt_two_pow (by omega), Nat.testBit_lt_two_pow (by omega)]

def envOf (n i : Nat) : Env := fun v => tat (wayF n i) v.toNat
def tabOf (n : Nat) (φ : Env → Bool) : List Bool := (List.range (2 ^ n)).map fun i => φ (envOf n i)
/-- It hangs on the first n variables alone. -/
def DepN (n : Nat) (φ : Env → Bool) : Prop := ∀ e e' : Env, (∀ v : Int, 0 ≤ v → v < n → e v = e' v) → φ e = φ e'
def num (n : Nat) (e : Env) : Nat := atF ((List.range n).map fun (v : Nat) => e v)
theorem num_lt (n : Nat) (e : Env) : num n e < 2 ^ n := by
  have := atF_lt ((List.range n).map fun (v : Nat) => e v)
  simpa [num] using this
theorem envOf_num (n : Nat) (e : Env) {v : Int} (h0 : 0 ≤ v) (h1 : v < n) : envOf n (num n e) v = e v := by
  unfold envOf num
  rw [way_at (by simp)]
  have : v.toNat < n := by omega
  simp [tat, this, Int.toNat_of_nonneg h0]
theorem envOf_bit (n i : Nat) {v : Int} (h0 : 0 ≤ v) (h1 : v < n) : envOf n i v = i.testBit (n - 1 - v.toNat) := wayF_tat n i _ (by omega)
theorem tabOf_len (n : Nat) (φ : Env → Bool) : (tabOf n φ).length = 2 ^ n := by simp [tabOf]
theorem tabOf_at {n i : Nat} (φ : Env → Bool) (h : i < 2 ^ n) : tat (tabOf n φ) i = φ (envOf n i) := by simp [tat, tabOf, h]
theorem tabOf_ext {n : Nat} {φ ψ : Env → Bool} (h : ∀ e, φ e = ψ e) : tabOf n φ = tabOf n ψ := by rw [funext h]
theorem tabOf_inj {n : Nat} {φ ψ : Env → Bool} (hφ : DepN n φ) (hψ : DepN n ψ) (h : tabOf n φ = tabOf n ψ) (e : Env) : φ e = ψ e := by
  have h1 := tabOf_at φ (num_lt n e)
  rw [h, tabOf_at ψ (num_lt n e)] at h1
  rw [← hφ (envOf n (num n e)) e fun v h0 h1 => envOf_num n e h0 h1, ← hψ (envOf n (num n e)) e fun v h0 h1 => envOf_num n e h0 h1]
  exact h1.symm
theorem dep_depN {n : Nat} {φ : Env → Bool} : Dep φ ((List.range n).map fun (i : Nat) => (i : Int)) ↔ DepN n φ := by
  constructor
  · intro h e e' he
    refine h e e' fun v hv => ?_
    obtain ⟨i, hi, rfl⟩ := List.mem_map.1 hv
    have := List.mem_range.1 hi
    exact he _ (by omega) (by omega)
  · intro h e e' he
    exact h e e' fun v h0 h1 => he v (List.mem_map.2 ⟨v.toNat, List.mem_range.2 (by omega), by omega⟩)

theorem flip_lt {n i v : Nat} (hi : i < 2 ^ n) (hv : v < n) : i ^^^ bit n v < 2 ^ n := Nat.xor_lt_two_pow hi (Nat.pow_lt_pow_right (by omega) (by omega))
theorem flip_env {n i v : Nat} (hv : v < n) {u : Int} (h0 : 0 ≤ u) (h1 : u < n) : envOf n (i ^^^ bit n v) u = upd (envOf n i) v (!envOf n i v) u := by
  have hv0 : (0 : Int) ≤ v := by omega
  have hv1 : (v : Int) < n := by omega
  rw [envOf_bit n _ h0 h1, Nat.testBit_xor]
  unfold bit
  rw [Nat.testBit_two_pow]
  by_cases h : u = v
  · subst h
    rw [upd_same, envOf_bit n i hv0 hv1]
    simp
  · rw [upd_ne _ _ h, envOf_bit n i h0 h1]
    have : ¬ n - 1 - v = n - 1 - u.toNat := by omega
    simp [this]

theorem upd_or {φ : Env → Bool} (e : Env) (v : Int) : (φ e || φ (upd e v (!e v))) = (φ (upd e v false) || φ (upd e v true)) := by
  have h := upd_self e v
  cases hv : e v
  · rw [hv] at h; rw [h]; rfl
  · rw [hv] at h; rw [h]; simp [Bool.or_comm]
theorem upd_bne {φ : Env → Bool} (e : Env) (v : Int) : (φ e != φ (upd e v (!e v))) = (φ (upd e v false) != φ (upd e v true)) := by
  have h := upd_self e v
  cases hv : e v
  · rw [hv] at h; rw [h]; rfl
  · rw [hv] at h; rw [h]; simp [bne_comm]

def Asks (φ : Env → Bool) (v : Int) : Prop := ∃ e, φ (upd e v false) ≠ φ (upd e v true)
theorem asks_tab {n v : Nat} {φ : Env → Bool} (h : DepN n φ) (hv : v < n) : asksF (tabOf n φ) n v = true ↔ Asks φ v := by
  have step : ∀ i, i < 2 ^ n → (tat (tabOf n φ) i != tat (tabOf n φ) (i ^^^ bit n v)) = (φ (upd (envOf n i) v false) != φ (upd (envOf n i) v true)) := fun i hi => by
    rw [tabOf_at φ hi, tabOf_at φ (flip_lt hi hv), h _ _ fun u h0 h1 => flip_env hv h0 h1, upd_bne]
  simp only [asksF, List.any_eq_true, List.mem_range, tabOf_len]
  constructor
  · rintro ⟨i, hi, hx⟩
    rw [step i hi] at hx
    exact ⟨_, by simpa using hx⟩
  · rintro ⟨e, he⟩
    refine ⟨num n e, num_lt n e, ?_⟩
    rw [step _ (num_lt n e)]
    have ag : ∀ b, φ (upd (envOf n (num n e)) v b) = φ (upd e v b) := fun b => h _ _ fun u h0 h1 => by
      by_cases hu : u = v
      · subst hu; rw [upd_same, upd_same]
      · rw [upd_ne _ _ hu, upd_ne _ _ hu, envOf_num n e h0 h1]
    rw [ag, ag]
    simpa using he

def ex1 (v : Int) (φ : Env → Bool) : Env → Bool := fun e => φ (upd e v false) || φ (upd e v true)
theorem depN_upd {n : Nat} {φ : Env → Bool} (h : DepN n φ) (v : Int) (b : Bool) : DepN n fun e => φ (upd e v b) := fun e e' he => h _ _ fun u h0 h1 => by
  by_cases hu : u = v
  · subst hu; rw [upd_same, upd_same]
  · rw [upd_ne _ _ hu, upd_ne _ _ hu, he u h0 h1]
theorem ex1_dep {n : Nat} {φ : Env → Bool} (h : DepN n φ) (v : Int) : DepN n (ex1 v φ) := fun e e' he => by
  unfold ex1
  have h0 := depN_upd h v false e e' he
  have h1 := depN_upd h v true e e' he
  simp only at h0 h1
  rw [h0, h1]
theorem exist1_tab {n v : Nat} {φ : Env → Bool} (h : DepN n φ) (hv : v < n) : exist1 (tabOf n φ) n v = tabOf n (ex1 v φ) := by
  unfold exist1
  rw [tabOf_len]
  refine List.map_congr_left fun i hi => ?_
  have hi := List.mem_range.1 hi
  rw [tabOf_at φ hi, tabOf_at φ (flip_lt hi hv), h _ _ fun u h0 h1 => flip_env hv h0 h1]
  exact upd_or _ _
theorem exT_nil (φ : Env → Bool) : exT [] φ = φ := funext fun e => by
  rw [Bool.eq_iff_iff, exT_iff]
  constructor
  · rintro ⟨e', h1, h2⟩
    rw [show e = e' from funext fun v => (h1 v (by simp)).symm]; exact h2
  · intro h; exact ⟨e, fun _ _ => rfl, h⟩
theorem exT_cons (v : Int) (vs : List Int) (φ : Env → Bool) : exT vs (ex1 v φ) = exT (v :: vs) φ := funext fun e => by
  rw [Bool.eq_iff_iff, exT_iff, exT_iff]
  constructor
  · rintro ⟨e1, h1, h2⟩
    unfold ex1 at h2
    rw [Bool.or_eq_true] at h2
    have key : ∀ b, φ (upd e1 v b) = true → ∃ e', (∀ u, u ∉ v :: vs → e' u = e u) ∧ φ e' = true := fun b hb =>
      ⟨_, fun u hu => by rw [List.mem_cons, not_or] at hu; rw [upd_ne _ _ hu.1]; exact h1 u hu.2, hb⟩
    rcases h2 with h2 | h2
    · exact key _ h2
    · exact key _ h2
  · rintro ⟨e', h1, h2⟩
    refine ⟨upd e' v (e v), fun u hu => ?_, ?_⟩
    · by_cases h : u = v
      · subst h; rw [upd_same]
      · rw [upd_ne _ _ h]; exact h1 u (by simp [h, hu])
    · have hb : ∀ b, upd (upd e' v (e v)) v b = upd e' v b := fun b => funext fun u => by
        by_cases h : u = v
        · subst h; rw [upd_same, upd_same]
        · rw [upd_ne _ _ h, upd_ne _ _ h, upd_ne _ _ h]
      unfold ex1
      rw [hb, hb, Bool.or_eq_true]
      have hs := upd_self e' v
      cases hv : e' v
      · rw [hv] at hs; exact .inl (by rw [hs]; exact h2)
      · rw [hv] at hs; exact .inr (by rw [hs]; exact h2)
theorem existsT_tab {n : Nat} : ∀ (vars : List Int) (φ : Env → Bool), DepN n φ → (∀ v ∈ vars, 0 ≤ v ∧ v < n) → existsT (tabOf n φ) n vars = tabOf n (exT vars φ)
  | [], φ, h, hv => by rw [exT_nil]; rfl
  | v :: vs, φ, h, hv => by
    obtain ⟨h0, h1⟩ := hv v (by simp)
    have := existsT_tab vs (ex1 v φ) (ex1_dep h v) fun u hu => hv u (by simp [hu])
    rw [exT_cons] at this
    rw [← this]
    show existsT (exist1 (tabOf n φ) n v.toNat) n vs = _
    rw [exist1_tab h (by omega), show ((v.toNat : Nat) : Int) = v by omega]

/-- What is not asked may be anything. -/
theorem dep_drop {φ : Env → Bool} {T : List Int} : ∀ S : List Int, Dep φ (S ++ T) → (∀ v ∈ S, v ∉ T → ¬ Asks φ v) → Dep φ T
  | [], h, _ => h
  | v :: S, h, hn => by
    refine dep_drop S (fun e e' he => ?_) fun u hu => hn u (by simp [hu])
    by_cases hv : v ∈ T
    · exact h e e' fun u hu => by
        rcases List.mem_append.1 hu with h1 | h1
        · rcases List.mem_cons.1 h1 with rfl | h2
          · exact he u (by simp [hv])
          · exact he u (by simp [h2])
        · exact he u (by simp [h1])
    · have hna := hn v (by simp) hv
      have hb : ∀ b, φ (upd e v b) = φ e := fun b => by
        have hs := upd_self e v
        have : φ (upd e v false) = φ (upd e v true) := Classical.byContradiction fun hc => hna ⟨e, hc⟩
        cases b <;> cases hv : e v <;> rw [hv] at hs
        · rw [hs]
        · rw [this, hs]
        · rw [← this, hs]
        · rw [hs]
      rw [← hb (e' v)]
      refine h _ _ fun u hu => ?_
      by_cases huv : u = v
      · subst huv; rw [upd_same]
      · rw [upd_ne _ _ huv]
        refine he u ?_
        rcases List.mem_append.1 hu with h1 | h1
        · rcases List.mem_cons.1 h1 with rfl | h2
          · exact absurd rfl huv
          · simp [h2]
        · simp [h1]
theorem dep_asked {n : Nat} {φ : Env → Bool} (h : DepN n φ) {e e' : Env} (he : ∀ v : Int, 0 ≤ v → v < n → Asks φ v → e v = e' v) : φ e = φ e' := by
  classical
  have := dep_drop (φ := φ) (T := ((List.range n).map fun (i : Nat) => (i : Int)).filter fun v => decide (Asks φ v)) ((List.range n).map fun (i : Nat) => (i : Int)) ((dep_depN.2 h).mono fun v hv => by simp [hv]) (fun v hv hT => by
    rw [List.mem_filter, not_and] at hT
    simpa using hT hv)
  refine this e e' fun v hv => ?_
  obtain ⟨h1, h2⟩ := List.mem_filter.1 hv
  obtain ⟨i, hi, rfl⟩ := List.mem_map.1 h1
  have := List.mem_range.1 hi
  exact he _ (by omega) (by omega) (by simpa using h2)

theorem renameT_tab {n : Nat} {φ : Env → Bool} (h : DepN n φ) {to : List Int} (hto : ∀ v, v < n → 0 ≤ toAt to v ∧ toAt to v < n) : renameT (tabOf n φ) n to = tabOf n (reT to φ) := by
  unfold renameT
  rw [tabOf_len]
  refine List.map_congr_left fun i hi => ?_
  have hi := List.mem_range.1 hi
  have hl : (oldWay (tabOf n φ) n to i).length = n := by simp [oldWay]
  have hlt := atF_lt (oldWay (tabOf n φ) n to i)
  rw [hl] at hlt
  rw [tabOf_at φ hlt]
  unfold reT
  refine dep_asked h fun v h0 h1 ha => ?_
  unfold envOf
  rw [way_at hl]
  have hv : v.toNat < n := by omega
  have hask := (asks_tab (v := v.toNat) h hv).2 (by rw [show ((v.toNat : Nat) : Int) = v by omega]; exact ha)
  simp [oldWay, tat, hv, toE] at hask ⊢
  simp [hask]
theorem reT_dep {n : Nat} {φ : Env → Bool} (h : DepN n φ) {to : List Int} (hto : ∀ v, v < n → 0 ≤ toAt to v ∧ toAt to v < n) : DepN n (reT to φ) := fun e e' he => h _ _ fun v h0 h1 => by
  obtain ⟨a, b⟩ := hto v.toNat (by omega)
  exact he _ a b
theorem exT_depN {n : Nat} {φ : Env → Bool} (h : DepN n φ) (vars : List Int) : DepN n (exT vars φ) := fun e e' he =>
  exT_dep (P := fun v => 0 ≤ v ∧ v < (n : Int)) (fun e e' he => h e e' fun v h0 h1 => he v ⟨h0, h1⟩) fun v hv => he v hv.1 hv.2
end Go.Bdd
