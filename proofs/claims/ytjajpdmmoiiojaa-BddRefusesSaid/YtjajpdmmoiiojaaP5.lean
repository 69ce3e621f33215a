/- Plain laws of decision diagrams: Eval, Count, Pick and Size against tables of truth. No program in sight. -/
import Derived.Test.YtjajpdmmoiiojaaP4
namespace Go.Bdd
open Go.Mem Go.RowKit

theorem Inv.v0 {s : Sto} (i : Inv s) {f : Int} (hf : In s.l f) : 0 ≤ (nd s.l f).1 := by
  by_cases h2 : 2 ≤ f
  · exact (i.ok.node f h2 hf.2).v0
  · rw [i.ok.var_end hf (by omega)]; exact i.vars
theorem Inv.depN {s : Sto} (i : Inv s) {n : Nat} (hn : (n : Int) = s.vars) {f : Int} (hf : In s.l f) : DepN n fun e => D s.l e f := fun e e' he =>
  D_agree i.ok (m := (nd s.l f).1) (fun v h1 h2 => he v (by have := i.v0 hf; omega) (by omega)) hf (Int.le_refl _)

/-! ### Eval -/
def envL (is : List Bool) : Env := fun v => tat is v.toNat
theorem eval_to {n : Int} {l : List T3} (ok : Ok n l) {is : List Bool} (hl : (is.length : Int) = n) : ∀ (k : Nat) (f : Int), In l f → n - (nd l f).1 < k → ∃ r, evalL l is k f = some r ∧ (r == 1) = D l (envL is) f
  | 0, f, hf, hk => by have := ok.var_le hf; omega
  | k + 1, f, hf, hk => by
    unfold evalL
    by_cases h2 : f ≤ 1
    · rw [if_pos h2]
      exact ⟨f, rfl, (D_end _ (by omega)).symm⟩
    rw [if_neg h2]
    have h2' : 2 ≤ f := by omega
    have hn := ok.node f h2' hf.2
    have h0 := hn.v0; have h1 := hn.vn; have h6 := hn.vlo; have h7 := hn.vhi
    have hb : nth is (nd l f).1 = some (envL is (nd l f).1) := by
      have : (nd l f).1.toNat < is.length := by omega
      simp [nth, h0, envL, tat, this]
    simp only [nth_in hf, hb]
    rw [D_node ok _ h2' hf]
    cases envL is (nd l f).1 with
    | false => exact eval_to ok hl k _ (ok.lo_in h2' hf) (by simp only [Bool.false_eq_true, if_false]; omega)
    | true => exact eval_to ok hl k _ (ok.hi_in h2' hf) (by simp only [if_true]; omega)
theorem eval_res {s : Sto} (i : Inv s) {k : Nat} {f : Int} (hf : In s.l f) {is : List Bool} (hl : (is.length : Int) = s.vars) (hk : s.vars < k) : evalF k s f is = some (D s.l (envL is) f, 0) := by
  have := i.v0 hf
  obtain ⟨r, h1, h2⟩ := eval_to i.ok hl k f hf (by omega)
  unfold evalF
  rw [if_neg (by rw [inB_in.2 hf]; simp), if_neg (by simp [hl]), h1]
  simp [h2]

/-! ### Ways by number: a bit more -/
theorem envOf_low {n m i : Nat} (hi : i < 2 ^ m) {u : Int} (h0 : 0 ≤ u) (h1 : u < (n : Int) - m) : envOf n i u = false := by
  rw [envOf_bit n i h0 (by omega)]
  exact Nat.testBit_lt_two_pow (Nat.lt_of_lt_of_le hi (Nat.pow_le_pow_right (by omega) (by omega)))
theorem envOf_hi {n m j i : Nat} (hm : m ≤ n) (hi : i < 2 ^ m) {u : Int} (h0 : (n : Int) - m ≤ u) (h1 : u < n) : envOf n (2 ^ m * j + i) u = envOf n i u := by
  rw [envOf_bit n _ (by omega) h1, envOf_bit n _ (by omega) h1, Nat.testBit_two_pow_mul_add _ hi, if_pos (by omega)]
theorem envOf_top {n m i : Nat} (hm : m < n) (hi : i < 2 ^ m) : envOf n (2 ^ m + i) ((n : Int) - m - 1) = true := by
  have := Nat.testBit_two_pow_mul_add 1 hi (n - 1 - ((n : Int) - m - 1).toNat)
  rw [Nat.mul_one] at this
  rw [envOf_bit n _ (by omega) (by omega), this, if_neg (by omega), show n - 1 - ((n : Int) - m - 1).toNat - m = 0 by omega]
  rfl
theorem envOf_add {n m i : Nat} (hm : m < n) (hi : i < 2 ^ m) {u : Int} (h0 : (n : Int) - m ≤ u) (h1 : u < n) : envOf n (2 ^ m + i) u = envOf n i u := by
  have := envOf_hi (j := 1) (Nat.le_of_lt hm) hi h0 h1
  rwa [Nat.mul_one] at this

section
variable {s : Sto} {n : Nat}
/-- The lower half of a node's ways is its no-side's, the upper half its yes-side's. -/
theorem half_lo (i : Inv s) (hn : (n : Int) = s.vars) {f : Int} (h2 : 2 ≤ f) (hf : In s.l f) {m k : Nat} (hm : (m : Int) = n - (nd s.l f).1 - 1) (hk : k < 2 ^ m) : D s.l (envOf n k) f = D s.l (envOf n k) (nd s.l f).2.1 := by
  have hk' := i.ok.node f h2 hf.2
  have hv := hk'.v0
  rw [D_node i.ok _ h2 hf, envOf_low hk hv (by omega), if_neg (by simp)]
theorem half_hi (i : Inv s) (hn : (n : Int) = s.vars) {f : Int} (h2 : 2 ≤ f) (hf : In s.l f) {m k : Nat} (hm : (m : Int) = n - (nd s.l f).1 - 1) (hk : k < 2 ^ m) : D s.l (envOf n (2 ^ m + k)) f = D s.l (envOf n k) (nd s.l f).2.2 := by
  have hk' := i.ok.node f h2 hf.2
  have hv := hk'.v0
  have hvn := hk'.vn
  have e : (nd s.l f).1 = (n : Int) - m - 1 := by omega
  rw [D_node i.ok _ h2 hf, e, envOf_top (by omega) hk, if_pos rfl]
  exact D_agree i.ok (m := (nd s.l f).1 + 1) (fun u h0 h1 => envOf_add (by omega) hk (by omega) (by omega)) (i.ok.hi_in h2 hf) hk'.vhi
theorem half_skip (i : Inv s) (hn : (n : Int) = s.vars) {f : Int} (hf : In s.l f) {m k : Nat} (hm : (n : Int) - m ≤ (nd s.l f).1) (hmn : m < n) (hk : k < 2 ^ m) : D s.l (envOf n (2 ^ m + k)) f = D s.l (envOf n k) f :=
  D_agree i.ok (m := (n : Int) - m) (fun u h0 h1 => envOf_add (by omega) hk h0 (by omega)) hf hm

/-! ### Count -/
def cnt (n : Nat) (φ : Env → Bool) (m : Nat) : Nat := (List.range m).countP fun i => φ (envOf n i)
theorem cnt_double {φ ψ : Env → Bool} {m : Nat} (h : ∀ i, i < 2 ^ m → φ (envOf n (2 ^ m + i)) = ψ (envOf n i)) : cnt n φ (2 ^ (m + 1)) = cnt n φ (2 ^ m) + cnt n ψ (2 ^ m) := by
  unfold cnt
  rw [show 2 ^ (m + 1) = 2 ^ m + 2 ^ m by rw [Nat.pow_succ]; omega, List.range_add, List.countP_append, List.countP_map]
  congr 1
  exact List.countP_congr fun i hi => by
    have := h i (List.mem_range.1 hi)
    simp [this]
theorem cnt_congr {φ ψ : Env → Bool} {m : Nat} (h : ∀ i, i < m → φ (envOf n i) = ψ (envOf n i)) : cnt n φ m = cnt n ψ m :=
  List.countP_congr fun i hi => by rw [h i (List.mem_range.1 hi)]
theorem cnt_tab (φ : Env → Bool) : countT (tabOf n φ) = cnt n φ (2 ^ n) := by
  unfold countT tabOf cnt
  rw [List.countP_map]; rfl
theorem cnt_le (φ : Env → Bool) (m : Nat) : cnt n φ m ≤ m := by
  have := List.countP_le_length (p := fun i => φ (envOf n i)) (l := List.range m)
  simpa [cnt] using this
/-- Ways of the variables below a node's own. -/
def Cf (s : Sto) (n : Nat) (f : Int) : Nat := cnt n (fun e => D s.l e f) (2 ^ (n - (nd s.l f).1.toNat))
theorem cnt_skip (i : Inv s) (hn : (n : Int) = s.vars) {f : Int} (hf : In s.l f) : ∀ d m : Nat, (m : Int) = n - (nd s.l f).1 → m + d ≤ n → cnt n (fun e => D s.l e f) (2 ^ (m + d)) = 2 ^ d * Cf s n f
  | 0, m, hm, _ => by
    have := i.v0 hf
    have hv := i.ok.var_le hf
    rw [Nat.pow_zero, Nat.one_mul]; unfold Cf; rw [show n - (nd s.l f).1.toNat = m + 0 by omega]
  | d + 1, m, hm, hd => by
    rw [show m + (d + 1) = m + d + 1 by omega, cnt_double (ψ := fun e => D s.l e f) fun j hj => half_skip i hn hf (by omega) (by omega) hj, cnt_skip i hn hf d m hm (by omega), Nat.pow_succ]
    rw [Nat.mul_comm (2 ^ d) 2, Nat.mul_assoc]; omega
theorem Cf_level (i : Inv s) (hn : (n : Int) = s.vars) {f : Int} (hf : In s.l f) {v : Nat} (hv : (v : Int) ≤ (nd s.l f).1) : cnt n (fun e => D s.l e f) (2 ^ (n - v)) = 2 ^ ((nd s.l f).1.toNat - v) * Cf s n f := by
  have h0 := i.v0 hf
  have hv' := i.ok.var_le hf
  have := cnt_skip i hn hf ((nd s.l f).1.toNat - v) (n - (nd s.l f).1.toNat) (by omega) (by omega)
  rw [← this]; congr 2; omega
theorem Cf_node (i : Inv s) (hn : (n : Int) = s.vars) {f : Int} (h2 : 2 ≤ f) (hf : In s.l f) : Cf s n f = cnt n (fun e => D s.l e (nd s.l f).2.1) (2 ^ (n - ((nd s.l f).1.toNat + 1))) + cnt n (fun e => D s.l e (nd s.l f).2.2) (2 ^ (n - ((nd s.l f).1.toNat + 1))) := by
  have hk := i.ok.node f h2 hf.2
  have hv := hk.v0
  have hvn := hk.vn
  unfold Cf
  rw [show n - (nd s.l f).1.toNat = n - ((nd s.l f).1.toNat + 1) + 1 by omega, cnt_double (ψ := fun e => D s.l e (nd s.l f).2.2) fun j hj => half_hi i hn h2 hf (by omega) hj]
  congr 1
  exact cnt_congr fun j hj => half_lo i hn h2 hf (by omega) hj

def CDone (s : Sto) (n : Nat) (d : List (Int × Int)) : Prop := ∀ g c, mget d g = some c → c = (Cf s n g : Int)
theorem wrap64_in {x : Int} (h : -9223372036854775808 ≤ x ∧ x ≤ 9223372036854775807) : wrap64 x = x := by unfold wrap64; omega
theorem shlU_small {c : Nat} {x : Int} {d : Nat} (hx : x = d) (hc : c * 2 ^ d < 18446744073709551616) (hd : d ≤ 60) : shlU c x = ((2 ^ d * c : Nat) : Int) := by
  subst hx
  unfold shlU
  rw [IntWalk.u64_in (d : Int) ⟨by omega, by omega⟩, show min (d : Int).toNat 64 = d by omega, show (c : Int) * 2 ^ d = ((c * 2 ^ d : Nat) : Int) by simp, IntWalk.u64_in _ ⟨by omega, by omega⟩, Nat.mul_comm]
theorem from_res (i : Inv s) (hn : (n : Int) = s.vars) (hs : n ≤ 60) : ∀ (k : Nat) (d : List (Int × Int)) (f : Int) (v : Nat), In s.l f → (v : Int) ≤ (nd s.l f).1 → (n : Int) - (nd s.l f).1 < k → CDone s n d →
    ∃ d', fromF s.l k d f v = some (((cnt n (fun e => D s.l e f) (2 ^ (n - v)) : Nat) : Int), d') ∧ CDone s n d'
  | 0, d, f, v, hf, hv, hk, hd => by have := i.ok.var_le hf; omega
  | k + 1, d, f, v, hf, hv, hk, hd => by
    have hv0 := i.v0 hf
    have hvn := i.ok.var_le hf
    have p60 : (2 : Nat) ^ n ≤ 2 ^ 60 := Nat.pow_le_pow_right (by omega) hs
    have e60 : (2 : Nat) ^ 60 = 1152921504606846976 := by decide
    unfold fromF
    by_cases h0 : f = 0
    · rw [if_pos h0]
      subst h0
      refine ⟨d, ?_, hd⟩
      have : cnt n (fun e => D s.l e 0) (2 ^ (n - v)) = 0 := by
        unfold cnt; rw [List.countP_eq_zero]; intro j _; show ¬ D s.l (envOf n j) 0 = true; rw [D_end (f := 0) _ (by omega)]; simp
      rw [this]; rfl
    rw [if_neg h0]
    have hlev := Cf_level i hn hf hv
    have hle := cnt_le (n := n) (fun e => D s.l e f) (2 ^ (n - v))
    have hp : 2 ^ (n - v) ≤ 2 ^ n := Nat.pow_le_pow_right (by omega) (by omega)
    have hsh : shlU (Cf s n f : Int) (wrap64 ((nd s.l f).1 - v)) = ((cnt n (fun e => D s.l e f) (2 ^ (n - v)) : Nat) : Int) := by
      rw [hlev]
      refine shlU_small ?_ ?_ (by omega)
      · rw [wrap64_in ⟨by omega, by omega⟩]; omega
      · rw [Nat.mul_comm, ← hlev]; omega
    simp only [nth_in hf]
    cases hg : mget d f with
    | some c =>
      have := hd f c hg
      subst this
      simp only
      exact ⟨d, by rw [hsh], hd⟩
    | none =>
      simp only
      by_cases h1 : f ≤ 1
      · rw [if_pos h1]
        have h1' : f = 1 := by have := hf.1; omega
        subst h1'
        have hc : Cf s n 1 = 1 := by
          unfold Cf
          rw [i.ok.one, show n - (s.vars, (1 : Int), (1 : Int)).1.toNat = 0 by simp only; omega]
          unfold cnt
          rw [show List.range (2 ^ 0) = [0] by decide]
          simp [D_end]
        rw [hc] at hsh
        refine ⟨_, congrArg (fun x => some (x, _)) hsh, fun g c hg' => ?_⟩
        rw [mget_mput] at hg'
        by_cases hgf : (1 : Int) = g
        · subst hgf; rw [if_pos rfl, Option.some.injEq] at hg'; rw [hc]; exact hg'.symm
        · rw [if_neg hgf] at hg'; exact hd g c hg'
      rw [if_neg h1]
      have h2 : 2 ≤ f := by omega
      have hk' := i.ok.node f h2 hf.2
      have hvl := hk'.vlo; have hvh := hk'.vhi; have hvn' := hk'.vn
      have ew : wrap64 ((nd s.l f).1 + 1) = (((nd s.l f).1.toNat + 1 : Nat) : Int) := by rw [wrap64_in ⟨by omega, by omega⟩]; omega
      obtain ⟨d0, e0, D0⟩ := from_res i hn hs k d (nd s.l f).2.1 ((nd s.l f).1.toNat + 1) (i.ok.lo_in h2 hf) (by omega) (by omega) hd
      obtain ⟨d1, e1, D1⟩ := from_res i hn hs k d0 (nd s.l f).2.2 ((nd s.l f).1.toNat + 1) (i.ok.hi_in h2 hf) (by omega) (by omega) D0
      simp only [ew, e0, e1]
      have hc := Cf_node i hn h2 hf
      have l0 := cnt_le (n := n) (fun e => D s.l e (nd s.l f).2.1) (2 ^ (n - ((nd s.l f).1.toNat + 1)))
      have l1 := cnt_le (n := n) (fun e => D s.l e (nd s.l f).2.2) (2 ^ (n - ((nd s.l f).1.toNat + 1)))
      have hp' : 2 ^ (n - ((nd s.l f).1.toNat + 1)) ≤ 2 ^ n := Nat.pow_le_pow_right (by omega) (by omega)
      have hw : IntKind.u64.wrap (((cnt n (fun e => D s.l e (nd s.l f).2.1) (2 ^ (n - ((nd s.l f).1.toNat + 1))) : Nat) : Int) + ((cnt n (fun e => D s.l e (nd s.l f).2.2) (2 ^ (n - ((nd s.l f).1.toNat + 1))) : Nat) : Int)) = (Cf s n f : Int) := by
        rw [IntWalk.u64_in _ ⟨by omega, by omega⟩, hc]; omega
      rw [hw]
      refine ⟨_, by rw [hsh], fun g c hg' => ?_⟩
      rw [mget_mput] at hg'
      by_cases hgf : f = g
      · subst hgf; rw [if_pos rfl, Option.some.injEq] at hg'; exact hg'.symm
      · rw [if_neg hgf] at hg'; exact D1 g c hg'
theorem count_res (i : Inv s) (hn : (n : Int) = s.vars) (hs : n ≤ 60) {k : Nat} {f : Int} (hf : In s.l f) (hk : n < k) : countF k s f = some (((countT (tabOf n fun e => D s.l e f) : Nat) : Int), 0) := by
  have hv0 := i.v0 hf
  obtain ⟨d', e, _⟩ := from_res i hn hs k [] f 0 hf hv0 (by omega) (fun g c h => by simp [mget] at h)
  unfold countF
  rw [if_neg (by rw [inB_in.2 hf]; simp)]
  rw [show (0 : Int) = ((0 : Nat) : Int) by rfl, e, cnt_tab]; rfl

theorem rep_tat (m u : Nat) : tat (List.replicate m false) u = false := by
  unfold tat
  rw [List.getD_eq_getElem?_getD, List.getElem?_replicate]
  split <;> rfl
/-! ### Pick -/
theorem atF_set (l : List Bool) : ∀ v, v < l.length → tat l v = false → atF (l.set v true) = atF l + 2 ^ (l.length - 1 - v) := by
  induction l using rev_ind with
  | h0 => intro v hv; simp at hv
  | h1 l b ih =>
    intro v hv hb
    rw [List.length_append, List.length_singleton] at hv ⊢
    by_cases h : v < l.length
    · rw [List.set_append_left _ _ h, atF_snoc, atF_snoc, ih v h (by simpa [tat, List.getElem?_append_left h] using hb), show l.length + 1 - 1 - v = (l.length - 1 - v) + 1 by omega, Nat.pow_succ]
      omega
    · have : v = l.length := by omega
      subst this
      have hb' : b = false := by simpa [tat] using hb
      subst hb'
      rw [List.set_append_right _ _ (by omega), Nat.sub_self, List.set_cons_zero, atF_snoc, atF_snoc, show l.length + 1 - 1 - l.length = 0 by omega]
      simp

/-- The first way's number. -/
def First (s : Sto) (n : Nat) (f : Int) (a : Nat) : Prop := a < 2 ^ (n - (nd s.l f).1.toNat) ∧ D s.l (envOf n a) f = true ∧ ∀ j, j < a → D s.l (envOf n j) f = false
theorem pick_to (i : Inv s) (hn : (n : Int) = s.vars) : ∀ (k : Nat) (f : Int) (way : List Bool), In s.l f → f ≠ 0 → (n : Int) - (nd s.l f).1 < k → way.length = n → (∀ u : Nat, (nd s.l f).1 ≤ u → u < n → tat way u = false) →
    ∃ w a, pickL s.l k f way = some w ∧ w.length = n ∧ atF w = atF way + a ∧ First s n f a
  | 0, f, way, hf, h0, hk, _, _ => by have := i.ok.var_le hf; omega
  | k + 1, f, way, hf, h0, hk, hw, hz => by
    have hv0 := i.v0 hf
    unfold pickL
    by_cases h1 : f ≤ 1
    · rw [if_pos h1]
      have h1' : f = 1 := by have := hf.1; omega
      subst h1'
      exact ⟨way, 0, rfl, hw, rfl, Nat.two_pow_pos _, by rw [D_end _ (by omega)]; rfl, fun j hj => by omega⟩
    rw [if_neg h1]
    have h2 : 2 ≤ f := by omega
    have hk' := i.ok.node f h2 hf.2
    have hvl := hk'.vlo; have hvh := hk'.vhi; have hvn := hk'.vn
    simp only [nth_in hf]
    have hm : ((n - (nd s.l f).1.toNat - 1 : Nat) : Int) = n - (nd s.l f).1 - 1 := by omega
    have hpow : 2 ^ (n - (nd s.l f).1.toNat) = 2 ^ (n - (nd s.l f).1.toNat - 1) + 2 ^ (n - (nd s.l f).1.toNat - 1) := by
      rw [show n - (nd s.l f).1.toNat = n - (nd s.l f).1.toNat - 1 + 1 by omega, Nat.pow_succ]; simp; omega
    by_cases hlo : (nd s.l f).2.1 = 0
    · rw [if_pos hlo, if_pos (by omega)]
      have hhi0 : (nd s.l f).2.2 ≠ 0 := fun h => hk'.ne (by rw [hlo, h])
      obtain ⟨w, a, e, hl, ha, hF, hT, hN⟩ := pick_to i hn k (nd s.l f).2.2 (way.set (nd s.l f).1.toNat true) (i.ok.hi_in h2 hf) hhi0 (by omega) (by simpa using hw) (fun u hu hun => by
        have := hz u (by omega) hun
        have hne : (nd s.l f).1.toNat ≠ u := by omega
        simpa [tat, List.getElem?_set_ne hne] using this)
      have hset := atF_set way (nd s.l f).1.toNat (by omega) (hz _ (by omega) (by omega))
      have hvi := i.v0 (i.ok.hi_in h2 hf)
      have hle : 2 ^ (n - (nd s.l (nd s.l f).2.2).1.toNat) ≤ 2 ^ (n - (nd s.l f).1.toNat - 1) := Nat.pow_le_pow_right (by omega) (by omega)
      refine ⟨w, 2 ^ (n - (nd s.l f).1.toNat - 1) + a, e, hl, ?_, by omega, ?_, fun j hj => ?_⟩
      · rw [ha, hset, show way.length - 1 - (nd s.l f).1.toNat = n - (nd s.l f).1.toNat - 1 by omega]; omega
      · rw [half_hi i hn h2 hf hm (by omega)]; exact hT
      · by_cases hj2 : j < 2 ^ (n - (nd s.l f).1.toNat - 1)
        · rw [half_lo i hn h2 hf hm hj2, hlo, D_end _ (by omega)]; rfl
        · obtain ⟨j', rfl⟩ : ∃ j', j = 2 ^ (n - (nd s.l f).1.toNat - 1) + j' := ⟨j - 2 ^ (n - (nd s.l f).1.toNat - 1), by omega⟩
          rw [half_hi i hn h2 hf hm (by omega)]; exact hN j' (by omega)
    · rw [if_neg hlo]
      obtain ⟨w, a, e, hl, ha, hF, hT, hN⟩ := pick_to i hn k (nd s.l f).2.1 way (i.ok.lo_in h2 hf) hlo (by omega) hw (fun u hu hun => hz u (by omega) hun)
      have hvi := i.v0 (i.ok.lo_in h2 hf)
      have hle : 2 ^ (n - (nd s.l (nd s.l f).2.1).1.toNat) ≤ 2 ^ (n - (nd s.l f).1.toNat - 1) := Nat.pow_le_pow_right (by omega) (by omega)
      exact ⟨w, a, e, hl, ha, by omega, by rw [half_lo i hn h2 hf hm (by omega)]; exact hT, fun j hj => by rw [half_lo i hn h2 hf hm (by omega)]; exact hN j hj⟩
theorem pick_res (i : Inv s) (hn : (n : Int) = s.vars) {k : Nat} {f : Int} (hf : In s.l f) (h0 : f ≠ 0) (hk : n < k) : ∃ w, pickF k s f = some (w, 0) ∧ w.length = n ∧ atF w < 2 ^ n ∧ tat (tabOf n fun e => D s.l e f) (atF w) = true ∧ ∀ j, j < atF w → tat (tabOf n fun e => D s.l e f) j = false := by
  have hv0 := i.v0 hf
  obtain ⟨w, a, e, hl, ha, hF, hT, hN⟩ := pick_to i hn k f (List.replicate s.vars.toNat false) hf h0 (by omega) (by simp; omega) (fun u _ hu => rep_tat _ u)
  have hz : ∀ m, atF (List.replicate m false) = 0 := fun m => by
    induction m with
    | zero => rfl
    | succ m ih => rw [List.replicate_succ', atF_snoc, ih]; rfl
  rw [hz, Nat.zero_add] at ha
  have hlt : atF w < 2 ^ n := by rw [ha]; exact Nat.lt_of_lt_of_le hF (Nat.pow_le_pow_right (by omega) (by omega))
  refine ⟨w, ?_, hl, hlt, ?_, fun j hj => ?_⟩
  · unfold pickF
    rw [if_neg (by rw [inB_in.2 hf]; simp [h0]), e]; rfl
  · rw [tabOf_at _ hlt, ha]; exact hT
  · rw [tabOf_at _ (by omega)]; exact hN j (by omega)
end
end Go.Bdd
