/- Plain laws of decision diagrams: Size is how many different parts a table has that ask something. No program in sight. -/
import Derived.Test.YtjajpdmmoiiojaaP5
namespace Go.Bdd
open Go.Mem Go.RowKit

def subT (t : List Bool) (n v j : Nat) : List Bool := (t.drop (j * 2 ^ (n - v))).take (2 ^ (n - v))
def asksPart (p : List Bool) (h : Nat) : Bool := !decide (p.take h = p.drop h)
def addPart (ps : List (List Bool)) (p : List Bool) (h : Nat) : List (List Bool) := if asksPart p h = true ∧ p ∉ ps then ps ++ [p] else ps
def partsV (t : List Bool) (n v : Nat) (ps : List (List Bool)) (j : Nat) : List (List Bool) := (List.range j).foldl (fun ps j => addPart ps (subT t n v j) (2 ^ (n - v - 1))) ps
def partsF (t : List Bool) (n v : Nat) : List (List Bool) := (List.range v).foldl (fun ps v => partsV t n v ps (2 ^ v)) []
theorem partsV_succ (t : List Bool) (n v : Nat) (ps : List (List Bool)) (j : Nat) : partsV t n v ps (j + 1) = addPart (partsV t n v ps j) (subT t n v j) (2 ^ (n - v - 1)) := by
  unfold partsV; rw [List.range_succ, List.foldl_append]; rfl
theorem partsF_succ (t : List Bool) (n v : Nat) : partsF t n (v + 1) = partsV t n v (partsF t n v) (2 ^ v) := by
  unfold partsF; rw [List.range_succ, List.foldl_append]; rfl

theorem addPart_nodup {ps : List (List Bool)} {p : List Bool} {h : Nat} (hn : ps.Nodup) : (addPart ps p h).Nodup := by
  unfold addPart
  split
  · rename_i hc
    refine List.nodup_append.2 ⟨hn, by simp, fun a ha b hb hab => hc.2 ?_⟩
    rw [List.mem_singleton] at hb
    rw [← hb, ← hab]; exact ha
  · exact hn
theorem addPart_mem {ps : List (List Bool)} {p q : List Bool} {h : Nat} : q ∈ addPart ps p h ↔ q ∈ ps ∨ (q = p ∧ asksPart p h = true) := by
  unfold addPart
  split
  · rename_i hc
    rw [List.mem_append, List.mem_singleton]
    constructor
    · rintro (a | rfl)
      · exact .inl a
      · exact .inr ⟨rfl, hc.1⟩
    · rintro (a | ⟨rfl, _⟩)
      · exact .inl a
      · exact .inr rfl
  · rename_i hc
    constructor
    · exact .inl
    · rintro (a | ⟨rfl, b⟩)
      · exact a
      · exact Classical.byContradiction fun hq => hc ⟨b, hq⟩
theorem partsV_spec (t : List Bool) (n v : Nat) (ps : List (List Bool)) (hn : ps.Nodup) : ∀ j, (partsV t n v ps j).Nodup ∧ ∀ q, q ∈ partsV t n v ps j ↔ q ∈ ps ∨ ∃ k, k < j ∧ q = subT t n v k ∧ asksPart q (2 ^ (n - v - 1)) = true
  | 0 => ⟨hn, fun q => by simp [partsV]⟩
  | j + 1 => by
    obtain ⟨h1, h2⟩ := partsV_spec t n v ps hn j
    rw [partsV_succ]
    refine ⟨addPart_nodup h1, fun q => ?_⟩
    rw [addPart_mem, h2]
    constructor
    · rintro ((a | ⟨k, a, b, c⟩) | ⟨a, b⟩)
      · exact .inl a
      · exact .inr ⟨k, by omega, b, c⟩
      · exact .inr ⟨j, by omega, a, by rw [a]; exact b⟩
    · rintro (a | ⟨k, a, b, c⟩)
      · exact .inl (.inl a)
      · by_cases hk : k < j
        · exact .inl (.inr ⟨k, hk, b, c⟩)
        · have : k = j := by omega
          subst this
          exact .inr ⟨b, by rw [← b]; exact c⟩
theorem partsF_spec (t : List Bool) (n : Nat) : ∀ v, (partsF t n v).Nodup ∧ ∀ q, q ∈ partsF t n v ↔ ∃ u k, u < v ∧ k < 2 ^ u ∧ q = subT t n u k ∧ asksPart q (2 ^ (n - u - 1)) = true
  | 0 => ⟨List.nodup_nil, fun q => by simp [partsF]⟩
  | v + 1 => by
    obtain ⟨h1, h2⟩ := partsF_spec t n v
    obtain ⟨h3, h4⟩ := partsV_spec t n v _ h1 (2 ^ v)
    rw [partsF_succ]
    refine ⟨h3, fun q => ?_⟩
    rw [h4, h2]
    constructor
    · rintro (⟨u, k, a, b, c⟩ | ⟨k, a, b⟩)
      · exact ⟨u, k, by omega, b, c⟩
      · exact ⟨v, k, by omega, a, b⟩
    · rintro ⟨u, k, a, b, c⟩
      by_cases hu : u < v
      · exact .inl ⟨u, k, hu, b, c⟩
      · have : u = v := by omega
        subst this
        exact .inr ⟨k, b, c⟩

theorem nodup_le {α : Type} [DecidableEq α] : ∀ (xs ys : List α), xs.Nodup → (∀ x ∈ xs, x ∈ ys) → xs.length ≤ ys.length
  | [], ys, _, _ => Nat.zero_le _
  | x :: xs, ys, hn, h => by
    obtain ⟨h1, h2⟩ := List.nodup_cons.1 hn
    have hx := h x (by simp)
    have := nodup_le xs (ys.erase x) h2 fun y hy => (List.mem_erase_of_ne (by rintro rfl; exact h1 hy)).2 (h y (by simp [hy]))
    rw [List.length_erase_of_mem hx] at this
    have := List.length_pos_of_mem hx
    simp only [List.length_cons]; omega

section
variable {s : Sto} {n : Nat}
def tabL (s : Sto) (n v : Nat) (g : Int) : List Bool := (List.range (2 ^ (n - v))).map fun i => D s.l (envOf n i) g
theorem subT_tab {φ : Env → Bool} {v j : Nat} (hv : v ≤ n) (hj : j < 2 ^ v) : subT (tabOf n φ) n v j = (List.range (2 ^ (n - v))).map fun i => φ (envOf n (2 ^ (n - v) * j + i)) := by
  unfold subT tabOf
  have hp : 2 ^ n = 2 ^ (n - v) * 2 ^ v := by rw [← Nat.pow_add]; congr 1; omega
  have hle : 2 ^ (n - v) * j + 2 ^ (n - v) ≤ 2 ^ n := by rw [hp, ← Nat.mul_succ]; exact Nat.mul_le_mul_left _ hj
  apply List.ext_getElem
  · simp only [List.length_take, List.length_drop, List.length_map, List.length_range]
    rw [Nat.mul_comm j]; omega
  · intro i h1 h2
    simp [Nat.mul_comm j]
theorem sub_node (i : Inv s) (hn : (n : Int) = s.vars) {f : Int} (hf : In s.l f) {v j : Nat} (hv : v ≤ n) (hj : j < 2 ^ v) : ∃ g, Reach s.l f g ∧ In s.l g ∧ (v : Int) ≤ (nd s.l g).1 ∧ subT (tabOf n fun e => D s.l e f) n v j = tabL s n v g := by
  obtain ⟨g, a, b, c, d⟩ := way_reach i.ok (v := v) (by omega) (envOf n (2 ^ (n - v) * j)) (f.toNat + 1) f (by omega) hf
  refine ⟨g, a, b, c, ?_⟩
  rw [subT_tab hv hj]
  unfold tabL
  refine List.map_congr_left fun k hk => ?_
  have hk := List.mem_range.1 hk
  rw [d _ fun u hu0 hu => ?_]
  · exact D_agree i.ok (m := (v : Int)) (fun u h0 h1 => envOf_hi (by omega) hk (by omega) (by omega)) b c
  · rw [envOf_bit n _ hu0 (by omega), envOf_bit n _ hu0 (by omega), Nat.testBit_two_pow_mul_add _ hk, if_neg (by omega)]
    have h0 := Nat.testBit_two_pow_mul_add j (Nat.two_pow_pos (n - v)) (n - 1 - u.toNat)
    rw [Nat.add_zero, if_neg (by omega)] at h0
    rw [h0]
theorem node_sub (i : Inv s) (hn : (n : Int) = s.vars) {f g : Int} (hf : In s.l f) (h2 : 2 ≤ g) (h : Reach s.l f g) : ∃ v j, v < n ∧ (v : Int) = (nd s.l g).1 ∧ j < 2 ^ v ∧ subT (tabOf n fun e => D s.l e f) n v j = tabL s n v g := by
  obtain ⟨hg, _, _⟩ := reach_in i.ok h hf
  have hk := i.ok.node g h2 hg.2
  have hv := hk.v0
  have hvn := hk.vn
  obtain ⟨v, hv'⟩ : ∃ v : Nat, (v : Int) = (nd s.l g).1 := ⟨(nd s.l g).1.toNat, by omega⟩
  obtain ⟨e, he⟩ := reach_way i.ok h hf
  have hj := num_lt v e
  refine ⟨v, num v e, by omega, hv', hj, ?_⟩
  rw [subT_tab (by omega) hj]
  unfold tabL
  refine List.map_congr_left fun k hk => ?_
  have hk := List.mem_range.1 hk
  rw [he _ fun u hu0 hu => ?_]
  · exact D_agree i.ok (m := (v : Int)) (fun u h0 h1 => envOf_hi (by omega) hk (by omega) (by omega)) hg (by omega)
  · rw [envOf_bit n _ hu0 (by omega), Nat.testBit_two_pow_mul_add _ hk, if_neg (by omega), show n - 1 - u.toNat - (n - v) = v - 1 - u.toNat by omega, ← envOf_bit v _ hu0 (by omega), envOf_num v e hu0 (by omega)]

/-- A part asks its first variable just where its node does. -/
theorem tabL_asks (i : Inv s) (hn : (n : Int) = s.vars) {g : Int} (hg : In s.l g) {v : Nat} (hv : v < n) (hvg : (v : Int) ≤ (nd s.l g).1) : asksPart (tabL s n v g) (2 ^ (n - v - 1)) = true ↔ (v : Int) = (nd s.l g).1 := by
  have hp : 2 ^ (n - v) = 2 ^ (n - v - 1) + 2 ^ (n - v - 1) := by
    have : 2 ^ (n - v) = 2 ^ (n - v - 1 + 1) := by congr 1; omega
    rw [this, Nat.pow_succ]; omega
  have htake : (tabL s n v g).take (2 ^ (n - v - 1)) = (List.range (2 ^ (n - v - 1))).map fun k => D s.l (envOf n k) g := by
    unfold tabL; rw [← List.map_take, List.take_range, Nat.min_eq_left (by rw [hp]; exact Nat.le_add_right _ _)]
  have hdrop : (tabL s n v g).drop (2 ^ (n - v - 1)) = (List.range (2 ^ (n - v - 1))).map fun k => D s.l (envOf n (2 ^ (n - v - 1) + k)) g := by
    unfold tabL
    rw [hp, List.range_add, List.map_append, List.drop_append_of_le_length (by simp)]
    rw [List.drop_of_length_le (by simp), List.map_map]; rfl
  have key : (tabL s n v g).take (2 ^ (n - v - 1)) = (tabL s n v g).drop (2 ^ (n - v - 1)) ↔ ∀ k, k < 2 ^ (n - v - 1) → D s.l (envOf n k) g = D s.l (envOf n (2 ^ (n - v - 1) + k)) g := by
    rw [htake, hdrop]
    constructor
    · intro h k hk
      have := congrArg (fun l => l[k]?) h
      simpa [hk] using this
    · intro h
      exact List.map_congr_left fun k hk => h k (List.mem_range.1 hk)
  unfold asksPart
  rw [Bool.not_eq_true', decide_eq_false_iff_not, key]
  constructor
  · intro h
    refine Classical.byContradiction fun hne => h fun k hk => ?_
    exact (half_skip i hn hg (by omega) (by omega) hk).symm
  · intro he h
    have h2 := i.ok.var_lt hg (by omega)
    obtain ⟨e, hx⟩ := asks_top i.ok h2 hg
    refine hx ?_
    have hm : ((n - v - 1 : Nat) : Int) = n - (nd s.l g).1 - 1 := by omega
    rw [D_lo i.ok e h2 hg, D_hi i.ok e h2 hg]
    have hk' := i.ok.node g h2 hg.2
    have hlt : num n e % 2 ^ (n - v - 1) < 2 ^ (n - v - 1) := Nat.mod_lt _ (Nat.two_pow_pos _)
    have ag : ∀ u : Int, (v : Int) + 1 ≤ u → u < s.vars → envOf n (num n e % 2 ^ (n - v - 1)) u = e u := fun u h0 h1 => by
      rw [envOf_bit n _ (by omega) (by omega), Nat.testBit_mod_two_pow, ← envOf_num n e (v := u) (by omega) (by omega), envOf_bit n _ (by omega) (by omega)]
      have : n - 1 - u.toNat < n - v - 1 := by omega
      simp [this]
    have hh := h _ hlt
    rw [half_lo i hn h2 hg hm hlt, half_hi i hn h2 hg hm hlt] at hh
    rw [← D_agree i.ok (m := (v : Int) + 1) ag (i.ok.lo_in h2 hg) (by have := hk'.vlo; omega), ← D_agree i.ok (m := (v : Int) + 1) ag (i.ok.hi_in h2 hg) (by have := hk'.vhi; omega)]
    exact hh
theorem tabL_inj (i : Inv s) (hn : (n : Int) = s.vars) {g h : Int} (hg : In s.l g) (hh : In s.l h) {v : Nat} (hv : v ≤ n) (vg : (v : Int) ≤ (nd s.l g).1) (vh : (v : Int) ≤ (nd s.l h).1) (he : tabL s n v g = tabL s n v h) : g = h := by
  refine canon i.ok hg hh fun e => ?_
  have hlt : num n e % 2 ^ (n - v) < 2 ^ (n - v) := Nat.mod_lt _ (Nat.two_pow_pos _)
  have ag : ∀ u : Int, (v : Int) ≤ u → u < s.vars → envOf n (num n e % 2 ^ (n - v)) u = e u := fun u h0 h1 => by
    rw [envOf_bit n _ (by omega) (by omega), Nat.testBit_mod_two_pow, ← envOf_num n e (v := u) (by omega) (by omega), envOf_bit n _ (by omega) (by omega)]
    have : n - 1 - u.toNat < n - v := by omega
    simp [this]
  have := congrArg (fun l => l[num n e % 2 ^ (n - v)]?) he
  simp only [tabL, List.getElem?_map, List.getElem?_range hlt, Option.map_some, Option.some.injEq] at this
  rw [D_agree i.ok ag hg vg, D_agree i.ok ag hh vh] at this
  exact this

theorem fold_size (vs : List Int) : ∀ c : Nat, (c : Int) + vs.length ≤ 9223372036854775807 → vs.foldl (fun (x : Int) _ => wrap64 (x + 1)) c = ((c + vs.length : Nat) : Int) := by
  induction vs with
  | nil => intro c _; rfl
  | cons v vs ih =>
    intro c hc
    simp only [List.length_cons] at hc
    rw [List.foldl_cons, wrap64_in ⟨by omega, by omega⟩, show (c : Int) + 1 = ((c + 1 : Nat) : Int) by omega, ih (c + 1) (by omega)]
    simp only [List.length_cons]; omega

/-- How many nodes a diagram has. -/
theorem size_res (i : Inv s) (hn : (n : Int) = s.vars) {k : Nat} {f : Int} (hf : In s.l f) (hk : n < k) (hl : (s.l.length : Int) ≤ 9223372036854775807) : sizeF k s f = some (((partsF (tabOf n fun e => D s.l e f) n n).length : Int), 0) ∧ (partsF (tabOf n fun e => D s.l e f) n n).length + 2 ≤ s.l.length := by
  have hv0 := i.v0 hf
  obtain ⟨r, d', vs, e, hnd, hm⟩ := visit_all i.ok (fun (x : Int) _ => wrap64 (x + 1)) f k f 0 hf (by omega)
  obtain ⟨pn, pm⟩ := partsF_spec (tabOf n fun e => D s.l e f) n n
  have two := i.ok.two
  have hlen : vs.length + 2 ≤ s.l.length := by
    have := nodup_le vs ((List.range (s.l.length - 2)).map fun (k : Nat) => (k : Int) + 2) hnd fun g hg => by
      obtain ⟨a, b⟩ := (hm g).1 hg
      obtain ⟨c, _, _⟩ := reach_in i.ok a hf
      have := c.2
      exact List.mem_map.2 ⟨(g - 2).toNat, List.mem_range.2 (by omega), by omega⟩
    simp at this; omega
  have hvr : ∀ g ∈ vs, In s.l g ∧ 0 ≤ (nd s.l g).1 ∧ (nd s.l g).1 < n := fun g hg => by
    obtain ⟨a, b⟩ := (hm g).1 hg
    obtain ⟨c, _, _⟩ := reach_in i.ok a hf
    have := i.ok.node g b c.2
    exact ⟨c, this.v0, by rw [hn]; exact this.vn⟩
  have hmap : (vs.map fun g => tabL s n (nd s.l g).1.toNat g).Nodup := by
    refine List.pairwise_map.2 (List.Pairwise.imp_of_mem (fun {a b} ha hb hne he => hne ?_) hnd)
    obtain ⟨a1, a2, a3⟩ := hvr a ha
    obtain ⟨b1, b2, b3⟩ := hvr b hb
    have hl := congrArg List.length he
    simp only [tabL, List.length_map, List.length_range] at hl
    have hp := (Nat.pow_right_inj (by omega)).1 hl
    have hv : (nd s.l a).1.toNat = (nd s.l b).1.toNat := by omega
    rw [← hv] at he
    exact tabL_inj i hn a1 b1 (v := (nd s.l a).1.toNat) (by omega) (by omega) (by omega) he
  have hsub : ∀ q, q ∈ (vs.map fun g => tabL s n (nd s.l g).1.toNat g) ↔ q ∈ partsF (tabOf n fun e => D s.l e f) n n := fun q => by
    rw [pm, List.mem_map]
    constructor
    · rintro ⟨g, hg, rfl⟩
      obtain ⟨a1, a2, a3⟩ := hvr g hg
      obtain ⟨v, j, b1, b2, b3, b4⟩ := node_sub i hn hf ((hm g).1 hg).2 ((hm g).1 hg).1
      have hv : (nd s.l g).1.toNat = v := by omega
      rw [hv]
      exact ⟨v, j, b1, b3, b4.symm, (tabL_asks i hn a1 b1 (by omega)).2 b2⟩
    · rintro ⟨v, j, b1, b3, rfl, b5⟩
      obtain ⟨g, c1, c2, c3, c4⟩ := sub_node i hn hf (v := v) (by omega) b3
      rw [c4] at b5 ⊢
      have hv := (tabL_asks i hn c2 b1 c3).1 b5
      refine ⟨g, (hm g).2 ⟨c1, i.ok.var_lt c2 (by omega)⟩, ?_⟩
      rw [show (nd s.l g).1.toNat = v by omega]
  have hlen2 : vs.length = (partsF (tabOf n fun e => D s.l e f) n n).length := by
    have h1 := nodup_le _ _ hmap fun q hq => (hsub q).1 hq
    have h2 := nodup_le _ _ pn fun q hq => (hsub q).2 hq
    simp only [List.length_map] at h1 h2
    omega
  rw [← hlen2]
  refine ⟨?_, hlen⟩
  unfold sizeF
  rw [if_neg (by rw [inB_in.2 hf]; simp), e]
  have := fold_size vs 0 (by omega)
  simp only [Option.map_some]
  rw [show (0 : Int) = ((0 : Nat) : Int) by rfl, this]; simp
end
end Go.Bdd
