/- Package sat's heap as plain data: what keeps it whole, and that no step of it fails. -/
import Derived.Test.YtfpjfogddepbkaaCz01
set_option linter.unusedSimpArgs false
set_option linter.unusedVariables false
namespace Go.Sat
/-- The heap's entries and their places, one with the other. -/
structure Hp (h pl : List Int) (nv : Nat) : Prop where
  len : pl.length = nv
  pos : 1 ≤ nv
  at' : ∀ (i : Nat) v, h[i]? = some v → 1 ≤ v ∧ v < nv ∧ pl[v.toNat]? = some (i : Int)
  inv : ∀ (v : Nat) p, pl[v]? = some p → p < 0 ∨ h[p.toNat]? = some (v : Int)
def inH (s : St) (u : Nat) : Prop := ∃ p, s.place[u]? = some p ∧ 0 ≤ p
abbrev Hps (s : St) : Prop := Hp s.heap s.place s.vars.length
/-- All but the heap and the places is as it was; none that was in the heap has left it. -/
structure HSame (s s' : St) : Prop where
  eq : s' = { s with heap := s'.heap, place := s'.place }
  hp : Hps s'
  len : s'.heap.length = s.heap.length
  mem : ∀ u, inH s u → inH s' u
theorem nth_nat {α : Type} (l : List α) (i : Nat) : nth l (i : Int) = l[i]? := by unfold nth; simp
theorem nth_pos {α : Type} (l : List α) {i : Int} (h : 0 ≤ i) : nth l i = l[i.toNat]? := by unfold nth; rw [if_pos h]
theorem setN_ok {α : Type} (l : List α) {i : Int} (v : α) (h : 0 ≤ i) (hl : i.toNat < l.length) : setN l i v = some (l.set i.toNat v) := by unfold setN; rw [if_pos ⟨h, hl⟩]
theorem get_lt {α : Type} {l : List α} {i : Nat} {x : α} (h : l[i]? = some x) : i < l.length := (List.getElem?_eq_some_iff.1 h).1
theorem get_some {α : Type} {l : List α} {i : Nat} (h : i < l.length) : ∃ x, l[i]? = some x := ⟨_, List.getElem?_eq_getElem h⟩
theorem set_get {α : Type} {l : List α} {i j : Nat} {v : α} : (l.set i v)[j]? = if i = j then (if j < l.length then some v else none) else l[j]? := by
  rw [List.getElem?_set]
  by_cases h : i = j
  · subst h; simp
  · simp [h]
/-- A place in the heap is to be filled with v. -/
def Hole (h pl : List Int) (nv : Nat) (i : Nat) (v : Int) : Prop := i < h.length ∧ 1 ≤ v ∧ v < nv ∧ Hp (h.set i v) (pl.set v.toNat i) nv
theorem Hp.hole {h pl : List Int} {nv i : Nat} {v : Int} (H : Hp h pl nv) (hi : h[i]? = some v) : Hole h pl nv i v := by
  obtain ⟨h1, h2, h3⟩ := H.at' i v hi
  refine ⟨get_lt hi, h1, h2, ?_⟩
  have e1 : h.set i v = h := by
    apply List.ext_getElem?
    intro j
    rw [set_get]
    split
    · rename_i e; subst e; rw [if_pos (get_lt hi), hi]
    · rfl
  have e2 : pl.set v.toNat (i : Int) = pl := by
    apply List.ext_getElem?
    intro j
    rw [set_get]
    split
    · rename_i e; subst e; rw [if_pos (get_lt h3), h3]
    · rfl
  rw [e1, e2]; exact H
/-- The one at j comes down to the hole; the hole is at j. -/
theorem Hole.swap {h pl : List Int} {nv i j : Nat} {v p : Int} (H : Hole h pl nv i v) (hij : i ≠ j) (hj : h[j]? = some p) : 1 ≤ p ∧ p < nv ∧ p ≠ v ∧ Hole (h.set i p) (pl.set p.toNat i) nv j v := by
  obtain ⟨hi, hv1, hv2, H⟩ := H
  have hlen : pl.length = nv := by have := H.len; simpa using this
  have hj2 : (h.set i v)[j]? = some p := by rw [set_get, if_neg hij]; exact hj
  obtain ⟨p1, p2, p3⟩ := H.at' j p hj2
  have hpv : p ≠ v := fun e => by
    have hi2 : (h.set i v)[i]? = some v := by rw [set_get, if_pos rfl, if_pos hi]
    obtain ⟨_, _, h3⟩ := H.at' i v hi2
    rw [e, h3] at p3
    injection p3 with p3
    omega
  have hpt : p.toNat ≠ v.toNat := fun e => hpv (by omega)
  refine ⟨p1, p2, hpv, by rw [List.length_set]; exact get_lt hj, hv1, hv2, by simpa using hlen, H.pos, fun k u hk => ?_, fun u q hq => ?_⟩
  · rw [set_get] at hk
    rw [set_get]
    by_cases hjk : j = k
    · subst hjk
      rw [if_pos rfl] at hk
      split at hk
      · cases hk
        refine ⟨hv1, hv2, ?_⟩
        rw [if_pos rfl, if_pos (by simp [hlen]; omega)]
      · cases hk
    · rw [if_neg hjk, set_get] at hk
      by_cases hik : i = k
      · subst hik
        rw [if_pos rfl, if_pos hi] at hk
        cases hk
        refine ⟨p1, p2, ?_⟩
        rw [if_neg (fun e => hpt e.symm), set_get, if_pos rfl, if_pos (by omega)]
      · rw [if_neg hik] at hk
        have hk2 : (h.set i v)[k]? = some u := by rw [set_get, if_neg hik]; exact hk
        obtain ⟨u1, u2, u3⟩ := H.at' k u hk2
        refine ⟨u1, u2, ?_⟩
        rw [set_get] at u3
        have huv : v.toNat ≠ u.toNat := fun e => by
          rw [if_pos e, if_pos (by omega)] at u3
          injection u3 with u3
          omega
        rw [if_neg huv] at u3
        rw [if_neg huv, set_get]
        have hup : p.toNat ≠ u.toNat := fun e => by
          rw [set_get, if_neg (fun e => hpt e.symm), e, u3] at p3
          injection p3 with p3
          omega
        rw [if_neg hup]
        exact u3
  · rw [set_get] at hq
    by_cases hvu : v.toNat = u
    · rw [if_pos hvu] at hq
      split at hq
      · cases hq
        right
        rw [show ((j : Int)).toNat = j from by omega, set_get, if_pos rfl, if_pos (by rw [List.length_set]; exact get_lt hj)]
        congr 1; omega
      · cases hq
    · rw [if_neg hvu, set_get] at hq
      by_cases hpu : p.toNat = u
      · rw [if_pos hpu] at hq
        split at hq
        · cases hq
          right
          rw [show ((i : Int)).toNat = i from by omega, set_get, if_neg (fun e => hij e.symm), set_get, if_pos rfl, if_pos hi]
          congr 1; omega
        · cases hq
      · rw [if_neg hpu] at hq
        rcases H.inv u q (by rw [set_get, if_neg hvu]; exact hq) with h1 | h1
        · exact .inl h1
        · right
          rw [set_get] at h1
          have hiq : i ≠ q.toNat := fun e => by
            rw [if_pos e, if_pos (by omega)] at h1
            injection h1 with h1
            omega
          rw [if_neg hiq] at h1
          have hjq : j ≠ q.toNat := fun e => by
            rw [← e, hj] at h1
            injection h1 with h1
            omega
          rw [set_get, if_neg hjq, set_get, if_neg hiq]
          exact h1
theorem layF_ok {s : St} {i : Nat} {v : Int} (hi : i < s.heap.length) (hv : 0 ≤ v ∧ v.toNat < s.place.length) : layF s v i = some { s with heap := s.heap.set i v, place := s.place.set v.toNat i } := by
  unfold layF
  rw [setN_ok _ _ (by omega) (by omega), setN_ok _ _ hv.1 hv.2]
  rfl
theorem ahead_ok {s : St} {v w : Int} (hv : 0 ≤ v ∧ v.toNat < s.vars.length) (hw : 0 ≤ w ∧ w.toNat < s.vars.length) : ∃ b, aheadF s v w = some b := by
  obtain ⟨a, ha⟩ := get_some hv.2
  obtain ⟨b, hb⟩ := get_some hw.2
  unfold aheadF
  rw [nth_pos _ hv.1, nth_pos _ hw.1, ha, hb]
  exact ⟨_, rfl⟩
theorem inH_set {s : St} {h : List Int} {v : Nat} {i : Nat} {u : Nat} (hu : inH s u) : inH { s with heap := h, place := s.place.set v i } u := by
  obtain ⟨p, h1, h2⟩ := hu
  unfold inH
  simp only [set_get]
  by_cases e : v = u
  · rw [if_pos e]
    subst e
    exact ⟨i, by rw [if_pos (get_lt h1)], by omega⟩
  · rw [if_neg e]; exact ⟨p, h1, h2⟩
theorem Hole.plen {h pl : List Int} {nv i : Nat} {v : Int} (H : Hole h pl nv i v) : pl.length = nv := by have := H.2.2.2.len; simpa using this
/-- The hole filled: the heap is whole. -/
theorem Hole.lay {s : St} {i : Nat} {v : Int} (H : Hole s.heap s.place s.vars.length i v) : ∃ s', layF s v i = some s' ∧ HSame s s' := by
  have hpl := H.plen
  obtain ⟨h1, h2, h3, h4⟩ := H
  refine ⟨_, layF_ok h1 ⟨by omega, by omega⟩, rfl, h4, by simp, fun u hu => inH_set hu⟩
theorem HSame.refl {s : St} (h : Hps s) : HSame s s := ⟨rfl, h, rfl, fun _ h => h⟩
/-- One step of sifting: the state in between. -/
theorem Hole.step {s : St} {i j : Nat} {v p : Int} (H : Hole s.heap s.place s.vars.length i v) (hij : i ≠ j) (hj : s.heap[j]? = some p) :
    ∃ s1, layF s p i = some s1 ∧ Hole s1.heap s1.place s1.vars.length j v ∧ s1.heap.length = s.heap.length ∧ ∀ s', HSame s1 s' → HSame s s' := by
  obtain ⟨h1, h2, _, h3⟩ := H.swap hij hj
  have hpl := H.plen
  refine ⟨_, layF_ok H.1 ⟨by omega, by omega⟩, h3, by simp, fun s' h => ⟨?_, h.hp, by rw [h.len]; simp, fun u hu => h.mem u (inH_set hu)⟩⟩
  have e := h.eq
  rw [e]
theorem upL_ok (v : Int) : ∀ (k : Nat) (s : St) (i : Nat), i < k → Hole s.heap s.place s.vars.length i v → ∃ s', upL k s v i = some s' ∧ HSame s s'
  | 0, _, _, h, _ => by omega
  | k + 1, s, i, hk, H => by
    unfold upL
    by_cases h0 : 0 < (i : Int)
    · rw [if_pos h0]
      have e : ((i : Int) - 1) / 2 = (((i - 1) / 2 : Nat) : Int) := by omega
      obtain ⟨p, hp⟩ := get_some (l := s.heap) (i := (i - 1) / 2) (by have := H.1; omega)
      have hne : i ≠ (i - 1) / 2 := by omega
      rw [e, nth_nat, hp]
      simp only
      obtain ⟨p1, p2, _, _⟩ := H.swap hne hp
      obtain ⟨b, hb⟩ := ahead_ok (s := s) (v := v) (w := p) ⟨by have := H.2.1; omega, by have := H.2.2.1; have := H.2.1; omega⟩ ⟨by omega, by omega⟩
      rw [hb]
      cases b with
      | false => exact H.lay
      | true =>
        obtain ⟨s1, h1, h2, _, h3⟩ := H.step hne hp
        simp only [h1, Option.bind_some]
        obtain ⟨s', h4, h5⟩ := upL_ok v k s1 ((i - 1) / 2) (by omega) h2
        exact ⟨s', h4, h3 s' h5⟩
    · rw [if_neg h0]
      exact H.lay
theorem upF_ok {s : St} (H : Hps s) {i : Nat} (hi : i < s.heap.length) : ∃ s', upF s i = some s' ∧ HSame s s' := by
  obtain ⟨v, hv⟩ := get_some hi
  unfold upF
  rw [nth_nat, hv]
  exact upL_ok v _ s i (by omega) (H.hole hv)
theorem downL_ok (v : Int) : ∀ (f : Nat) (s : St) (i : Nat), s.heap.length < f + i → Hole s.heap s.place s.vars.length i v → ∃ s', downL f s v i = some s' ∧ HSame s s'
  | 0, s, i, h, H => by have := H.1; omega
  | f + 1, s, i, hf, H => by
    unfold downL
    by_cases h0 : 2 * (i : Int) + 1 < (s.heap.length : Int)
    · rw [if_pos h0]
      have hlow : ∃ k : Nat, lowF s (2 * (i : Int) + 1) = some (k : Int) ∧ k < s.heap.length ∧ i < k := by
        unfold lowF
        by_cases h1 : 2 * (i : Int) + 1 + 1 < (s.heap.length : Int)
        · rw [if_pos h1]
          obtain ⟨x, hx⟩ := get_some (l := s.heap) (i := 2 * i + 1 + 1) (by omega)
          obtain ⟨y, hy⟩ := get_some (l := s.heap) (i := 2 * i + 1) (by omega)
          have e1 : 2 * (i : Int) + 1 + 1 = ((2 * i + 1 + 1 : Nat) : Int) := by omega
          have e2 : 2 * (i : Int) + 1 = ((2 * i + 1 : Nat) : Int) := by omega
          rw [e1, e2, nth_nat, nth_nat, hx, hy]
          obtain ⟨x1, x2, _, _⟩ := H.swap (by omega) hx
          obtain ⟨y1, y2, _, _⟩ := H.swap (by omega) hy
          obtain ⟨b, hb⟩ := ahead_ok (s := s) (v := x) (w := y) ⟨by omega, by omega⟩ ⟨by omega, by omega⟩
          simp only [hb, Option.map_some]
          cases b
          · exact ⟨2 * i + 1, rfl, by omega, by omega⟩
          · exact ⟨2 * i + 1 + 1, rfl, by omega, by omega⟩
        · rw [if_neg h1]
          exact ⟨2 * i + 1, by congr 1, by omega, by omega⟩
      obtain ⟨k, hk, hk1, hk2⟩ := hlow
      obtain ⟨x, hx⟩ := get_some hk1
      rw [hk]
      simp only
      rw [nth_nat, hx]
      simp only
      obtain ⟨x1, x2, _, _⟩ := H.swap (by omega) hx
      obtain ⟨b, hb⟩ := ahead_ok (s := s) (v := x) (w := v) ⟨by omega, by omega⟩ ⟨by have := H.2.1; omega, by have := H.2.2.1; have := H.2.1; omega⟩
      rw [hb]
      cases b with
      | false => exact H.lay
      | true =>
        obtain ⟨s1, h1, h2, hl, h3⟩ := H.step (by omega) hx
        simp only [h1, Option.bind_some]
        obtain ⟨s', h4, h5⟩ := downL_ok v f s1 k (by omega) h2
        exact ⟨s', h4, h3 s' h5⟩
    · rw [if_neg h0]
      exact H.lay
theorem downF_ok {s : St} (H : Hps s) {i : Nat} (hi : i < s.heap.length) : ∃ s', downF s i = some s' ∧ HSame s s' := by
  obtain ⟨v, hv⟩ := get_some hi
  unfold downF
  rw [nth_nat, hv]
  exact downL_ok v _ s i (by omega) (H.hole hv)
end Go.Sat
/- Package sat's heap and variables as plain data: push, pop, grow never fail. -/
namespace Go.Sat
theorem nodup_bound : ∀ (n : Nat) (l : List Nat), l.Nodup → (∀ x ∈ l, x < n) → l.length ≤ n
  | 0, l, _, h => by
    cases l with
    | nil => simp
    | cons a r => exact absurd (h a List.mem_cons_self) (by omega)
  | n + 1, l, hd, h => by
    by_cases hm : n ∈ l
    · have h1 := nodup_bound n (l.erase n) (hd.erase n) fun x hx => by
        rw [hd.mem_erase_iff] at hx
        have := h x hx.2; omega
      rw [List.length_erase_of_mem hm] at h1
      omega
    · have h1 := nodup_bound n l hd fun x hx => by
        have := h x hx
        have : x ≠ n := fun e => hm (e ▸ hx)
        omega
      omega
theorem Hp.nodup {h pl : List Int} {nv : Nat} (H : Hp h pl nv) : (h.map (·.toNat)).Nodup := by
  unfold List.Nodup
  rw [List.pairwise_iff_getElem]
  intro i j hi hj hij e
  rw [List.length_map] at hi hj
  simp only [List.getElem_map] at e
  obtain ⟨h1, _, h3⟩ := H.at' i h[i] (List.getElem?_eq_getElem hi)
  obtain ⟨h2, _, h4⟩ := H.at' j h[j] (List.getElem?_eq_getElem hj)
  rw [e, h4] at h3
  injection h3 with h3
  omega
theorem Hp.hlen {h pl : List Int} {nv : Nat} (H : Hp h pl nv) : h.length ≤ nv := by
  have := nodup_bound nv (h.map (·.toNat)) H.nodup fun x hx => by
    obtain ⟨v, hv, rfl⟩ := List.mem_map.1 hx
    obtain ⟨i, hi⟩ := List.mem_iff_getElem?.1 hv
    obtain ⟨h1, h2, _⟩ := H.at' i v hi
    omega
  simpa using this
/-- All but the heap and the places is as it was; none has left the heap. -/
structure HMore (s s' : St) : Prop where
  eq : s' = { s with heap := s'.heap, place := s'.place }
  hp : Hps s'
  mem : ∀ u, inH s u → inH s' u
theorem HSame.more {s s' : St} (h : HSame s s') : HMore s s' := ⟨h.eq, h.hp, h.mem⟩
theorem HMore.trans {s s1 s2 : St} (h : HMore s s1) (k : HMore s1 s2) : HMore s s2 := ⟨by rw [k.eq, h.eq], k.hp, fun u hu => k.mem u (h.mem u hu)⟩
theorem room_ok {n : Nat} (h : n ≤ 1048577) : roomB n = true := by unfold roomB; simp; omega
theorem push_ok {s : St} (H : Hps s) (hs : s.vars.length ≤ 1048577) {v : Nat} (hv : 1 ≤ v ∧ v < s.vars.length) : ∃ s', pushF s v = some s' ∧ HMore s s' ∧ inH s' v := by
  have hl := H.hlen
  unfold pushF
  rw [if_pos (room_ok (by omega))]
  unfold pushF0
  obtain ⟨p, hp⟩ := get_some (l := s.place) (i := v) (by rw [H.len]; exact hv.2)
  rw [nth_nat, hp]
  simp only
  by_cases h0 : p < 0
  · rw [if_pos h0]
    have hole : Hole (s.heap ++ [(v : Int)]) s.place s.vars.length s.heap.length v := by
      refine ⟨by simp, by omega, by omega, by simp [H.len], H.pos, fun i u hu => ?_, fun u q hq => ?_⟩
      · rw [set_get] at hu
        rw [set_get, H.len]
        by_cases hi : s.heap.length = i
        · rw [if_pos hi, if_pos (by simp; omega)] at hu
          cases hu
          exact ⟨by omega, by omega, by rw [if_pos rfl, if_pos (by omega), hi]⟩
        · rw [if_neg hi] at hu
          have hil : i < s.heap.length := by have := get_lt hu; simp at this; omega
          rw [List.getElem?_append_left hil] at hu
          obtain ⟨h1, h2, h3⟩ := H.at' i u hu
          refine ⟨h1, h2, ?_⟩
          have : ¬ ((v : Int)).toNat = u.toNat := fun e => by
            rw [← e, show ((v : Int)).toNat = v from by omega, hp] at h3
            injection h3 with h3
            omega
          rw [if_neg this]; exact h3
      · rw [set_get, show ((v : Int)).toNat = v from by omega] at hq
        by_cases e : v = u
        · rw [if_pos e] at hq
          split at hq
          · cases hq
            right
            rw [show ((s.heap.length : Int)).toNat = s.heap.length from by omega, set_get, if_pos rfl, if_pos (by simp), e]
          · cases hq
        · rw [if_neg e] at hq
          rcases H.inv u q hq with h1 | h1
          · exact .inl h1
          · right
            have h2 := get_lt h1
            rw [set_get, if_neg (by omega), List.getElem?_append_left h2]
            exact h1
    obtain ⟨s1, h1, h2⟩ := Hole.lay (s := { s with heap := s.heap ++ [(v : Int)] }) hole
    rw [h1]
    simp only [Option.bind_some]
    obtain ⟨s2, h3, h4⟩ := upF_ok h2.hp (i := s.heap.length) (by rw [h2.len]; simp)
    refine ⟨s2, h3, ⟨by rw [h4.eq, h2.eq], h4.hp, fun u hu => h4.mem u (h2.mem u hu)⟩, h4.mem v ?_⟩
    have e : s1 = { s with heap := (s.heap ++ [(v : Int)]).set s.heap.length v, place := s.place.set v s.heap.length } := by
      rw [layF_ok (by simp) ⟨by omega, by simp [H.len]; omega⟩] at h1
      have := Option.some.inj h1
      rw [← this]; simp
    rw [e]
    exact ⟨s.heap.length, by simp only; rw [set_get, if_pos rfl, if_pos (by rw [H.len]; exact hv.2)], by omega⟩
  · rw [if_neg h0]
    exact ⟨s, rfl, ⟨rfl, H, fun _ h => h⟩, p, hp, by omega⟩
/-- A pop: the one that leaves. -/
structure Popped (s : St) (v : Nat) (s' : St) : Prop where
  eq : s' = { s with heap := s'.heap, place := s'.place }
  hp : Hps s'
  len : s'.heap.length + 1 = s.heap.length
  mem : ∀ u, u ≠ v → inH s u → inH s' u
theorem pop_ok {s : St} (H : Hps s) (hs : s.vars.length ≤ 1048577) (h0 : s.heap.length ≠ 0) : ∃ (v : Nat) (s' : St), popF s = some ((v : Int), s') ∧ 1 ≤ v ∧ v < s.vars.length ∧ Popped s v s' := by
  have hl := H.hlen
  unfold popF
  rw [if_pos (room_ok (by omega))]
  unfold popF0
  obtain ⟨x, hx⟩ := get_some (l := s.heap) (i := 0) (by omega)
  obtain ⟨y, hy⟩ := get_some (l := s.heap) (i := s.heap.length - 1) (by omega)
  obtain ⟨x1, x2, x3⟩ := H.at' _ _ hx
  obtain ⟨y1, y2, y3⟩ := H.at' _ _ hy
  obtain ⟨v, rfl⟩ : ∃ v : Nat, x = v := ⟨x.toNat, by omega⟩
  rw [List.head?_eq_getElem?, hx, List.getLast?_eq_getElem?, hy]
  simp only
  rw [setN_ok _ _ (by omega) (by rw [H.len]; omega), show ((v : Int)).toNat = v from by omega]
  rw [show ((v : Int)).toNat = v from by omega] at x3
  simp only [Option.bind_some]
  have hmem : ∀ u, u ≠ v → ∀ q, s.place[u]? = some q → (s.place.set v (-1))[u]? = some q := fun u hu q hq => by rw [set_get, if_neg (fun e => hu e.symm)]; exact hq
  by_cases h1 : s.heap.length = 1
  · rw [if_pos h1]
    refine ⟨v, _, rfl, by omega, by omega, rfl, ⟨by simp [H.len], H.pos, fun i u hu => by simp at hu, fun u q hq => ?_⟩, by simp; omega, fun u hu ⟨q, h2, h3⟩ => ⟨q, hmem u hu q h2, h3⟩⟩
    simp only at hq
    rw [set_get] at hq
    by_cases e : v = u
    · rw [if_pos e] at hq
      split at hq
      · cases hq; exact .inl (by omega)
      · cases hq
    · rw [if_neg e] at hq
      rcases H.inv u q hq with h2 | h2
      · exact .inl h2
      · have h3 := get_lt h2
        have h4 : q.toNat = 0 := by omega
        rw [h4, hx] at h2
        injection h2 with h2
        omega
  · rw [if_neg h1]
    have hne : y.toNat ≠ v := fun e => by
      rw [e, x3] at y3
      injection y3 with y3
      omega
    have hole : Hole s.heap.dropLast (s.place.set v (-1)) s.vars.length 0 y := by
      refine ⟨by simp; omega, y1, y2, by simp [H.len], H.pos, fun i u hu => ?_, fun u q hq => ?_⟩
      · rw [set_get] at hu
        rw [set_get, List.length_set, H.len]
        by_cases hi : 0 = i
        · rw [if_pos hi] at hu
          split at hu
          · cases hu
            exact ⟨y1, y2, by rw [if_pos rfl, if_pos (by omega), ← hi]⟩
          · cases hu
        · rw [if_neg hi] at hu
          have hil : i < s.heap.length - 1 := by have := get_lt hu; simpa using this
          rw [List.getElem?_dropLast, if_pos hil] at hu
          obtain ⟨h2, h3, h4⟩ := H.at' i u hu
          refine ⟨h2, h3, ?_⟩
          have e1 : ¬ y.toNat = u.toNat := fun e => by
            rw [← e, y3] at h4; injection h4 with h4; omega
          have e2 : ¬ v = u.toNat := fun e => by
            rw [← e, x3] at h4; injection h4 with h4; omega
          rw [if_neg e1, set_get, if_neg e2]; exact h4
      · rw [set_get] at hq
        by_cases e : y.toNat = u
        · rw [if_pos e] at hq
          split at hq
          · cases hq
            right
            rw [show ((0 : Nat) : Int).toNat = 0 from rfl, set_get, if_pos rfl, if_pos (by simp; omega)]
            congr 1; omega
          · cases hq
        · rw [if_neg e, set_get] at hq
          by_cases e2 : v = u
          · rw [if_pos e2] at hq
            split at hq
            · cases hq; exact .inl (by omega)
            · cases hq
          · rw [if_neg e2] at hq
            rcases H.inv u q hq with h2 | h2
            · exact .inl h2
            · right
              have h3 := get_lt h2
              have e3 : ¬ 0 = q.toNat := fun e => by
                rw [← e, hx] at h2; injection h2 with h2; omega
              have e4 : q.toNat ≠ s.heap.length - 1 := fun e => by
                rw [e, hy] at h2; injection h2 with h2; omega
              rw [set_get, if_neg e3, List.getElem?_dropLast, if_pos (by omega)]
              exact h2
    obtain ⟨s1, h2, h3⟩ := Hole.lay (s := { s with heap := s.heap.dropLast, place := s.place.set v (-1) }) hole
    rw [show ((0 : Nat) : Int) = 0 from rfl] at h2
    rw [h2]
    simp only [Option.bind_some]
    obtain ⟨s2, h4, h5⟩ := downF_ok h3.hp (i := 0) (by rw [h3.len]; simp; omega)
    rw [show ((0 : Nat) : Int) = 0 from rfl] at h4
    rw [h4]
    refine ⟨v, s2, rfl, by omega, by omega, by rw [h5.eq, h3.eq], h5.hp, by rw [h5.len, h3.len]; simp; omega, fun u hu ⟨q, h6, h7⟩ => h5.mem u (h3.mem u ⟨q, hmem u hu q h6, h7⟩)⟩
/-- More variables, none of them true or false, all of them in the heap. -/
structure Grown (s s' : St) : Prop where
  eq : ∃ m, s' = { s with vars := s.vars ++ List.replicate m noFact, heap := s'.heap, place := s'.place }
  hp : Hps s'
  mem : ∀ u, inH s u → inH s' u
  new : ∀ u, s.vars.length ≤ u → u < s'.vars.length → inH s' u
theorem Grown.refl {s : St} (H : Hps s) : Grown s s := ⟨⟨0, by simp⟩, H, fun _ h => h, fun u h1 h2 => by omega⟩
theorem Grown.len {s s' : St} (h : Grown s s') : s.vars.length ≤ s'.vars.length := by
  obtain ⟨m, e⟩ := h.eq
  rw [e]; simp
theorem Grown.trans {s s1 s2 : St} (h : Grown s s1) (k : Grown s1 s2) : Grown s s2 := by
  obtain ⟨m, e⟩ := h.eq
  obtain ⟨m2, e2⟩ := k.eq
  refine ⟨⟨m + m2, ?_⟩, k.hp, fun u hu => k.mem u (h.mem u hu), fun u h1 h2 => ?_⟩
  · rw [e2, e]
    simp [List.append_assoc, List.replicate_append_replicate]
  · by_cases hu : u < s1.vars.length
    · exact k.mem u (h.new u h1 hu)
    · exact k.new u (by omega) h2
theorem ofF_eq (n : Int) : ofF n = (n.natAbs : Int) := by unfold ofF; split <;> omega
theorem sml_iff {n : Int} : smlB n = true ↔ n.natAbs ≤ 1048576 := by unfold smlB; simp; omega
theorem grow_ok {n : Int} (hn : n.natAbs ≤ 1048576) : ∀ (k : Nat) (s : St), Hps s → s.vars.length ≤ 1048577 → n.natAbs + 1 < k + s.vars.length → 0 < k → ∃ s', growF k s n = some s' ∧ Grown s s' ∧ n.natAbs < s'.vars.length ∧ s'.vars.length ≤ max s.vars.length (n.natAbs + 1)
  | 0, _, _, _, _, h0 => by omega
  | k + 1, s, H, hs, hk, _ => by
    unfold growF
    have hg : (smlB n && roomB s.vars.length && roomB s.place.length) = true := by
      rw [sml_iff.2 hn, room_ok hs, room_ok (by rw [H.len]; exact hs)]; rfl
    rw [hg, ofF_eq]
    simp only [Bool.true_eq_false, if_false]
    by_cases hl : (s.vars.length : Int) ≤ (n.natAbs : Int)
    · rw [if_pos hl]
      have H1 : Hps { s with vars := s.vars ++ [noFact], place := s.place ++ [-1] } := by
        have hpl : s.place.length = s.vars.length := H.len
        refine ⟨by simp [H.len], by simp, fun i u hu => ?_, fun u q hq => ?_⟩
        · obtain ⟨h1, h2, h3⟩ := H.at' i u hu
          refine ⟨h1, by simp; omega, ?_⟩
          simp only
          rw [List.getElem?_append_left (get_lt h3)]; exact h3
        · simp only at hq
          by_cases e : u < s.place.length
          · rw [List.getElem?_append_left e] at hq
            exact H.inv u q hq
          · rw [List.getElem?_append_right (by omega)] at hq
            have : u - s.place.length = 0 := by have := get_lt hq; simp at this; omega
            rw [this] at hq
            cases hq
            exact .inl (by omega)
      obtain ⟨s1, h1, h2, h3⟩ := push_ok H1 (by simp; omega) (v := s.vars.length) ⟨H.pos, by simp⟩
      rw [h1]
      simp only [Option.bind_some]
      have hg1 : Grown s s1 := ⟨⟨1, by rw [h2.eq]; rfl⟩, h2.hp, fun u ⟨q, h4, h5⟩ => h2.mem u ⟨q, by simp only; rw [List.getElem?_append_left (get_lt h4)]; exact h4, h5⟩, fun u h4 h5 => by
        have e : s1.vars.length = s.vars.length + 1 := by rw [h2.eq]; simp
        have : u = s.vars.length := by omega
        rw [this]; exact h3⟩
      have e : s1.vars.length = s.vars.length + 1 := by rw [h2.eq]; simp
      obtain ⟨s2, h4, h5, h6, h7⟩ := grow_ok hn k s1 h2.hp (by omega) (by omega) (by omega)
      exact ⟨s2, h4, hg1.trans h5, h6, by omega⟩
    · rw [if_neg hl]
      exact ⟨s, rfl, Grown.refl H, by omega, by omega⟩
theorem grows_ok (B : Nat) (hB : B ≤ 1048576) : ∀ (l : List Int) (s : St), (∀ n ∈ l, n.natAbs ≤ B) → Hps s → s.vars.length ≤ 1048577 → ∃ s', growsF s l = some s' ∧ Grown s s' ∧ (∀ n ∈ l, n.natAbs < s'.vars.length) ∧ s'.vars.length ≤ max s.vars.length (B + 1)
  | [], s, _, H, _ => ⟨s, rfl, Grown.refl H, fun n hn => (by cases hn), by omega⟩
  | n :: r, s, hl, H, hs => by
    have hn := hl n List.mem_cons_self
    unfold growsF
    obtain ⟨s1, h1, h2, h3, h4⟩ := grow_ok (n := n) (by omega) ((ofF n).toNat + 2) s H hs (by rw [ofF_eq]; have := H.pos; omega) (by omega)
    rw [h1]
    simp only [Option.bind_some]
    obtain ⟨s2, h5, h6, h7, h8⟩ := grows_ok B hB r s1 (fun m hm => hl m (List.mem_cons_of_mem _ hm)) h2.hp (by omega)
    refine ⟨s2, h5, h2.trans h6, fun m hm => ?_, by omega⟩
    rcases List.mem_cons.1 hm with rfl | hm
    · have := h6.len; omega
    · exact h7 m hm
end Go.Sat
/- A solver that is whole, as plain data: its trail, levels and reasons; a literal's value; a literal set. -/
namespace Go.Sat
/-- The level of a place on the trail: how many levels begin there or before. -/
def lvlAt (s : St) (i : Nat) : Nat := s.limits.countP fun l => decide (l ≤ (i : Int))
/-- A clause's literals: of variables that are, each variable once, two of them or more. -/
structure ClOk (nv : Nat) (l : List Int) : Prop where
  two : 2 ≤ l.length
  var : ∀ n ∈ l, n ≠ 0 ∧ n.natAbs < nv
  nd : (l.map Int.natAbs).Nodup
/-- What follows of a clause at a place on the trail: the others are false before it. -/
def Because (s : St) (i : Nat) (n : Int) (c : Nat) : Prop := ∃ x, s.cls[c]? = some x ∧ n ∈ x.lits ∧ ∀ m ∈ x.lits, m = n ∨ ∃ j, j < i ∧ s.trail[j]? = some (-m)
structure Wf (s : St) : Prop where
  hp : Hps s
  siz : s.vars.length ≤ 1048577
  csz : s.cls.length ≤ 1000000
  val : ∀ (v : Nat) a, s.vars[v]? = some a → a.lit = 0 ∨ (a.lit.natAbs = v ∧ a.lit ∈ s.trail)
  mem : ∀ n ∈ s.trail, n ≠ 0 ∧ ∃ a, s.vars[n.natAbs]? = some a ∧ a.lit = n
  nd : (s.trail.map Int.natAbs).Nodup
  free : ∀ (v : Nat) a, 1 ≤ v → s.vars[v]? = some a → a.lit = 0 → inH s v
  lim : ∀ l ∈ s.limits, 0 ≤ l ∧ l ≤ s.head
  limo : s.limits.Pairwise (· ≤ ·)
  head : 0 ≤ s.head ∧ s.head ≤ s.trail.length
  cls : ∀ (c : Nat) x, s.cls[c]? = some x → ClOk s.vars.length x.lits
  lev : ∀ (i : Nat) n a, s.trail[i]? = some n → s.vars[n.natAbs]? = some a → a.level = (lvlAt s i : Int)
  rea : ∀ (i : Nat) n a c, s.trail[i]? = some n → s.vars[n.natAbs]? = some a → a.reason = some c → (i : Int) ∉ s.limits ∧ Because s i n c
  dec : ∀ (i : Nat) n a, s.trail[i]? = some n → s.vars[n.natAbs]? = some a → a.reason = none → (i : Int) ∈ s.limits ∨ lvlAt s i = 0
section
variable {s : St}
theorem Wf.trail_lt (h : Wf s) {n : Int} (hn : n ∈ s.trail) : 1 ≤ n.natAbs ∧ n.natAbs < s.vars.length := by
  obtain ⟨h1, a, h2, _⟩ := h.mem n hn
  exact ⟨by omega, get_lt h2⟩
theorem Wf.tlen (h : Wf s) : s.trail.length ≤ s.vars.length := by
  have := nodup_bound s.vars.length (s.trail.map Int.natAbs) h.nd fun x hx => by
    obtain ⟨n, hn, rfl⟩ := List.mem_map.1 hx
    exact (h.trail_lt hn).2
  simpa using this
theorem map_nd_inj {l : List Int} (h : (l.map Int.natAbs).Nodup) {i j : Nat} {n m : Int} (hi : l[i]? = some n) (hj : l[j]? = some m) (e : n.natAbs = m.natAbs) : i = j := by
  unfold List.Nodup at h
  rw [List.pairwise_iff_getElem] at h
  have h1 := get_lt hi
  have h2 := get_lt hj
  have e1 : l[i] = n := Option.some.inj ((List.getElem?_eq_getElem h1).symm.trans hi)
  have e2 : l[j] = m := Option.some.inj ((List.getElem?_eq_getElem h2).symm.trans hj)
  rcases Nat.lt_trichotomy i j with hl | hl | hl
  · have h3 := h i j (by simpa using h1) (by simpa using h2) hl
    simp only [List.getElem_map, e1, e2] at h3
    exact absurd e h3
  · exact hl
  · have h3 := h j i (by simpa using h2) (by simpa using h1) hl
    simp only [List.getElem_map, e1, e2] at h3
    exact absurd e.symm h3
theorem Wf.nd_inj (h : Wf s) {i j : Nat} {n m : Int} (hi : s.trail[i]? = some n) (hj : s.trail[j]? = some m) (e : n.natAbs = m.natAbs) : i = j := map_nd_inj h.nd hi hj e
theorem Wf.not_both (h : Wf s) {n : Int} (h1 : n ∈ s.trail) (h2 : -n ∈ s.trail) : False := by
  obtain ⟨n0, a, ha, e⟩ := h.mem n h1
  obtain ⟨_, b, hb, e2⟩ := h.mem (-n) h2
  rw [show (-n).natAbs = n.natAbs from by omega, ha] at hb
  cases hb
  omega
/-- A literal's value. -/
theorem Wf.value (h : Wf s) {n : Int} (h0 : n ≠ 0) (hn : n.natAbs < s.vars.length) :
    (valueF s n = some 1 ∧ n ∈ s.trail ∧ -n ∉ s.trail) ∨ (valueF s n = some (-1) ∧ -n ∈ s.trail ∧ n ∉ s.trail) ∨ (valueF s n = some 0 ∧ n ∉ s.trail ∧ -n ∉ s.trail) := by
  obtain ⟨a, ha⟩ := get_some hn
  have hv : valueF s n = some (if a.lit = 0 then 0 else if a.lit = n then 1 else -1) := by
    unfold valueF valueF0
    rw [if_pos (sml_iff.2 (by have := h.siz; omega)), ofF_eq, nth_nat, ha]
    rfl
  rw [hv]
  by_cases e0 : a.lit = 0
  · rw [if_pos e0]
    have hno : ∀ m : Int, m.natAbs = n.natAbs → m ∉ s.trail := fun m hm hmt => by
      obtain ⟨h1, b, hb, e⟩ := h.mem m hmt
      rw [hm, ha] at hb
      cases hb
      omega
    exact .inr (.inr ⟨rfl, hno n rfl, hno (-n) (by omega)⟩)
  · rw [if_neg e0]
    rcases h.val n.natAbs a ha with h1 | ⟨h1, h2⟩
    · exact absurd h1 e0
    · by_cases e1 : a.lit = n
      · rw [if_pos e1]
        rw [e1] at h2
        exact .inl ⟨rfl, h2, fun h3 => h.not_both h2 h3⟩
      · rw [if_neg e1]
        have e2 : a.lit = -n := by omega
        rw [e2] at h2
        exact .inr (.inl ⟨rfl, h2, fun h3 => h.not_both h3 h2⟩)
theorem lvl_le (s : St) (i : Nat) : lvlAt s i ≤ s.limits.length := List.countP_le_length
theorem Wf.lvl_top (h : Wf s) {i : Nat} (hi : ∀ l ∈ s.limits, l ≤ (i : Int)) : lvlAt s i = s.limits.length := by
  unfold lvlAt
  rw [List.countP_eq_length]
  intro l hl
  simpa using hi l hl
theorem lvl_mono (s : St) {i j : Nat} (h : i ≤ j) : lvlAt s i ≤ lvlAt s j := by
  unfold lvlAt
  exact List.countP_mono_left fun l _ hl => by simp at hl ⊢; omega
theorem Because.mono {s s' : St} {i : Nat} {n : Int} {c : Nat} (h : Because s i n c) (ht : ∀ (j : Nat) m, j < i → s.trail[j]? = some m → s'.trail[j]? = some m) (hc : ∀ x, s.cls[c]? = some x → ∃ x', s'.cls[c]? = some x' ∧ ∀ m, m ∈ x'.lits ↔ m ∈ x.lits) : Because s' i n c := by
  obtain ⟨x, h1, h2, h3⟩ := h
  obtain ⟨x', h4, h5⟩ := hc x h1
  refine ⟨x', h4, (h5 n).2 h2, fun m hm => ?_⟩
  rcases h3 m ((h5 m).1 hm) with e | ⟨j, hj, hj2⟩
  · exact .inl e
  · exact .inr ⟨j, hj, ht j _ hj hj2⟩
/-- A literal set. -/
theorem Wf.set (h : Wf s) {n : Int} {why : Option Nat} (h0 : n ≠ 0) (hn : n.natAbs < s.vars.length) (hu : n ∉ s.trail ∧ -n ∉ s.trail)
    (hw : ∀ c, why = some c → (s.trail.length : Int) ∉ s.limits ∧ Because s s.trail.length n c) (hd : why = none → (s.trail.length : Int) ∈ s.limits ∨ s.limits = []) :
    ∃ s' a b, setF s n why = some s' ∧ s' = { s with vars := s.vars.set n.natAbs b, trail := s.trail ++ [n] } ∧ s.vars[n.natAbs]? = some a ∧ b = { a with lit := n, level := levelF s, reason := why, phase := n } ∧ Wf s' := by
  obtain ⟨a, ha⟩ := get_some hn
  have htl := h.tlen
  have hsz := h.siz
  refine ⟨_, a, { a with lit := n, level := levelF s, reason := why, phase := n }, ?_, rfl, ha, rfl, ?_⟩
  · unfold setF setF0
    rw [sml_iff.2 (by omega), room_ok (by omega), ofF_eq, nth_nat, ha]
    simp only [Bool.and_self, if_true]
    rw [setN_ok _ _ (by omega) (by simpa using hn)]
    rfl
  have hgv : ∀ v : Nat, (s.vars.set n.natAbs { a with lit := n, level := levelF s, reason := why, phase := n })[v]? = if n.natAbs = v then some { a with lit := n, level := levelF s, reason := why, phase := n } else s.vars[v]? := fun v => by
    rw [set_get]
    by_cases e : n.natAbs = v
    · rw [if_pos e, if_pos e, if_pos (by omega)]
    · rw [if_neg e, if_neg e]
  have hold : ∀ m ∈ s.trail, ¬ n.natAbs = m.natAbs := fun m hm e => by
    have : m = n ∨ m = -n := by omega
    rcases this with rfl | rfl
    · exact hu.1 hm
    · exact hu.2 hm
  have hsp : ∀ (i : Nat) m, (s.trail ++ [n])[i]? = some m → (i < s.trail.length ∧ s.trail[i]? = some m) ∨ (i = s.trail.length ∧ m = n) := fun i m hm => by
    by_cases hi : i < s.trail.length
    · rw [List.getElem?_append_left hi] at hm; exact .inl ⟨hi, hm⟩
    · rw [List.getElem?_append_right (by omega)] at hm
      have h1 := get_lt hm
      simp at h1
      have : i - s.trail.length = 0 := by omega
      rw [this] at hm
      cases hm
      exact .inr ⟨by omega, rfl⟩
  have hmono : ∀ (i : Nat) (j : Nat) m, j < i → s.trail[j]? = some m → (s.trail ++ [n])[j]? = some m := fun i j m _ hm => by rw [List.getElem?_append_left (get_lt hm)]; exact hm
  refine ⟨?_, by simpa using hsz, h.csz, fun v b hb => ?_, fun m hm => ?_, ?_, fun v b hv hb hl => ?_, h.lim, h.limo, ⟨h.head.1, by simp; have := h.head.2; omega⟩, fun c x hx => ?_, fun i m b hi hb => ?_, fun i m b c hi hb hr => ?_, fun i m b hi hb hr => ?_⟩
  · have := h.hp
    exact ⟨by simpa using this.len, by simpa using this.pos, by simpa using this.at', this.inv⟩
  · simp only at hb
    rw [hgv] at hb
    by_cases e : n.natAbs = v
    · rw [if_pos e] at hb
      cases hb
      exact .inr ⟨e, List.mem_append_right _ List.mem_cons_self⟩
    · rw [if_neg e] at hb
      rcases h.val v b hb with h1 | ⟨h1, h2⟩
      · exact .inl h1
      · exact .inr ⟨h1, List.mem_append_left _ h2⟩
  · rcases List.mem_append.1 hm with hm | hm
    · obtain ⟨h1, b, h2, h3⟩ := h.mem m hm
      exact ⟨h1, b, by simp only; rw [hgv, if_neg (hold m hm)]; exact h2, h3⟩
    · simp at hm
      subst hm
      exact ⟨h0, _, by simp only; rw [hgv, if_pos rfl], rfl⟩
  · simp only [List.map_append, List.map_cons, List.map_nil]
    rw [List.nodup_append]
    refine ⟨h.nd, by simp, fun x hx y hy => ?_⟩
    simp at hy
    subst hy
    obtain ⟨m, hm, rfl⟩ := List.mem_map.1 hx
    exact fun e => hold m hm e.symm
  · simp only at hb
    rw [hgv] at hb
    by_cases e : n.natAbs = v
    · rw [if_pos e] at hb
      cases hb
      exact absurd hl h0
    · rw [if_neg e] at hb
      exact h.free v b hv hb hl
  · have := h.cls c x hx
    exact ⟨this.two, by simpa using this.var, this.nd⟩
  · simp only at hb
    rw [hgv] at hb
    rcases hsp i m hi with ⟨h1, h2⟩ | ⟨h1, h2⟩
    · rw [if_neg (hold m (List.mem_of_getElem? h2))] at hb
      exact h.lev i m b h2 hb
    · subst h2
      rw [if_pos rfl] at hb
      cases hb
      have hlt : lvlAt s i = s.limits.length := h.lvl_top fun l hl => by have := h.lim l hl; have := h.head; omega
      show levelF s = ((lvlAt s i : Nat) : Int)
      rw [hlt]; rfl
  · simp only at hb
    rw [hgv] at hb
    rcases hsp i m hi with ⟨h1, h2⟩ | ⟨h1, h2⟩
    · rw [if_neg (hold m (List.mem_of_getElem? h2))] at hb
      obtain ⟨h3, h4⟩ := h.rea i m b c h2 hb hr
      exact ⟨h3, h4.mono (hmono i) fun x hx => ⟨x, hx, fun _ => Iff.rfl⟩⟩
    · subst h2
      rw [if_pos rfl] at hb
      cases hb
      obtain ⟨h3, h4⟩ := hw c hr
      subst h1
      exact ⟨h3, h4.mono (hmono _) fun x hx => ⟨x, hx, fun _ => Iff.rfl⟩⟩
  · simp only at hb
    rw [hgv] at hb
    rcases hsp i m hi with ⟨h1, h2⟩ | ⟨h1, h2⟩
    · rw [if_neg (hold m (List.mem_of_getElem? h2))] at hb
      exact h.dec i m b h2 hb hr
    · subst h2
      rw [if_pos rfl] at hb
      cases hb
      rcases hd hr with h3 | h3
      · left; rw [h1]; exact h3
      · right
        unfold lvlAt
        simp only [h3]; rfl
end
end Go.Sat
/- What watches what, as plain data; what propagation may do; a clause that wakes. -/
namespace Go.Sat
/-- -k is among a clause's first two literals. -/
def Head2 (s : St) (c : Nat) (k : Int) : Prop := ∃ x a b r, s.cls[c]? = some x ∧ x.lits = a :: b :: r ∧ (k = -a ∨ k = -b)
structure Wt (s : St) (f : Int → List Nat) : Prop where
  mem : ∀ k c, c ∈ f k ↔ Head2 s c k
  nd : ∀ k, (f k).Nodup
/-- A watched literal that is false and was looked at: the other one is true, no later. -/
def PiX (s : St) (X : Nat → Nat → Prop) : Prop :=
  ∀ (c : Nat) x a b r, s.cls[c]? = some x → x.lits = a :: b :: r → ∀ u o, (u = a ∧ o = b) ∨ (u = b ∧ o = a) → ∀ j : Nat, (j : Int) < s.head → s.trail[j]? = some (-u) → X c j → ∃ i, s.trail[i]? = some o ∧ lvlAt s i ≤ lvlAt s j
/-- What propagation may have done. -/
structure Ext (s s' : St) : Prop where
  trail : ∃ t, s'.trail = s.trail ++ t
  limits : s'.limits = s.limits
  heap : s'.heap = s.heap
  place : s'.place = s.place
  learnt : s'.learnt = s.learnt
  conflicts : s'.conflicts = s.conflicts
  added : s'.added = s.added
  bump : s'.bump = s.bump
  broken : s'.broken = s.broken
  vlen : s'.vars.length = s.vars.length
  old : ∀ (v : Nat) a, s.vars[v]? = some a → a.lit ≠ 0 → s'.vars[v]? = some a
  new : ∀ (i : Nat) n a, s.trail.length ≤ i → s'.trail[i]? = some n → s'.vars[n.natAbs]? = some a → a.reason ≠ none
  clen : s'.cls.length = s.cls.length
  cls : ∀ (c : Nat) x, s.cls[c]? = some x → ∃ x', s'.cls[c]? = some x' ∧ x'.lits.Perm x.lits ∧ x'.learnt = x.learnt
  score : ∀ v : Nat, (s'.vars[v]?).map (·.score) = (s.vars[v]?).map (·.score)
  head : s.head ≤ s'.head
theorem Ext.refl (s : St) : Ext s s :=
  ⟨⟨[], by simp⟩, rfl, rfl, rfl, rfl, rfl, rfl, rfl, rfl, rfl, fun _ _ h _ => h, fun i n a hi h => by have := get_lt h; omega, rfl, fun c x h => ⟨x, h, List.Perm.refl _, rfl⟩, fun _ => rfl, Int.le_refl _⟩
theorem Ext.lvl {s s' : St} (h : Ext s s') (i : Nat) : lvlAt s' i = lvlAt s i := by unfold lvlAt; rw [h.limits]
theorem Ext.at' {s s' : St} (h : Ext s s') {i : Nat} {n : Int} (hi : s.trail[i]? = some n) : s'.trail[i]? = some n := by
  obtain ⟨t, e⟩ := h.trail
  rw [e, List.getElem?_append_left (get_lt hi)]; exact hi
theorem Ext.mem {s s' : St} (h : Ext s s') {n : Int} (hn : n ∈ s.trail) : n ∈ s'.trail := by
  obtain ⟨t, e⟩ := h.trail
  rw [e]; exact List.mem_append_left _ hn
theorem Ext.cls' {s s' : St} (h : Ext s s') {c : Nat} {x' : Cl} (hx : s'.cls[c]? = some x') : ∃ x, s.cls[c]? = some x ∧ x'.lits.Perm x.lits ∧ x'.learnt = x.learnt := by
  obtain ⟨x, hx2⟩ := get_some (l := s.cls) (i := c) (by rw [← h.clen]; exact get_lt hx)
  obtain ⟨x2, h1, h2, h3⟩ := h.cls c x hx2
  rw [hx] at h1
  cases h1
  exact ⟨x, hx2, h2, h3⟩
theorem Ext.trans {s s1 s2 : St} (h : Ext s s1) (k : Ext s1 s2) (hW : Wf s1) : Ext s s2 := by
  obtain ⟨t, e⟩ := h.trail
  obtain ⟨t2, e2⟩ := k.trail
  refine ⟨⟨t ++ t2, by rw [e2, e, List.append_assoc]⟩, k.limits.trans h.limits, k.heap.trans h.heap, k.place.trans h.place, k.learnt.trans h.learnt, k.conflicts.trans h.conflicts, k.added.trans h.added, k.bump.trans h.bump, k.broken.trans h.broken, k.vlen.trans h.vlen, fun v a ha hl => k.old v a (h.old v a ha hl) hl, fun i n a hi hn ha => ?_, k.clen.trans h.clen, fun c x hx => ?_, fun v => (k.score v).trans (h.score v), Int.le_trans h.head k.head⟩
  · by_cases hi2 : i < s1.trail.length
    · obtain ⟨m, hm⟩ := get_some hi2
      have := k.at' hm
      rw [hn] at this
      cases this
      obtain ⟨h0, b, hb, e3⟩ := hW.mem n (List.mem_of_getElem? hm)
      have := k.old _ b hb (by omega)
      rw [ha] at this
      cases this
      exact h.new i n a hi hm hb
    · exact k.new i n a (by omega) hn ha
  · obtain ⟨x1, h1, h2, h3⟩ := h.cls c x hx
    obtain ⟨x2, h4, h5, h6⟩ := k.cls c x1 h1
    exact ⟨x2, h4, h5.trans h2, h6.trans h3⟩
section
variable {s s' : St}
theorem perm_set {y : Int} : ∀ {r : List Int} {i : Nat} {z : Int}, r[i]? = some z → (z :: r.set i y).Perm (y :: r)
  | [], i, z, h => by simp at h
  | a :: r, 0, z, h => by simp at h; subst h; simpa using List.Perm.swap _ _ _
  | a :: r, i + 1, z, h => by
    have h1 : (z :: r.set i y).Perm (y :: r) := perm_set (by simpa using h)
    show (z :: a :: r.set i y).Perm (y :: a :: r)
    exact (List.Perm.swap _ _ _).trans ((h1.cons a).trans (List.Perm.swap _ _ _))
theorem cls_lits {c d : Nat} {l : List Int} : (litsF s c l).cls[d]? = if c = d then (s.cls[d]?).map (fun x => { x with lits := l }) else s.cls[d]? := by
  unfold litsF
  simp only [List.getElem?_modify]
  split
  · rfl
  · simp
theorem ClOk.perm {nv : Nat} {l l' : List Int} (h : ClOk nv l) (hp : l'.Perm l) : ClOk nv l' :=
  ⟨by rw [hp.length_eq]; exact h.two, fun n hn => h.var n (hp.mem_iff.1 hn), (hp.map Int.natAbs).nodup_iff.2 h.nd⟩
theorem Ext.lits {c : Nat} {x : Cl} {l : List Int} (hx : s.cls[c]? = some x) (hp : l.Perm x.lits) : Ext s (litsF s c l) := by
  refine ⟨⟨[], by simp [litsF]⟩, rfl, rfl, rfl, rfl, rfl, rfl, rfl, rfl, rfl, fun _ _ h _ => h, fun i n a hi h => by have := get_lt h; have : (litsF s c l).trail.length = s.trail.length := rfl; omega, by simp [litsF], fun d y hy => ?_, fun _ => rfl, Int.le_refl _⟩
  rw [cls_lits]
  by_cases e : c = d
  · subst e
    rw [hx] at hy
    cases hy
    rw [if_pos rfl, hx]
    exact ⟨_, rfl, hp, rfl⟩
  · rw [if_neg e]
    exact ⟨y, hy, List.Perm.refl _, rfl⟩
theorem Wf.lits (h : Wf s) {c : Nat} {x : Cl} {l : List Int} (hx : s.cls[c]? = some x) (hp : l.Perm x.lits) : Wf (litsF s c l) := by
  have hE := Ext.lits hx hp
  refine ⟨h.hp, h.siz, by rw [hE.clen]; exact h.csz, h.val, h.mem, h.nd, h.free, h.lim, h.limo, h.head, fun d y hy => ?_, h.lev, fun i n a d hi ha hr => ?_, h.dec⟩
  · obtain ⟨y0, h1, h2, _⟩ := hE.cls' hy
    exact (h.cls d y0 h1).perm h2
  · obtain ⟨h1, h2⟩ := h.rea i n a d hi ha hr
    refine ⟨h1, h2.mono (fun _ _ _ h => h) fun y hy => ?_⟩
    obtain ⟨y', h3, h4, _⟩ := hE.cls d y hy
    exact ⟨y', h3, fun m => h4.mem_iff⟩
theorem Wf.watches (h : Wf s) (m : List (Int × List Nat)) : Wf { s with watches := m } := ⟨h.hp, h.siz, h.csz, h.val, h.mem, h.nd, h.free, h.lim, h.limo, h.head, h.cls, h.lev, h.rea, h.dec⟩
theorem Ext.watches (m : List (Int × List Nat)) : Ext s { s with watches := m } :=
  ⟨⟨[], by simp⟩, rfl, rfl, rfl, rfl, rfl, rfl, rfl, rfl, rfl, fun _ _ h _ => h, fun i n a hi h => by have := get_lt h; simp only at this; omega, rfl, fun c x h => ⟨x, h, List.Perm.refl _, rfl⟩, fun _ => rfl, Int.le_refl _⟩
theorem watched_put (s : St) (k k' : Int) (l : List Nat) : watched { s with watches := Mem.mput s.watches k l } k' = if k = k' then l else watched s k' := by
  unfold watched
  simp only [Mem.mget_mput]
  split <;> rfl
/-- The rest of a clause: the first one that is not false, or all of them are. -/
theorem seek_ok (h : Wf s) : ∀ (r : List Int) (k : Nat), (∀ m ∈ r, m ≠ 0 ∧ m.natAbs < s.vars.length) →
    (seekF s r k = some none ∧ ∀ m ∈ r, -m ∈ s.trail) ∨ ∃ i z, seekF s r k = some (some (k + i)) ∧ r[i]? = some z ∧ -z ∉ s.trail
  | [], k, _ => .inl ⟨rfl, fun m hm => by cases hm⟩
  | m :: r, k, hr => by
    obtain ⟨h0, h1⟩ := hr m List.mem_cons_self
    unfold seekF
    rcases h.value h0 h1 with ⟨e, _, h2⟩ | ⟨e, h2, _⟩ | ⟨e, _, h2⟩
    · rw [e]
      exact .inr ⟨0, m, by simp, rfl, h2⟩
    · rw [e]
      simp only [if_true]
      rcases seek_ok h r (k + 1) fun m' hm' => hr m' (List.mem_cons_of_mem _ hm') with ⟨h3, h4⟩ | ⟨i, z, h3, h4, h5⟩
      · refine .inl ⟨h3, fun m' hm' => ?_⟩
        rcases List.mem_cons.1 hm' with rfl | hm'
        · exact h2
        · exact h4 m' hm'
      · exact .inr ⟨i + 1, z, by rw [h3]; congr 2; omega, by simpa using h4, h5⟩
    · rw [e]
      exact .inr ⟨0, m, by simp, rfl, h2⟩
end
end Go.Sat
/- A literal has come true: the clauses that watch it are looked at, one by one. -/
namespace Go.Sat
structure WakeI (s : St) (n : Int) (h : Nat) (left todo : List Nat) : Prop where
  wf : Wf s
  hd : s.head = (h : Int) + 1
  at' : s.trail[h]? = some n
  lim : ∀ l ∈ s.limits, l ≤ (h : Int)
  wt : Wt s (fun k => if k = n then left ++ todo else watched s k)
  pi : PiX s (fun c j => j ≠ h ∨ c ∉ todo)
/-- What watches what depends on the first two literals alone, in any order. -/
def Same2 (s s1 : St) : Prop := ∀ (d : Nat) x a b r, s1.cls[d]? = some x → x.lits = a :: b :: r → ∃ x' a' b' r', s.cls[d]? = some x' ∧ x'.lits = a' :: b' :: r' ∧ ((a = a' ∧ b = b') ∨ (a = b' ∧ b = a'))
theorem Same2.head {s s1 : St} (h : Same2 s s1) {c : Nat} {k : Int} (hk : Head2 s1 c k) : Head2 s c k := by
  obtain ⟨x, a, b, r, h1, h2, h3⟩ := hk
  obtain ⟨x', a', b', r', h4, h5, h6⟩ := h c x a b r h1 h2
  refine ⟨x', a', b', r', h4, h5, ?_⟩
  rcases h6 with ⟨rfl, rfl⟩ | ⟨rfl, rfl⟩
  · exact h3
  · exact h3.symm
theorem PiX.same {s s1 : St} {X : Nat → Nat → Prop} (h : PiX s X) (h2 : Same2 s s1) (ht : s1.trail = s.trail) (hh : s1.head = s.head) (hl : s1.limits = s.limits) : PiX s1 X := by
  intro d x a b r hx hl2 u o huo j hj htj hX
  obtain ⟨x', a', b', r', h4, h5, h6⟩ := h2 d x a b r hx hl2
  obtain ⟨i, h7, h8⟩ := h d x' a' b' r' h4 h5 u o (by
    rcases h6 with ⟨rfl, rfl⟩ | ⟨rfl, rfl⟩
    · exact huo
    · exact huo.symm) j (by rw [← hh]; exact hj) (by rw [← ht]; exact htj) hX
  refine ⟨i, by rw [ht]; exact h7, ?_⟩
  unfold lvlAt at h8 ⊢
  rw [hl]; exact h8
section
variable {s s' : St} {n : Int} {h : Nat} {left todo : List Nat} {c : Nat}
theorem WakeI.nrange (H : WakeI s n h left todo) : n ≠ 0 ∧ n.natAbs < s.vars.length := by
  have hm := List.mem_of_getElem? H.at'
  exact ⟨(H.wf.mem n hm).1, (H.wf.trail_lt hm).2⟩
theorem same2_swap {x : Cl} {a b : Int} {r : List Int} (hx : s.cls[c]? = some x) (hl : x.lits = a :: b :: r) : Same2 s (litsF s c (b :: a :: r)) ∧ Same2 (litsF s c (b :: a :: r)) s := by
  constructor
  · intro d y a' b' r' hy hyl
    rw [cls_lits] at hy
    by_cases e : c = d
    · subst e
      rw [if_pos rfl, hx] at hy
      cases hy
      cases hyl
      exact ⟨x, a, b, r, hx, hl, .inr ⟨rfl, rfl⟩⟩
    · rw [if_neg e] at hy
      exact ⟨y, a', b', r', hy, hyl, .inl ⟨rfl, rfl⟩⟩
  · intro d y a' b' r' hy hyl
    rw [cls_lits]
    by_cases e : c = d
    · subst e
      rw [hx] at hy
      cases hy
      rw [hl] at hyl
      cases hyl
      rw [if_pos rfl, hx]
      exact ⟨_, b, a, r, rfl, rfl, .inr ⟨rfl, rfl⟩⟩
    · rw [if_neg e]
      exact ⟨y, a', b', r', hy, hyl, .inl ⟨rfl, rfl⟩⟩
theorem WakeI.swap (H : WakeI s n h left todo) {x : Cl} {a b : Int} {r : List Int} (hx : s.cls[c]? = some x) (hl : x.lits = a :: b :: r) : WakeI (litsF s c (b :: a :: r)) n h left todo := by
  obtain ⟨h1, h2⟩ := same2_swap hx hl
  refine ⟨H.wf.lits hx (by rw [hl]; exact List.Perm.swap _ _ _), H.hd, H.at', H.lim, ⟨fun k d => ?_, H.wt.nd⟩, H.pi.same h1 rfl rfl rfl⟩
  exact (H.wt.mem k d).trans ⟨fun hk => h2.head hk, fun hk => h1.head hk⟩
/-- The literal that fell is the second one. -/
theorem WakeI.norm (H : WakeI s n h left (c :: todo)) : ∃ s1 X x r, WakeI s1 n h left (c :: todo) ∧ Ext s s1 ∧ s1.cls[c]? = some X ∧ X.lits = x :: -n :: r ∧
    movedF s c n = (match valueF s1 x with
      | none => none
      | some v =>
        if v = 1 then some (false, s1) else
        match seekF s1 r 2 with
        | none => none
        | some none => some (false, s1)
        | some (some k) =>
          match swapF (x :: -n :: r) 1 k with
          | some (x' :: z :: r') => if z = -n then none else (putW (litsF s1 c (x' :: z :: r')) (-z) c).map fun s2 => (true, s2)
          | _ => none) := by
  obtain ⟨n0, n1⟩ := H.nrange
  have hm : Head2 s c n := (H.wt.mem n c).1 (by simp)
  obtain ⟨x, a, b, r, h1, h2, h3⟩ := hm
  have hs : smlB n = true := sml_iff.2 (by have := H.wf.siz; omega)
  have hd := (H.wf.cls c x h1).nd
  rw [h2] at hd
  have hab : a.natAbs ≠ b.natAbs := by simp at hd; exact hd.1.1
  by_cases e : a = -n
  · refine ⟨litsF s c (b :: a :: r), _, b, r, H.swap h1 h2, Ext.lits h1 (by rw [h2]; exact List.Perm.swap _ _ _), by rw [cls_lits, if_pos rfl, h1]; rfl, by rw [e], ?_⟩
    unfold movedF
    rw [hs, h1]
    simp only [Bool.true_eq_false, if_false, Option.map_some, h2, if_pos e]
    rw [e]
    rfl
  · have e2 : b = -n := by omega
    refine ⟨s, x, a, r, H, Ext.refl s, h1, by rw [h2, e2], ?_⟩
    unfold movedF
    rw [hs, h1]
    simp only [Bool.true_eq_false, if_false, Option.map_some, h2, if_neg e]
    rw [e2]
    rfl
theorem swap_two {x y z : Int} {r : List Int} {i : Nat} (hz : r[i]? = some z) : swapF (x :: y :: r) 1 (2 + i) = some (x :: z :: r.set i y) := by
  unfold swapF
  rw [show 2 + i = i + 1 + 1 from by omega]
  simp [hz]
theorem wt_room (H : WakeI s n h left todo) (k : Int) (hk : k ≠ n) : (watched s k).length ≤ 1000000 := by
  have h1 := H.wt.nd k
  simp only [if_neg hk] at h1
  have := nodup_bound s.cls.length (watched s k) h1 fun d hd => by
    obtain ⟨x, _, _, _, h2, _⟩ := (H.wt.mem k d).1 (by simp only [if_neg hk]; exact hd)
    exact get_lt h2
  have := H.wf.csz
  omega
theorem todo_room (H : WakeI s n h left todo) : (left ++ todo).length ≤ 1000000 := by
  have h1 := H.wt.nd n
  simp only [if_true] at h1
  have := nodup_bound s.cls.length (left ++ todo) h1 fun d hd => by
    obtain ⟨x, _, _, _, h2, _⟩ := (H.wt.mem n d).1 (by simp only [if_true]; exact hd)
    exact get_lt h2
  have := H.wf.csz
  omega
/-- A clause moves on to another literal, or it stays. -/
theorem WakeI.moved (H : WakeI s n h left (c :: todo)) : ∃ b s1, movedF s c n = some (b, s1) ∧ Ext s s1 ∧
    ((b = true ∧ WakeI s1 n h left todo) ∨ (b = false ∧ WakeI s1 n h left (c :: todo) ∧ ∃ X x r, s1.cls[c]? = some X ∧ X.lits = x :: -n :: r ∧ (x ∈ s1.trail ∨ x ∉ s1.trail ∧ ∀ m ∈ r, -m ∈ s1.trail))) := by
  obtain ⟨s1, X, x, r, H1, hE, hX, hXl, e⟩ := H.norm
  rw [e]
  have hC := H1.wf.cls c X hX
  have hCv := hC.var
  have hCn := hC.nd
  rw [hXl] at hCv hCn
  obtain ⟨x0, x1⟩ := hCv x List.mem_cons_self
  have htn := List.mem_of_getElem? H1.at'
  rcases H1.wf.value x0 x1 with ⟨ev, hv, _⟩ | ⟨ev, hv, hv2⟩ | ⟨ev, hv, _⟩
  · rw [ev]
    exact ⟨false, s1, by simp, hE, .inr ⟨rfl, H1, X, x, r, hX, hXl, .inl hv⟩⟩
  all_goals
    rw [ev]
    simp only [show ¬ ((-1 : Int) = 1) from by decide, show ¬ ((0 : Int) = 1) from by decide, if_false]
    rcases seek_ok H1.wf r 2 (fun m hm => hCv m (List.mem_cons_of_mem _ (List.mem_cons_of_mem _ hm))) with ⟨e2, hf⟩ | ⟨i, z, e2, hz, hzt⟩
    · rw [e2]
      exact ⟨false, s1, rfl, hE, .inr ⟨rfl, H1, X, x, r, hX, hXl, .inr ⟨by assumption, hf⟩⟩⟩
    · rw [e2]
      simp only
      rw [swap_two hz]
      simp only
      have hzr : z ∈ r := List.mem_of_getElem? hz
      simp only [List.map_cons, List.nodup_cons, List.mem_cons, List.mem_map, not_or, not_exists, not_and] at hCn
      have hzn : z.natAbs ≠ (-n).natAbs := fun e => hCn.2.1 z hzr e
      have hzx : z.natAbs ≠ x.natAbs := fun e => hCn.1.2 z hzr e
      have hxn : x.natAbs ≠ (-n).natAbs := hCn.1.1
      obtain ⟨z0, z1⟩ := hCv z (List.mem_cons_of_mem _ (List.mem_cons_of_mem _ hzr))
      rw [if_neg (fun e => hzn (by rw [e]))]
      have hp : (x :: z :: r.set i (-n)).Perm X.lits := by rw [hXl]; exact (perm_set hz).cons x
      have hroom := wt_room H1 (-z) (by omega)
      have hput : putW (litsF s1 c (x :: z :: r.set i (-n))) (-z) c = some { litsF s1 c (x :: z :: r.set i (-n)) with watches := Mem.mput s1.watches (-z) (watched s1 (-z) ++ [c]) } := by
        unfold putW
        have : watched (litsF s1 c (x :: z :: r.set i (-n))) (-z) = watched s1 (-z) := rfl
        rw [this, sml_iff.2 (by have := H1.wf.siz; omega)]
        have : roomB (watched s1 (-z)).length = true := by unfold roomB; simp; omega
        rw [this]
        rfl
      rw [hput]
      refine ⟨true, _, rfl, (hE.trans (Ext.lits hX hp) H1.wf).trans (Ext.watches _) (H1.wf.lits hX hp), .inl ⟨rfl, (H1.wf.lits hX hp).watches _, H1.hd, H1.at', H1.lim, ?_, ?_⟩⟩
      · have hcw : ∀ k, k ≠ n → (c ∈ watched s1 k ↔ k = -x) := fun k hk => by
          have h1 := H1.wt.mem k c
          simp only [if_neg hk] at h1
          rw [h1]
          constructor
          · rintro ⟨y, a, b, r', h2, h3, h4⟩
            rw [hX] at h2
            cases h2
            rw [hXl] at h3
            cases h3
            rcases h4 with h4 | h4
            · exact h4
            · exact absurd (by omega) hk
          · intro e
            exact ⟨X, x, -n, r, hX, hXl, .inl e⟩
        have hnd := H1.wt.nd n
        simp only [if_true] at hnd
        have hcn : c ∉ left ++ todo := fun hm => by
          have := List.nodup_append.1 hnd
          rcases List.mem_append.1 hm with hm | hm
          · exact this.2.2 c hm c List.mem_cons_self rfl
          · exact (List.nodup_cons.1 this.2.1).1 hm
        have hw : ∀ k, (if k = n then left ++ todo else watched { litsF s1 c (x :: z :: r.set i (-n)) with watches := Mem.mput s1.watches (-z) (watched s1 (-z) ++ [c]) } k) = if k = n then left ++ todo else if -z = k then watched s1 (-z) ++ [c] else watched s1 k := fun k => by
          by_cases hk : k = n
          · rw [if_pos hk, if_pos hk]
          · rw [if_neg hk, if_neg hk]
            exact watched_put (litsF s1 c (x :: z :: r.set i (-n))) (-z) k _
        refine ⟨fun k d => ?_, fun k => ?_⟩
        · rw [hw]
          by_cases hd : d = c
          · subst hd
            have hh : Head2 { litsF s1 d (x :: z :: r.set i (-n)) with watches := Mem.mput s1.watches (-z) (watched s1 (-z) ++ [d]) } d k ↔ (k = -x ∨ k = -z) := by
              constructor
              · rintro ⟨y, a, b, r', h2, h3, h4⟩
                have h2' : (litsF s1 d (x :: z :: r.set i (-n))).cls[d]? = some y := h2
                rw [cls_lits, if_pos rfl, hX] at h2'
                cases h2'
                cases h3
                exact h4
              · intro e
                exact ⟨{ X with lits := x :: z :: r.set i (-n) }, x, z, r.set i (-n), by show (litsF s1 d (x :: z :: r.set i (-n))).cls[d]? = _; rw [cls_lits, if_pos rfl, hX]; rfl, rfl, e⟩
            rw [hh]
            by_cases hk : k = n
            · rw [if_pos hk]
              constructor
              · intro hm; exact absurd hm hcn
              · intro e; omega
            · rw [if_neg hk]
              by_cases hkz : -z = k
              · rw [if_pos hkz]
                constructor
                · intro _; exact .inr hkz.symm
                · intro _; simp
              · rw [if_neg hkz, hcw k hk]
                constructor
                · intro e; exact .inl e
                · rintro (e | e)
                  · exact e
                  · exact absurd e.symm hkz
          · have hh : Head2 { litsF s1 c (x :: z :: r.set i (-n)) with watches := Mem.mput s1.watches (-z) (watched s1 (-z) ++ [c]) } d k ↔ Head2 s1 d k := by
              have : (litsF s1 c (x :: z :: r.set i (-n))).cls[d]? = s1.cls[d]? := by rw [cls_lits, if_neg (fun e => hd e.symm)]
              constructor
              · rintro ⟨y, a, b, r', h2, h3⟩; exact ⟨y, a, b, r', this.symm.trans h2, h3⟩
              · rintro ⟨y, a, b, r', h2, h3⟩; exact ⟨y, a, b, r', this.trans h2, h3⟩
            rw [hh, ← H1.wt.mem k d]
            by_cases hk : k = n
            · simp only [if_pos hk, List.mem_append, List.mem_cons, hd, false_or]
            · simp only [if_neg hk]
              by_cases hkz : -z = k
              · subst hkz
                simp only [if_true, List.mem_append, List.mem_cons, List.not_mem_nil, or_false, hd]
              · rw [if_neg hkz]
        · rw [hw]
          by_cases hk : k = n
          · rw [if_pos hk]
            have h1 := List.nodup_append.1 hnd
            exact List.nodup_append.2 ⟨h1.1, (List.nodup_cons.1 h1.2.1).2, fun a ha b hb => h1.2.2 a ha b (List.mem_cons_of_mem _ hb)⟩
          · rw [if_neg hk]
            have h1 := H1.wt.nd k
            simp only [if_neg hk] at h1
            by_cases hkz : -z = k
            · rw [if_pos hkz, hkz]
              refine List.nodup_append.2 ⟨h1, by simp, fun a ha b hb eab => ?_⟩
              have hbc : b = c := by simpa using hb
              rw [eab, hbc] at ha
              have := (hcw k hk).1 ha
              omega
            · rw [if_neg hkz]; exact h1
      · intro d y a b r' hy hyl u o huo j hj htj hXc
        have hy' : (litsF s1 c (x :: z :: r.set i (-n))).cls[d]? = some y := hy
        have hj' : (j : Int) < s1.head := hj
        have htj' : s1.trail[j]? = some (-u) := htj
        rw [cls_lits] at hy'
        by_cases hd : c = d
        · subst hd
          rw [if_pos rfl, hX] at hy'
          cases hy'
          cases hyl
          exfalso
          rcases huo with ⟨rfl, rfl⟩ | ⟨rfl, rfl⟩
          · -- the first one false: the second one, which is false, would be true
            have hjh : j ≠ h := fun e => by
              rw [e, H1.at'] at htj'
              cases htj'
              omega
            obtain ⟨i', h1, _⟩ := H1.pi c X u (-n) r hX hXl u (-n) (.inl ⟨rfl, rfl⟩) j hj' htj' (.inl hjh)
            exact H1.wf.not_both htn (List.mem_of_getElem? h1)
          · exact hzt (List.mem_of_getElem? htj')
        · rw [if_neg hd] at hy'
          have hne : d ≠ c := fun e => hd e.symm
          obtain ⟨i', h1, h2⟩ := H1.pi d y a b r' hy' hyl u o huo j hj' htj' (hXc.imp id fun h3 h4 => by
            rcases List.mem_cons.1 h4 with h4 | h4
            · exact hne h4
            · exact h3 h4)
          exact ⟨i', h1, h2⟩
end
end Go.Sat
