/- What follows from a clause that can't hold, as plain data: the literals that are looked at. -/
import Derived.Test.YtfpjfogddepbkaaCz16
set_option linter.unusedSimpArgs false
set_option linter.unusedVariables false
namespace Go.Sat
/-- A place on the trail whose variable was seen, of the last level. -/
def seenAt (s : St) (seen : List Int) (p : Nat) : Bool :=
  match s.trail[p]? with
  | some t => decide ((t.natAbs : Int) ∈ seen) && decide (lvlAt s p = s.limits.length)
  | none => false
def cntF (s : St) (seen : List Int) (I : Nat) : Nat := (List.range I).countP (seenAt s seen)
theorem countP_up {f f' : Nat → Bool} {p : Nat} (h : ∀ q, q ≠ p → f' q = f q) (hp : f p = false) : ∀ I : Nat, (List.range I).countP f' = (List.range I).countP f + if p < I ∧ f' p = true then 1 else 0
  | 0 => by simp
  | I + 1 => by
    rw [List.range_succ, List.countP_append, List.countP_append, countP_up h hp I]
    by_cases e : I = p
    · subst e
      cases hq : f' I <;> simp [hp, hq]
    · have : (p < I + 1 ∧ f' p = true) ↔ (p < I ∧ f' p = true) := by
        constructor <;> rintro ⟨h1, h2⟩ <;> exact ⟨by omega, h2⟩
      simp only [this]
      have e2 : List.countP f' [I] = List.countP f [I] := by simp [h I e]
      rw [e2]; omega
section
variable {s s1 s' : St}
theorem Lr.seenAt (h : Lr s s') (seen : List Int) (p : Nat) : seenAt s' seen p = Sat.seenAt s seen p := by
  unfold Sat.seenAt; rw [h.trail, h.limits]
  cases s.trail[p]? with
  | none => rfl
  | some t => simp only [h.lvl]
theorem Lr.cnt (h : Lr s s') (seen : List Int) (I : Nat) : cntF s' seen I = cntF s seen I := by
  unfold cntF
  congr 1
  funext p
  exact h.seenAt seen p
theorem cnt_cons (W : Wf s) {seen : List Int} {p : Nat} {t : Int} (hp : s.trail[p]? = some t) (hn : (t.natAbs : Int) ∉ seen) {I : Nat} (hI : p < I) : cntF s ((t.natAbs : Int) :: seen) I = cntF s seen I + if lvlAt s p = s.limits.length then 1 else 0 := by
  unfold cntF
  rw [countP_up (p := p) (f := seenAt s seen) (fun q hq => ?_) (by unfold seenAt; rw [hp]; simp [hn])]
  · congr 1
    have : (p < I ∧ seenAt s ((t.natAbs : Int) :: seen) p = true) ↔ lvlAt s p = s.limits.length := by
      unfold seenAt
      rw [hp]
      simp [hI]
    simp only [this]
  · unfold seenAt
    cases hq2 : s.trail[q]? with
    | none => rfl
    | some u =>
      have hne : ¬ (u.natAbs : Int) = (t.natAbs : Int) := fun e => hq (W.nd_inj hq2 hp (by omega))
      simp only [List.mem_cons, hne, false_or]
theorem cnt_le (s : St) (seen : List Int) (I : Nat) : cntF s seen I ≤ I := by
  have := List.countP_le_length (p := seenAt s seen) (l := List.range I)
  simpa [cntF] using this
/-- What is known while a clause's literals are looked at. -/
structure LI (s : St) (I : Nat) (seen : List Int) (count : Int) (rest : List Int) : Prop where
  sv : ∀ v ∈ seen, ∃ p t, s.trail[p]? = some t ∧ (t.natAbs : Int) = v ∧ 1 ≤ lvlAt s p
  cnt : count = (cntF s seen I : Nat)
  rst : ∀ m ∈ rest, (m.natAbs : Int) ∈ seen ∧ ∃ p, s.trail[p]? = some (-m) ∧ 1 ≤ lvlAt s p ∧ lvlAt s p < s.limits.length
  rnd : (rest.map Int.natAbs).Nodup
  low : ∀ p t, s.trail[p]? = some t → (t.natAbs : Int) ∈ seen → lvlAt s p < s.limits.length → -t ∈ rest
theorem LI.lr {I : Nat} {seen rest : List Int} {count : Int} (h : LI s I seen count rest) (k : Lr s s') : LI s' I seen count rest :=
  ⟨fun v hv => by
    obtain ⟨p, t, h1, h2, h3⟩ := h.sv v hv
    exact ⟨p, t, by rw [k.trail]; exact h1, h2, by rw [k.lvl]; exact h3⟩, by rw [k.cnt]; exact h.cnt, fun m hm => by
    obtain ⟨h1, p, h2, h3, h4⟩ := h.rst m hm
    exact ⟨h1, p, by rw [k.trail]; exact h2, by rw [k.lvl]; exact h3, by rw [k.lvl, k.limits]; exact h4⟩, h.rnd, fun p t hp ht hl => h.low p t (by rw [← k.trail]; exact hp) ht (by rw [← k.lvl, ← k.limits]; exact hl)⟩
theorem LI.rlen {I : Nat} {seen rest : List Int} {count : Int} (h : LI s I seen count rest) (W : Wf s) : rest.length ≤ s.vars.length := by
  have := nodup_bound s.vars.length (rest.map Int.natAbs) h.rnd fun x hx => by
    obtain ⟨m, hm, rfl⟩ := List.mem_map.1 hx
    obtain ⟨_, p, h2, _⟩ := h.rst m hm
    have := (W.trail_lt (List.mem_of_getElem? h2)).2
    omega
  simpa using this
theorem scan_ok (n o0 : Int) (I : Nat) (hI : I ≤ 1048577) : ∀ (r : List Int) (s : St) (seen : List Int) (count : Int) (rest : List Int), Wf s → Sco s → LI s I seen count rest →
    (∀ m ∈ r, m.natAbs < s.vars.length ∧ (m = n ∨ ∃ p, p < I ∧ s.trail[p]? = some (-m))) →
    ∃ s1 seen1 count1 rest1, scanF n s seen count (o0 :: rest) r = some (s1, seen1, count1, o0 :: rest1) ∧ Lr s s1 ∧ Sco s1 ∧ LI s1 I seen1 count1 rest1 ∧ (∀ v ∈ seen, v ∈ seen1) ∧ (∀ m ∈ rest, m ∈ rest1) ∧
      (∀ m ∈ r, m = n ∨ (m.natAbs : Int) ∈ seen1 ∨ ∃ p, p < I ∧ s.trail[p]? = some (-m) ∧ lvlAt s p = 0) ∧ (s1.bump ≤ 1099511627776 ∨ seen1 = seen ∧ s1.bump = s.bump)
  | [], s, seen, count, rest, W, S, H, _ => ⟨s, seen, count, rest, rfl, Lr.refl W.hp, S, H, fun _ h => h, fun _ h => h, fun m hm => (by cases hm), .inr ⟨rfl, rfl⟩⟩
  | m :: r, s, seen, count, rest, W, S, H, hr => by
    obtain ⟨hmv, hmn⟩ := hr m List.mem_cons_self
    have hr' : ∀ m' ∈ r, m'.natAbs < s.vars.length ∧ (m' = n ∨ ∃ p, p < I ∧ s.trail[p]? = some (-m')) := fun m' h => hr m' (List.mem_cons_of_mem _ h)
    have hsz := W.siz
    have hcl := cnt_le s seen I
    have hc := H.cnt
    have hrl := H.rlen W
    unfold scanF
    have hg : (smlB m && decide (0 ≤ count ∧ count ≤ 1099511627776) && roomB (o0 :: rest).length) = true := by
      rw [sml_iff.2 (by omega)]
      have h1 : decide (0 ≤ count ∧ count ≤ 1099511627776) = true := by simp; omega
      have h2 : roomB (o0 :: rest).length = true := by unfold roomB; simp; omega
      rw [h1, h2]; rfl
    rw [hg]
    simp only [Bool.true_eq_false, if_false]
    by_cases hskip : m = n ∨ ofF m ∈ seen
    · rw [if_pos hskip]
      obtain ⟨s1, seen1, count1, rest1, h1, h2, h3, h4, h5, h6, h7, h8⟩ := scan_ok n o0 I hI r s seen count rest W S H hr'
      refine ⟨s1, seen1, count1, rest1, h1, h2, h3, h4, h5, h6, fun m' hm' => ?_, h8⟩
      rcases List.mem_cons.1 hm' with rfl | hm'
      · rcases hskip with h9 | h9
        · exact .inl h9
        · rw [ofF_eq] at h9
          exact .inr (.inl (h5 _ h9))
      · exact h7 m' hm'
    · rw [if_neg hskip]
      have hne : m ≠ n := fun e => hskip (.inl e)
      have hns : (m.natAbs : Int) ∉ seen := fun e => hskip (.inr (by rw [ofF_eq]; exact e))
      obtain ⟨p, hpI, hp⟩ := hmn.resolve_left hne
      clear hmn hskip
      obtain ⟨a, ha⟩ := get_some hmv
      have hna : (-m).natAbs = m.natAbs := by omega
      have hlev : a.level = (lvlAt s p : Int) := W.lev p (-m) a hp (by rw [hna]; exact ha)
      rw [ofF_eq, nth_nat, ha]
      simp only
      by_cases h0 : a.level = 0
      · rw [if_pos h0]
        obtain ⟨s1, seen1, count1, rest1, h1, h2, h3, h4, h5, h6, h7, h8⟩ := scan_ok n o0 I hI r s seen count rest W S H hr'
        refine ⟨s1, seen1, count1, rest1, h1, h2, h3, h4, h5, h6, fun m' hm' => ?_, h8⟩
        rcases List.mem_cons.1 hm' with rfl | hm'
        · exact .inr (.inr ⟨p, hpI, hp, by omega⟩)
        · exact h7 m' hm'
      · rw [if_neg h0]
        obtain ⟨s2, h9, hL, S2, hb2⟩ := used_ok W S hmv
        rw [h9]
        simp only
        obtain ⟨a2, ha2, _, e2, _⟩ := hL.var' ha
        rw [nth_nat, ha2]
        simp only
        have W2 := hL.wf W
        have H2 := H.lr hL
        have hp2 : s2.trail[p]? = some (-m) := by rw [hL.trail]; exact hp
        have hr2 : ∀ m' ∈ r, m'.natAbs < s2.vars.length ∧ (m' = n ∨ ∃ p, p < I ∧ s2.trail[p]? = some (-m')) := fun m' h => by
          rw [hL.vlen, hL.trail]; exact hr' m' h
        have hlv2 : lvlAt s2 p = lvlAt s p := hL.lvl p
        have hcons : cntF s2 ((m.natAbs : Int) :: seen) I = cntF s2 seen I + if lvlAt s2 p = s2.limits.length then 1 else 0 := by
          have := cnt_cons W2 hp2 (seen := seen) (by rw [hna]; exact hns) hpI
          rw [hna] at this; exact this
        have hsv : ∀ v ∈ (m.natAbs : Int) :: seen, ∃ p t, s2.trail[p]? = some t ∧ (t.natAbs : Int) = v ∧ 1 ≤ lvlAt s2 p := fun v hv => by
          rcases List.mem_cons.1 hv with rfl | hv
          · exact ⟨p, -m, hp2, by omega, by omega⟩
          · exact H2.sv v hv
        by_cases htop : a2.level = levelF s2
        · rw [if_pos htop]
          have hlt : lvlAt s2 p = s2.limits.length := by unfold levelF at htop; omega
          have H3 : LI s2 I ((m.natAbs : Int) :: seen) (count + 1) rest := by
            refine ⟨hsv, ?_, fun m' hm' => ?_, H2.rnd, fun q t hq ht hl => ?_⟩
            · rw [hcons, if_pos hlt, H2.cnt]; omega
            · obtain ⟨h1, h2⟩ := H2.rst m' hm'
              exact ⟨List.mem_cons_of_mem _ h1, h2⟩
            · rcases List.mem_cons.1 ht with h1 | h1
              · have := W2.nd_inj hq hp2 (by omega)
                subst this
                omega
              · exact H2.low q t hq h1 hl
          obtain ⟨s1, seen1, count1, rest1, h1, h2, h3, h4, h5, h6, h7, h8⟩ := scan_ok n o0 I hI r s2 ((m.natAbs : Int) :: seen) (count + 1) rest W2 S2 H3 hr2
          refine ⟨s1, seen1, count1, rest1, h1, hL.trans h2, h3, h4, fun v hv => h5 v (List.mem_cons_of_mem _ hv), h6, fun m' hm' => ?_, ?_⟩
          · rcases List.mem_cons.1 hm' with rfl | hm'
            · exact .inr (.inl (h5 _ List.mem_cons_self))
            · rcases h7 m' hm' with h | h | ⟨q, h10, h11, h12⟩
              · exact .inl h
              · exact .inr (.inl h)
              · exact .inr (.inr ⟨q, h10, by rw [← hL.trail]; exact h11, by rw [← hL.lvl]; exact h12⟩)
          · rcases h8 with h8 | ⟨_, h8⟩
            · exact .inl h8
            · left; rw [h8]; exact hb2
        · rw [if_neg htop]
          have hlt : lvlAt s2 p < s2.limits.length := by have := lvl_le s2 p; unfold levelF at htop; omega
          have H3 : LI s2 I ((m.natAbs : Int) :: seen) count (rest ++ [m]) := by
            refine ⟨hsv, ?_, fun m' hm' => ?_, ?_, fun q t hq ht hl => ?_⟩
            · rw [hcons, if_neg (by omega), H2.cnt]; omega
            · rcases List.mem_append.1 hm' with hm' | hm'
              · obtain ⟨h1, h2⟩ := H2.rst m' hm'
                exact ⟨List.mem_cons_of_mem _ h1, h2⟩
              · simp at hm'
                subst hm'
                exact ⟨List.mem_cons_self, p, hp2, by omega, hlt⟩
            · rw [List.map_append, List.nodup_append]
              refine ⟨H2.rnd, by simp, fun x hx y hy => ?_⟩
              obtain ⟨m', hm', rfl⟩ := List.mem_map.1 hx
              simp at hy
              subst hy
              have := (H2.rst m' hm').1
              exact fun e => hns (by rw [← e]; exact this)
            · rcases List.mem_cons.1 ht with h1 | h1
              · have := W2.nd_inj hq hp2 (by omega)
                subst this
                rw [hp2] at hq
                cases hq
                simp
              · exact List.mem_append_left _ (H2.low q t hq h1 hl)
          obtain ⟨s1, seen1, count1, rest1, h1, h2, h3, h4, h5, h6, h7, h8⟩ := scan_ok n o0 I hI r s2 ((m.natAbs : Int) :: seen) count (rest ++ [m]) W2 S2 H3 hr2
          refine ⟨s1, seen1, count1, rest1, h1, hL.trans h2, h3, h4, fun v hv => h5 v (List.mem_cons_of_mem _ hv), fun m' hm' => h6 m' (List.mem_append_left _ hm'), fun m' hm' => ?_, ?_⟩
          · rcases List.mem_cons.1 hm' with rfl | hm'
            · exact .inr (.inl (h5 _ List.mem_cons_self))
            · rcases h7 m' hm' with h | h | ⟨q, h10, h11, h12⟩
              · exact .inl h
              · exact .inr (.inl h)
              · exact .inr (.inr ⟨q, h10, by rw [← hL.trail]; exact h11, by rw [← hL.lvl]; exact h12⟩)
          · rcases h8 with h8 | ⟨_, h8⟩
            · exact .inl h8
            · left; rw [h8]; exact hb2
/-- The last one on the trail that was seen. -/
theorem last_ok (W : Wf s) (seen : List Int) : ∀ (k I : Nat), I ≤ k → I ≤ s.trail.length → (∃ p t, p < I ∧ s.trail[p]? = some t ∧ (t.natAbs : Int) ∈ seen) →
    ∃ (j : Nat) (t : Int), lastSeen s seen k ((I : Int) - 1) = some (t, (j : Int)) ∧ j < I ∧ s.trail[j]? = some t ∧ (t.natAbs : Int) ∈ seen ∧ ∀ q u, j < q → q < I → s.trail[q]? = some u → (u.natAbs : Int) ∉ seen
  | 0, I, hk, _, ⟨p, _, hp, _⟩ => by omega
  | k + 1, I, hk, hl, ⟨p, t, hp, hpt, hs⟩ => by
    unfold lastSeen
    obtain ⟨i, rfl⟩ : ∃ i, I = i + 1 := ⟨I - 1, by omega⟩
    have e : ((i + 1 : Nat) : Int) - 1 = (i : Int) := by omega
    obtain ⟨u, hu⟩ := get_some (l := s.trail) (i := i) (by omega)
    have hsz := W.siz
    have := (W.trail_lt (List.mem_of_getElem? hu)).2
    rw [e, nth_nat, hu]
    simp only
    rw [sml_iff.2 (by omega), ofF_eq]
    simp only [Bool.true_eq_false, if_false]
    by_cases hus : (u.natAbs : Int) ∈ seen
    · rw [if_pos hus]
      exact ⟨i, u, rfl, by omega, hu, hus, fun q v h1 h2 => by omega⟩
    · rw [if_neg hus]
      have hpi : p < i := by
        by_cases e2 : p = i
        · rw [e2, hu] at hpt; cases hpt; exact absurd hs hus
        · omega
      obtain ⟨j, t', h1, h2, h3, h4, h5⟩ := last_ok W seen k i (by omega) (by omega) ⟨p, t, hpi, hpt, hs⟩
      refine ⟨j, t', h1, by omega, h3, h4, fun q v h6 h7 hv => ?_⟩
      by_cases e2 : q = i
      · rw [e2, hu] at hv; cases hv; exact hus
      · exact h5 q v h6 (by omega) hv
end
end Go.Sat
/- What follows from a clause that can't hold, as plain data: the clause that is learnt. -/
namespace Go.Sat
/-- A way in which the clauses hold, and what is set at the bottom. -/
def ModOk (A : Nat → Bool) (s : St) : Prop := SatA A s ∧ ∀ (i : Nat) n, s.trail[i]? = some n → lvlAt s i = 0 → litT A n
section
variable {s s1 s' : St}
theorem Lr.modOk (h : Lr s s') {A : Nat → Bool} (hA : ModOk A s) : ModOk A s' :=
  ⟨fun c x hx => by
    obtain ⟨y, h1, h2, _⟩ := h.cls c x hx
    obtain ⟨m, h3, h4⟩ := hA.1 c y h1
    exact ⟨m, by rw [h2]; exact h3, h4⟩, fun i n hi hl => hA.2 i n (by rw [← h.trail]; exact hi) (by rw [← h.lvl]; exact hl)⟩
theorem Lr.touch (W : Wf s) (c : Nat) (z : Int) : Lr s { s with cls := s.cls.modify c fun x => { x with score := z } } :=
  ⟨rfl, rfl, rfl, rfl, rfl, rfl, rfl, rfl, rfl, by simp, fun v a h => ⟨a, h, rfl, rfl, rfl⟩, fun d x hx => by
    have hx' : (s.cls.modify c fun x => { x with score := z })[d]? = some x := hx
    rw [List.getElem?_modify] at hx'
    obtain ⟨y, h1, h2⟩ := Option.map_eq_some_iff.1 hx'
    refine ⟨y, h1, ?_⟩
    by_cases e : c = d
    · simp only [if_pos e] at h2
      exact ⟨by rw [← h2], by rw [← h2]⟩
    · simp only [if_neg e] at h2
      exact ⟨by rw [← h2], by rw [← h2]⟩, W.hp, fun _ h => h⟩
theorem cnt_split {seen : List Int} {j : Nat} (hj : seenAt s seen j = true) : ∀ I, j < I → (∀ q, j < q → q < I → seenAt s seen q = false) → cntF s seen I = cntF s seen j + 1
  | 0, h, _ => by omega
  | I + 1, h, hq => by
    unfold cntF
    rw [List.range_succ, List.countP_append]
    by_cases e : j = I
    · subst e
      simp [hj]
    · have h1 := cnt_split hj I (by omega) fun q h1 h2 => hq q h1 (by omega)
      unfold cntF at h1
      rw [h1]
      simp [hq I (by omega) (by omega)]
theorem seenAt_iff {seen : List Int} {p : Nat} {t : Int} (hp : s.trail[p]? = some t) : seenAt s seen p = true ↔ (t.natAbs : Int) ∈ seen ∧ lvlAt s p = s.limits.length := by
  unfold seenAt; rw [hp]; simp
theorem learnL_ok (o0 : Int) : ∀ (k : Nat) (s : St) (c : Nat) (n : Int) (seen : List Int) (count : Int) (I : Nat) (rest : List Int) (x : Cl), Wf s → Sco s → I < k → I ≤ s.trail.length → LI s I seen count rest →
    s.cls[c]? = some x → (∀ m ∈ x.lits, m = n ∨ ∃ p, p < I ∧ s.trail[p]? = some (-m)) →
    ((∃ p, p < I ∧ seenAt s seen p = true) ∨ ∃ m ∈ x.lits, m ≠ n ∧ ∃ p, p < I ∧ s.trail[p]? = some (-m) ∧ lvlAt s p = s.limits.length) →
    (∀ A, ModOk A s → n = 0 ∨ (∃ m ∈ rest, litT A m) ∨ (∃ p t, p < I ∧ s.trail[p]? = some t ∧ (t.natAbs : Int) ∈ seen ∧ lvlAt s p = s.limits.length ∧ ¬ litT A t) ∨ ¬ litT A n) →
    0 < s.limits.length → (s.bump ≤ 1099511627776 ∨ seen = []) →
    ∃ (s1 : St) (m : Int) (j : Nat) (rest1 : List Int), learnL k s c n seen count ((I : Int) - 1) (o0 :: rest) = some (s1, m, o0 :: rest1) ∧ Lr s s1 ∧ Sco s1 ∧ s1.bump ≤ 1099511627776 ∧ s.trail[j]? = some m ∧ lvlAt s j = s.limits.length ∧
      (∀ m' ∈ rest1, ∃ p, s.trail[p]? = some (-m') ∧ 1 ≤ lvlAt s p ∧ lvlAt s p < s.limits.length) ∧ (rest1.map Int.natAbs).Nodup ∧ ∀ A, ModOk A s → (∃ m' ∈ rest1, litT A m') ∨ ¬ litT A m
  | 0, _, _, _, _, _, _, _, _, _, _, h, _, _, _, _, _, _, _, _ => by omega
  | k + 1, s, c, n, seen, count, I, rest, x, W, S, hk, hIl, H, hx, hcl, hex, hsem, hL0, hb => by
    have htl := W.tlen
    have hsz := W.siz
    have L0 := Lr.touch W c s.conflicts
    obtain ⟨s0, hs0⟩ : ∃ s0 : St, s0 = { s with cls := s.cls.modify c fun x => { x with score := s.conflicts } } := ⟨_, rfl⟩
    rw [← hs0] at L0
    have S0 : Sco s0 := by rw [hs0]; exact ⟨S.bump, S.score⟩
    have W0 := L0.wf W
    have b0 : s0.bump = s.bump := by rw [hs0]
    obtain ⟨s1, seen1, count1, rest1, h1, L1, S1, H1, h2, h3, h4, h5⟩ := scan_ok n o0 I (by omega) x.lits s0 seen count rest W0 S0 (H.lr L0) (fun m hm => by
      rw [L0.vlen, L0.trail]
      exact ⟨((W.cls c x hx).var m hm).2, hcl m hm⟩)
    have LL := L0.trans L1
    have W1 := LL.wf W
    have ht1 : s1.trail = s.trail := LL.trail
    have hl1 : ∀ i, lvlAt s1 i = lvlAt s i := LL.lvl
    have hlim1 : s1.limits = s.limits := LL.limits
    -- each literal that is false is seen, or of the bottom
    have hseen : ∀ m ∈ x.lits, m ≠ n → ∃ p, p < I ∧ s.trail[p]? = some (-m) ∧ (lvlAt s p = 0 ∨ (m.natAbs : Int) ∈ seen1) := fun m hm hne => by
      obtain ⟨p, hp, hpt⟩ := (hcl m hm).resolve_left hne
      refine ⟨p, hp, hpt, ?_⟩
      rcases h4 m hm with h | h | ⟨q, _, h6, h7⟩
      · exact absurd h hne
      · exact .inr h
      · left
        rw [L0.trail] at h6
        rw [L0.lvl] at h7
        have := W.nd_inj h6 hpt rfl
        rw [← this]; exact h7
    have hex1 : ∃ p t, p < I ∧ s.trail[p]? = some t ∧ (t.natAbs : Int) ∈ seen1 ∧ lvlAt s p = s.limits.length := by
      rcases hex with ⟨p, hp, hs⟩ | ⟨m, hm, hne, p, hp, hpt, hlv⟩
      · obtain ⟨t, ht⟩ := get_some (l := s.trail) (i := p) (by omega)
        obtain ⟨h6, h7⟩ := (seenAt_iff ht).1 hs
        exact ⟨p, t, hp, ht, h2 _ h6, h7⟩
      · obtain ⟨q, hq, hqt, hor⟩ := hseen m hm hne
        have := W.nd_inj hqt hpt rfl
        subst this
        refine ⟨q, -m, hq, hqt, ?_, hlv⟩
        rcases hor with h | h
        · omega
        · rw [show (-m).natAbs = m.natAbs from by omega]; exact h
    obtain ⟨p0, t0, hp0, hpt0, hs0', hlv0⟩ := hex1
    obtain ⟨j, m, h6, hjI, hjt, hjs, hjn⟩ := last_ok W1 seen1 (s1.trail.length + 1) I (by rw [ht1]; omega) (by rw [ht1]; exact hIl) ⟨p0, t0, hp0, by rw [ht1]; exact hpt0, hs0'⟩
    rw [ht1] at hjt
    have hp0j : p0 ≤ j := by
      by_cases h : p0 ≤ j
      · exact h
      · exact absurd hs0' (hjn p0 t0 (by omega) hp0 (by rw [ht1]; exact hpt0))
    have hlj : lvlAt s j = s.limits.length := by
      have := lvl_mono s hp0j
      have := lvl_le s j
      omega
    have hsj : seenAt s1 seen1 j = true := (seenAt_iff (by rw [ht1]; exact hjt)).2 ⟨hjs, by rw [hl1, hlim1]; exact hlj⟩
    have hcs := cnt_split hsj I hjI fun q h7 h8 => by
      obtain ⟨u, hu⟩ := get_some (l := s1.trail) (i := q) (by rw [ht1]; omega)
      cases hq : seenAt s1 seen1 q with
      | false => rfl
      | true => exact absurd ((seenAt_iff hu).1 hq).1 (hjn q u h7 h8 hu)
    have hc1 := H1.cnt
    have hcle := cnt_le s1 seen1 I
    have hbump : s1.bump ≤ 1099511627776 := by
      rcases h5 with h7 | ⟨h7, h8⟩
      · exact h7
      · rcases hb with h9 | h9
        · rw [h8, b0]; exact h9
        · rw [h7, h9] at hjs; cases hjs
    -- what the clause says, put together with what was known
    have hD : ∀ A, ModOk A s → (∃ m' ∈ rest1, litT A m') ∨ ∃ p t, p < I ∧ s.trail[p]? = some t ∧ (t.natAbs : Int) ∈ seen1 ∧ lvlAt s p = s.limits.length ∧ ¬ litT A t := fun A hA => by
      have key : (n = 0 ∨ ¬ litT A n) → (∃ m' ∈ rest1, litT A m') ∨ ∃ p t, p < I ∧ s.trail[p]? = some t ∧ (t.natAbs : Int) ∈ seen1 ∧ lvlAt s p = s.limits.length ∧ ¬ litT A t := fun hn => by
        obtain ⟨l, hl, hlt⟩ := hA.1 c x hx
        have hl0 := ((W.cls c x hx).var l hl).1
        have hne : l ≠ n := fun e => by
          subst e
          rcases hn with h | h
          · exact hl0 h
          · exact h hlt
        obtain ⟨p, hp, hpt, hor⟩ := hseen l hl hne
        have hneg : ¬ litT A (-l) := fun h => (litT_neg hl0).1 h hlt
        rcases hor with h | h
        · exact absurd (hA.2 p _ hpt h) hneg
        · by_cases hlv : lvlAt s p = s.limits.length
          · exact .inr ⟨p, -l, hp, hpt, by rw [show (-l).natAbs = l.natAbs from by omega]; exact h, hlv, hneg⟩
          · left
            have := H1.low p (-l) (by rw [ht1]; exact hpt) (by rw [show (-l).natAbs = l.natAbs from by omega]; exact h) (by rw [hl1, hlim1]; have := lvl_le s p; omega)
            exact ⟨l, by simpa using this, hlt⟩
      rcases hsem A hA with h | ⟨m', h7, h8⟩ | ⟨p, t, h7, h8, h9, h10, h11⟩ | h
      · exact key (.inl h)
      · exact .inl ⟨m', h3 m' h7, h8⟩
      · exact .inr ⟨p, t, h7, h8, h2 _ h9, h10, h11⟩
      · exact key (.inr h)
    unfold learnL
    rw [hx]
    simp only
    rw [← hs0, h1]
    simp only
    rw [h6]
    simp only
    have hg : (decide (0 ≤ count1 ∧ count1 ≤ 1099511627777) && smlB m) = true := by
      have h7 : decide (0 ≤ count1 ∧ count1 ≤ 1099511627777) = true := by simp; omega
      have := (W.trail_lt (List.mem_of_getElem? hjt)).2
      rw [h7, sml_iff.2 (by omega)]; rfl
    rw [hg]
    simp only [Bool.true_eq_false, if_false]
    have hrst : ∀ m' ∈ rest1, ∃ p, s.trail[p]? = some (-m') ∧ 1 ≤ lvlAt s p ∧ lvlAt s p < s.limits.length := fun m' hm' => by
      obtain ⟨_, p, h7, h8, h9⟩ := H1.rst m' hm'
      exact ⟨p, by rw [← ht1]; exact h7, by rw [← hl1]; exact h8, by rw [← hl1, ← hlim1]; exact h9⟩
    by_cases hone : count1 - 1 = 0
    · rw [if_pos hone]
      refine ⟨s1, m, j, rest1, rfl, LL, S1, hbump, hjt, hlj, hrst, H1.rnd, fun A hA => ?_⟩
      rcases hD A hA with h7 | ⟨p, t, h7, h8, h9, h10, h11⟩
      · exact .inl h7
      · right
        have hz : cntF s1 seen1 j = 0 := by omega
        have hpj : p = j := by
          rcases Nat.lt_trichotomy p j with h12 | h12 | h12
          · exfalso
            unfold cntF at hz
            rw [List.countP_eq_zero] at hz
            exact hz p (List.mem_range.2 h12) ((seenAt_iff (by rw [ht1]; exact h8)).2 ⟨h9, by rw [hl1, hlim1]; exact h10⟩)
          · exact h12
          · exact absurd h9 (hjn p t h12 h7 (by rw [ht1]; exact h8))
        rw [hpj, hjt] at h8
        cases h8
        exact h11
    · rw [if_neg hone]
      obtain ⟨m0, a1, ha1, _⟩ := W1.mem m (by rw [ht1]; exact List.mem_of_getElem? hjt)
      -- another one of the last level before it: it isn't what was decided
      have hcj : 0 < cntF s1 seen1 j := by omega
      have hbef : ∃ p, p < j ∧ seenAt s1 seen1 p = true := by
        unfold cntF at hcj
        rw [List.countP_pos_iff] at hcj
        obtain ⟨p, hp, hps⟩ := hcj
        exact ⟨p, List.mem_range.1 hp, hps⟩
      have hre : ∃ d, a1.reason = some d := by
        cases hr : a1.reason with
        | some d => exact ⟨d, rfl⟩
        | none =>
          exfalso
          obtain ⟨p, hpj, hps⟩ := hbef
          obtain ⟨u, hu⟩ := get_some (l := s1.trail) (i := p) (by rw [ht1]; omega)
          have hpl := ((seenAt_iff hu).1 hps).2
          rcases W1.dec j m a1 (by rw [ht1]; exact hjt) ha1 hr with h7 | h7
          · obtain ⟨q, hq⟩ := List.mem_iff_getElem?.1 h7
            have h8 := W1.lvl_below hq (i := p) (by omega)
            have := get_lt hq
            omega
          · rw [hl1, hlj] at h7; omega
      obtain ⟨d, hd⟩ := hre
      rw [ofF_eq, nth_nat, ha1]
      simp only [Option.bind_some, hd]
      obtain ⟨_, y, hy, hmy, hbc⟩ := W1.rea j m a1 d (by rw [ht1]; exact hjt) ha1 hd
      have H2 : LI s1 j seen1 (count1 - 1) rest1 := ⟨H1.sv, by rw [hc1]; omega, H1.rst, H1.rnd, H1.low⟩
      obtain ⟨s2, m2, j2, rest2, r1, r2, r3, r4, r5, r6, r7, r8, r9⟩ := learnL_ok o0 k s1 d m seen1 (count1 - 1) j rest1 y W1 S1 (by omega) (by rw [ht1]; omega) H2 hy (fun m' hm' => hbc m' hm') (.inl hbef) (fun A hA => by
        have hA' : ModOk A s := ⟨fun c' x' hx' => by
          obtain ⟨z, h7, h8, _⟩ := LL.cls' hx'
          obtain ⟨l, h9, h10⟩ := hA.1 c' z h7
          exact ⟨l, by rw [← h8]; exact h9, h10⟩, fun i l hi hl => hA.2 i l (by rw [ht1]; exact hi) (by rw [hl1]; exact hl)⟩
        rcases hD A hA' with h7 | ⟨p, t, h7, h8, h9, h10, h11⟩
        · exact .inr (.inl h7)
        · right; right
          rcases Nat.lt_trichotomy p j with h12 | h12 | h12
          · exact .inl ⟨p, t, h12, by rw [ht1]; exact h8, h9, by rw [hl1, hlim1]; exact h10, h11⟩
          · right
            rw [h12, hjt] at h8
            cases h8
            exact h11
          · exact absurd h9 (hjn p t h12 h7 (by rw [ht1]; exact h8))) (by rw [hlim1]; exact hL0) (.inl hbump)
      refine ⟨s2, m2, j2, rest2, r1, LL.trans r2, r3, r4, by rw [← ht1]; exact r5, by rw [← hl1, ← hlim1]; exact r6, fun m' hm' => ?_, r8, fun A hA => r9 A (LL.modOk hA)⟩
      obtain ⟨p, h7, h8, h9⟩ := r7 m' hm'
      exact ⟨p, by rw [← ht1]; exact h7, by rw [← hl1]; exact h8, by rw [← hl1, ← hlim1]; exact h9⟩
end
end Go.Sat
/- The learnt clause put in order, as plain data: the level to go back to. -/
namespace Go.Sat
/-- A literal's level. -/
def lvOf (s : St) (m : Int) : Int := ((s.vars[m.natAbs]?).map (·.level)).getD 0
section
variable {s s1 s' : St}
theorem lvOf_some {m : Int} {a : Fact} (h : s.vars[m.natAbs]? = some a) : lvOf s m = a.level := by unfold lvOf; rw [h]; rfl
theorem swap_ok {l : List Int} {i j : Nat} {x y : Int} (hi : l[i]? = some x) (hj : l[j]? = some y) : swapF l i j = some ((l.set i y).set j x) ∧ ((l.set i y).set j x).Perm l := by
  constructor
  · unfold swapF; rw [hi, hj]
  · have h1 := get_lt hi
    have h2 := get_lt hj
    rw [List.getElem?_eq_getElem h1] at hi
    rw [List.getElem?_eq_getElem h2] at hj
    cases hi; cases hj
    exact List.set_set_perm h1 h2
theorem sort_ok (W : Wf s) : ∀ (K i : Nat) (out : List Int) (back : Int), K + i = out.length → 1 ≤ i → (∀ m ∈ out.drop 1, m.natAbs < s.vars.length ∧ 1 ≤ lvOf s m) →
    (∀ (q : Nat) m, 1 ≤ q → q < i → out[q]? = some m → lvOf s m ≤ back) → (1 < i → ∃ m, out[1]? = some m ∧ lvOf s m = back) → (i = 1 → back = 0) →
    ∃ out' back', sortF s back out K i = some (out', back') ∧ out'.Perm out ∧ out'[0]? = out[0]? ∧ (∀ (q : Nat) m, 1 ≤ q → out'[q]? = some m → lvOf s m ≤ back') ∧ (1 < out.length → ∃ m, out'[1]? = some m ∧ lvOf s m = back') ∧ (out.length ≤ 1 → back' = 0)
  | 0, i, out, back, hK, hi, hr, h1, h2, h3 => by
    refine ⟨out, back, rfl, List.Perm.refl _, rfl, fun q m hq hm => ?_, fun h => h2 (by omega), fun h => h3 (by omega)⟩
    have := get_lt hm
    exact h1 q m hq (by omega) hm
  | K + 1, i, out, back, hK, hi, hr, h1, h2, h3 => by
    obtain ⟨m, hm⟩ := get_some (l := out) (i := i) (by omega)
    have hmd : m ∈ out.drop 1 := List.mem_iff_getElem?.2 ⟨i - 1, by rw [List.getElem?_drop, show 1 + (i - 1) = i from by omega]; exact hm⟩
    obtain ⟨hmv, hml⟩ := hr m hmd
    obtain ⟨a, ha⟩ := get_some hmv
    have hsz := W.siz
    have hlv := lvOf_some ha
    unfold sortF
    rw [hm]
    simp only
    rw [sml_iff.2 (by omega), ofF_eq, nth_nat, ha]
    simp only [Bool.true_eq_false, if_false]
    by_cases hb : back < a.level
    · rw [if_pos hb]
      obtain ⟨y, hy⟩ := get_some (l := out) (i := 1) (by omega)
      obtain ⟨e1, e2⟩ := swap_ok hy hm
      rw [e1]
      simp only [Option.bind_some]
      obtain ⟨o, ho⟩ : ∃ o, o = (out.set 1 m).set i y := ⟨_, rfl⟩
      rw [← ho] at e2 ⊢
      have hlen : o.length = out.length := e2.length_eq
      have hget : ∀ q : Nat, q < out.length → o[q]? = if i = q then some y else if 1 = q then some m else out[q]? := fun q hq => by
        rw [ho, set_get, set_get]
        by_cases h : i = q
        · rw [if_pos h, if_pos h, if_pos (by rw [List.length_set]; omega)]
        · rw [if_neg h, if_neg h]
          by_cases h' : 1 = q
          · rw [if_pos h', if_pos h', if_pos hq]
          · rw [if_neg h', if_neg h']
      have hdrop : ∀ m' ∈ o.drop 1, m' ∈ out.drop 1 := fun m' hm' => by
        obtain ⟨q, hq⟩ := List.mem_iff_getElem?.1 hm'
        rw [List.getElem?_drop] at hq
        have hql := get_lt hq
        rw [hlen] at hql
        rw [hget _ hql] at hq
        have mk : ∀ (r : Nat) z, 1 ≤ r → out[r]? = some z → z ∈ out.drop 1 := fun r z hr hz => List.mem_iff_getElem?.2 ⟨r - 1, by rw [List.getElem?_drop, show 1 + (r - 1) = r from by omega]; exact hz⟩
        split at hq
        · cases hq; exact mk 1 y (by omega) hy
        · split at hq
          · cases hq; exact hmd
          · exact mk (1 + q) m' (by omega) hq
      obtain ⟨out', back', r1, r2, r3, r4, r5, r6⟩ := sort_ok W K (i + 1) o a.level (by omega) (by omega) (fun m' hm' => hr m' (hdrop m' hm')) (fun q m' hq hqi hm' => by
        have hql := get_lt hm'
        rw [hlen] at hql
        rw [hget q hql] at hm'
        by_cases h : i = q
        · rw [if_pos h] at hm'
          cases hm'
          by_cases h' : i = 1
          · rw [h'] at hm
            rw [hm] at hy
            cases hy
            omega
          · obtain ⟨m1, h4, h5⟩ := h2 (by omega)
            rw [hy] at h4
            cases h4
            omega
        · rw [if_neg h] at hm'
          by_cases h' : 1 = q
          · rw [if_pos h'] at hm'; cases hm'; omega
          · rw [if_neg h'] at hm'
            have := h1 q m' hq (by omega) hm'
            omega) (fun _ => by
        by_cases h : i = 1
        · refine ⟨y, by rw [hget 1 (by omega), if_pos h], ?_⟩
          rw [h] at hm
          rw [hm] at hy
          cases hy
          exact hlv
        · exact ⟨m, by rw [hget 1 (by omega), if_neg h, if_pos rfl], hlv⟩) (fun h => by omega)
      exact ⟨out', back', r1, r2.trans e2, by rw [r3, hget 0 (by omega), if_neg (by omega), if_neg (by omega)], r4, by rw [← hlen]; exact r5, by rw [← hlen]; exact r6⟩
    · rw [if_neg hb]
      have hi1 : i ≠ 1 := fun e => by have := h3 e; omega
      exact sort_ok W K (i + 1) out back (by omega) (by omega) hr (fun q m' hq hqi hm' => by
        by_cases h : q = i
        · rw [h, hm] at hm'; cases hm'; omega
        · exact h1 q m' hq (by omega) hm') (fun _ => h2 (by omega)) (fun h => by omega)
/-- What is learnt of a conflict. -/
structure Learnt (s : St) (lits : List Int) (back : Nat) : Prop where
  ok : ∃ u r, lits = u :: r ∧ (∃ j, s.trail[j]? = some (-u) ∧ lvlAt s j = s.limits.length) ∧
    (∀ m ∈ r, ∃ p, s.trail[p]? = some (-m) ∧ 1 ≤ lvlAt s p ∧ lvlAt s p ≤ back) ∧ (r = [] → back = 0) ∧ (r ≠ [] → ∃ m r', r = m :: r' ∧ ∃ p, s.trail[p]? = some (-m) ∧ lvlAt s p = back)
  nd : (lits.map Int.natAbs).Nodup
  low : back < s.limits.length
  sem : ∀ A, ModOk A s → ∃ m ∈ lits, litT A m
/-- A clause that can't hold has a literal of the last level. -/
theorem conf_top (W : Wf s) (P : PiLow s) {c : Nat} {x : Cl} (hx : s.cls[c]? = some x) (hc : ∀ m ∈ x.lits, -m ∈ s.trail) (hL : 0 < s.limits.length) (hhd : ∀ p, p < s.trail.length → lvlAt s p < s.limits.length → (p : Int) < s.head) : ∃ m ∈ x.lits, ∃ p, s.trail[p]? = some (-m) ∧ lvlAt s p = s.limits.length := by
  obtain ⟨a, b, r, hl⟩ : ∃ a b r, x.lits = a :: b :: r := by
    have := (W.cls c x hx).two
    match h : x.lits with
    | [] => rw [h] at this; simp at this
    | [_] => rw [h] at this; simp at this
    | a :: b :: r => exact ⟨a, b, r, rfl⟩
  obtain ⟨p, hp⟩ := List.mem_iff_getElem?.1 (hc a (by rw [hl]; simp))
  by_cases h : lvlAt s p = s.limits.length
  · exact ⟨a, by rw [hl]; simp, p, hp, h⟩
  · have hlt : lvlAt s p < s.limits.length := by have := lvl_le s p; omega
    obtain ⟨i, h1, _⟩ := P c x a b r hx hl a b (.inl ⟨rfl, rfl⟩) p (hhd p (get_lt hp) hlt) hp hlt
    exact absurd (hc b (by rw [hl]; simp)) (fun h2 => W.not_both (List.mem_of_getElem? h1) h2)
theorem learn_ok (W : Wf s) (S : Sco s) {c : Nat} (P : PiLow s) (C : Conf s c) (hL : 0 < s.limits.length) (hhd : ∀ p, p < s.trail.length → lvlAt s p < s.limits.length → (p : Int) < s.head) :
    ∃ (lits : List Int) (back : Nat) (s1 : St), learnF s c = some ((lits, (back : Int)), s1) ∧ Lr s s1 ∧ Sco s1 ∧ s1.bump ≤ 1099511627776 ∧ Learnt s lits back := by
  obtain ⟨x, hx, hc⟩ := C
  have htl := W.tlen
  have hsz := W.siz
  obtain ⟨m0, hm0, p0, hp0, hlv0⟩ := conf_top W P hx hc hL hhd
  have hz : cntF s [] s.trail.length = 0 := by
    unfold cntF
    rw [List.countP_eq_zero]
    intro p hp
    unfold seenAt
    cases s.trail[p]? with
    | none => simp
    | some t => simp
  have hLI : LI s s.trail.length [] 0 [] := ⟨fun v hv => (by cases hv), by rw [hz]; rfl, fun m hm => (by cases hm), by simp, fun p t _ h => (by cases h)⟩
  obtain ⟨s1, m, j, rest, h1, h2, h3, h4, h5, h6, h7, h8, h9⟩ := learnL_ok 0 (s.vars.length + 1) s c 0 [] 0 s.trail.length [] x W S (by omega) (Nat.le_refl _) hLI hx (fun m hm => by
    obtain ⟨p, hp⟩ := List.mem_iff_getElem?.1 (hc m hm)
    exact .inr ⟨p, get_lt hp, hp⟩) (.inr ⟨m0, hm0, ((W.cls c x hx).var m0 hm0).1, p0, get_lt hp0, hp0, hlv0⟩) (fun A _ => .inl rfl) hL (.inr rfl)
  have W1 := h2.wf W
  have hlv1 : ∀ (p : Nat) (t : Int), s.trail[p]? = some (-t) → lvOf s1 t = (lvlAt s p : Int) ∧ t.natAbs < s1.vars.length := fun p t hp => by
    have hp1 : s1.trail[p]? = some (-t) := by rw [h2.trail]; exact hp
    obtain ⟨_, a, ha, _⟩ := W1.mem _ (List.mem_of_getElem? hp1)
    have := W1.lev p _ a hp1 ha
    rw [show (-t).natAbs = t.natAbs from by omega] at ha
    exact ⟨by rw [lvOf_some ha, this, h2.lvl], get_lt ha⟩
  have hrl : rest.length ≤ s.vars.length := by
    have := nodup_bound s.vars.length (rest.map Int.natAbs) h8 fun y hy => by
      obtain ⟨m', hm', rfl⟩ := List.mem_map.1 hy
      obtain ⟨p, hp, _⟩ := h7 m' hm'
      have := (W.trail_lt (List.mem_of_getElem? hp)).2
      omega
    simpa using this
  obtain ⟨out', back', r1, r2, r3, r4, r5, r6⟩ := sort_ok W1 rest.length 1 (-m :: rest) 0 (by simp) (by omega) (fun m' hm' => by
    have hm2 : m' ∈ rest := by simpa using hm'
    obtain ⟨p, hp, hp1, _⟩ := h7 m' hm2
    obtain ⟨e1, e2⟩ := hlv1 p m' hp
    exact ⟨e2, by rw [e1]; omega⟩) (fun q m' hq hqi => by omega) (fun h => by omega) (fun _ => rfl)
  have hm0' : m ∈ s.trail := List.mem_of_getElem? h5
  have hmz := (W.mem m hm0').1
  have hnd : ((-m :: rest).map Int.natAbs).Nodup := by
    rw [List.map_cons, List.nodup_cons]
    refine ⟨fun hm' => ?_, h8⟩
    obtain ⟨m', hm', e⟩ := List.mem_map.1 hm'
    obtain ⟨p, hp, _, hp2⟩ := h7 m' hm'
    have := W.nd_inj hp h5 (by omega)
    rw [this] at hp2
    omega
  obtain ⟨u, r, hur⟩ : ∃ u r, out' = u :: r := by
    have := r2.length_eq
    match out', this with
    | u :: r, _ => exact ⟨u, r, rfl⟩
  subst hur
  have hu : u = -m := by simpa using r3
  subst hu
  have hperm : r.Perm rest := by simpa using r2
  have hb0 : 0 ≤ back' ∧ back' < s.limits.length := by
    by_cases hlen : 1 < (-m :: rest).length
    · obtain ⟨m1, hm1, hb⟩ := r5 hlen
      have hm1r : m1 ∈ rest := hperm.mem_iff.1 (List.mem_iff_getElem?.2 ⟨0, by simpa using hm1⟩)
      obtain ⟨p, hp, hp1, hp2⟩ := h7 m1 hm1r
      have := (hlv1 p m1 hp).1
      omega
    · have := r6 (by omega)
      omega
  have hall : ∀ m' ∈ r, ∃ p, s.trail[p]? = some (-m') ∧ 1 ≤ lvlAt s p ∧ lvlAt s p ≤ back'.toNat := fun m' hm' => by
    obtain ⟨p, hp, hp1, hp2⟩ := h7 m' (hperm.mem_iff.1 hm')
    obtain ⟨q, hq⟩ := List.mem_iff_getElem?.1 hm'
    have := r4 (q + 1) m' (by omega) (by simpa using hq)
    rw [(hlv1 p m' hp).1] at this
    exact ⟨p, hp, hp1, by omega⟩
  refine ⟨-m :: r, back'.toNat, s1, ?_, h2, h3, h4, ⟨⟨-m, r, rfl, ⟨j, by simpa using h5, h6⟩, hall, fun e => ?_, fun e => ?_⟩, (r2.map Int.natAbs).nodup_iff.2 hnd, by omega, fun A hA => ?_⟩⟩
  · unfold learnF
    have e1 : (s.trail.length : Int) - 1 = ((s.trail.length : Nat) : Int) - 1 := rfl
    rw [h1]
    simp only
    have hg : (decide (0 < (0 :: rest : List Int).length) && roomB (0 :: rest : List Int).length) = true := by
      have : roomB (0 :: rest : List Int).length = true := by unfold roomB; simp; omega
      rw [this]; simp
    rw [hg]
    simp only [Bool.true_eq_false, if_false]
    have e2 : (0 :: rest : List Int).set 0 (-m) = -m :: rest := rfl
    have e3 : (0 :: rest : List Int).length - 1 = rest.length := by simp
    rw [e2, e3, r1]
    simp only [Option.map_some]
    congr 3
    omega
  · have h10 : rest = [] := by
      have := hperm.length_eq
      rw [e] at this
      exact List.eq_nil_of_length_eq_zero this.symm
    have := r6 (by rw [h10]; simp)
    omega
  · obtain ⟨m1, r', hr'⟩ : ∃ m1 r', r = m1 :: r' := by
      match r, e with
      | a :: b, _ => exact ⟨a, b, rfl⟩
    have hl := hperm.length_eq
    rw [hr'] at hl
    obtain ⟨m2, hm2, hb⟩ := r5 (by simp at hl ⊢; omega)
    rw [hr'] at hm2
    simp at hm2
    subst hm2
    obtain ⟨p, hp, hp1, hp2⟩ := hall m1 (by rw [hr']; simp)
    refine ⟨m1, r', hr', p, hp, ?_⟩
    have := (hlv1 p m1 hp).1
    omega
  · rcases h9 A hA with ⟨m', h10, h11⟩ | h10
    · exact ⟨m', List.mem_cons_of_mem _ (hperm.mem_iff.2 h10), h11⟩
    · exact ⟨-m, List.mem_cons_self, (litT_neg hmz).2 h10⟩
end
end Go.Sat
/- A conflict, as plain data: what is learnt is taken in; nothing that could hold is lost. -/
namespace Go.Sat
/-- The same ways. -/
def ModEq (s s' : St) : Prop := ∀ A, ModOk A s ↔ ModOk A s'
section
variable {s s1 s' : St}
theorem ModEq.trans (h : ModEq s s1) (k : ModEq s1 s') : ModEq s s' := fun A => (h A).trans (k A)
theorem CR.satB (h : CR s s') {A : Nat → Bool} (hA : SatA A s') : SatA A s := fun c x hx => by
  obtain ⟨x', h1, h2⟩ := h.perm c x hx
  obtain ⟨m, h3, h4⟩ := hA c x' h1
  exact ⟨m, h2.mem_iff.1 h3, h4⟩
theorem Ext.modEq (E : Ext s s') (W : Wf s') : ModEq s s' := fun A => by
  constructor
  · rintro ⟨hA, h0⟩
    have hA' := E.cr.sat hA
    refine ⟨hA', ?_⟩
    have key : ∀ (k i : Nat) m, i < k → s'.trail[i]? = some m → lvlAt s' i = 0 → litT A m := by
      intro k
      induction k with
      | zero => intro i m hi; omega
      | succ k ih =>
        intro i m hi hm hl
        by_cases h1 : i < s.trail.length
        · obtain ⟨m', hm'⟩ := get_some h1
          have h2 := E.at' hm'
          rw [hm] at h2
          cases h2
          exact h0 i m hm' (by rw [← E.lvl]; exact hl)
        · obtain ⟨_, a, ha, _⟩ := W.mem m (List.mem_of_getElem? hm)
          have h2 := E.new i m a (by omega) hm ha
          cases hr : a.reason with
          | none => exact absurd hr h2
          | some c =>
            obtain ⟨_, x, hx, _, h4⟩ := W.rea i m a c hm ha hr
            obtain ⟨y, hy, hyt⟩ := hA' c x hx
            rcases h4 y hy with rfl | ⟨j, hj, hjt⟩
            · exact hyt
            · have h5 := ih j (-y) (by omega) hjt (by have := lvl_mono s' (show j ≤ i by omega); omega)
              exact absurd hyt ((litT_neg ((W.cls c x hx).var y hy).1).1 h5)
    exact fun i m hm hl => key (i + 1) i m (by omega) hm hl
  · rintro ⟨hA, h0⟩
    exact ⟨E.cr.satB hA, fun i m hm hl => h0 i m (E.at' hm) (by rw [E.lvl]; exact hl)⟩
theorem Lr.modEq (h : Lr s s') : ModEq s s' := fun A => ⟨h.modOk, fun hA => ⟨fun c x hx => by
  obtain ⟨z, h7, h8, _⟩ := h.cls' hx
  obtain ⟨l, h9, h10⟩ := hA.1 c z h7
  exact ⟨l, by rw [← h8]; exact h9, h10⟩, fun i l hi hl => hA.2 i l (by rw [h.trail]; exact hi) (by rw [h.lvl]; exact hl)⟩⟩
theorem Back.modEq {L : Nat} (B : Back s L s') : ModEq s s' := fun A => by
  obtain ⟨m, h1, _, h2⟩ := B.trail
  have hs : SatA A s ↔ SatA A s' := by unfold SatA; rw [B.cls]
  have key : ∀ (i : Nat) n, (s.trail[i]? = some n ∧ lvlAt s i = 0) ↔ (s'.trail[i]? = some n ∧ lvlAt s' i = 0) := fun i n => by
    constructor
    · rintro ⟨h3, h4⟩
      have h5 : i < m := (h2 i (get_lt h3)).2 (by omega)
      have h6 : s'.trail[i]? = some n := by rw [h1, List.getElem?_take_of_lt h5]; exact h3
      exact ⟨h6, by rw [B.lvl i (get_lt h6)]; exact h4⟩
    · rintro ⟨h3, h4⟩
      have h5 := get_lt h3
      rw [B.lvl i h5] at h4
      rw [h1] at h3 h5
      rw [List.length_take] at h5
      rw [List.getElem?_take_of_lt (by omega)] at h3
      exact ⟨h3, h4⟩
  constructor
  · rintro ⟨h3, h4⟩; exact ⟨hs.1 h3, fun i n h5 h6 => by obtain ⟨h7, h8⟩ := (key i n).2 ⟨h5, h6⟩; exact h4 i n h7 h8⟩
  · rintro ⟨h3, h4⟩; exact ⟨hs.2 h3, fun i n h5 h6 => by obtain ⟨h7, h8⟩ := (key i n).1 ⟨h5, h6⟩; exact h4 i n h7 h8⟩
theorem ModEq.of_eq (ec : s'.cls = s.cls) (et : s'.trail = s.trail) (el : s'.limits = s.limits) : ModEq s s' := fun A => by
  unfold ModOk SatA lvlAt
  rw [ec, et, el]
theorem Sco.back {L : Nat} (S : Sco s) (B : Back s L s') : Sco s' := ⟨by rw [B.bump]; exact S.bump, fun v a ha => by
  have h := B.score v
  rw [ha] at h
  obtain ⟨b, hb⟩ : ∃ b, s.vars[v]? = some b := get_some (by rw [← B.vlen]; exact get_lt ha)
  rw [hb] at h
  have h' : a.score = b.score := by simpa using h
  rw [h']; exact S.score v b hb⟩
theorem hhd_of (W : Wf s) : ∀ p, p < s.trail.length → lvlAt s p < s.limits.length → (p : Int) < s.head := fun p _ hl => by
  by_cases h : (p : Int) < s.head
  · exact h
  · have := W.lvl_top (i := p) fun l hl2 => by have := (W.lim l hl2).2; omega
    omega
/-- What taking a learnt clause in leaves. -/
structure Took (s : St) (s' : St) : Prop where
  ok : Ok s'
  lm : Lm s'
  sco : Sco s'
  mod : ModEq s s'
  vlen : s'.vars.length = s.vars.length
  added : s'.added = s.added
  conflicts : s'.conflicts = s.conflicts
  broken : s'.broken = s.broken
  bump : s'.bump = s.bump
  lim : s'.limits.length ≤ s.limits.length
  new : (s'.learnt = s.learnt ∧ s'.limits = [] ∧ (∃ u, s'.trail = s.trail.take (s'.trail.length - 1) ++ [u]) ∧ (∀ i, i < s.trail.length → (i < s'.trail.length - 1 ↔ lvlAt s i = 0)) ∧ CR s s') ∨
    (∃ x : Cl, s'.learnt = s.learnt ++ [s.cls.length] ∧ s'.cls.length = s.cls.length + 1 ∧ (∀ (c : Nat) y, s.cls[c]? = some y → s'.cls[c]? = some y) ∧ s'.cls[s.cls.length]? = some x ∧ ClOk s.vars.length x.lits ∧ (∀ m ∈ x.lits, -m ∈ s.trail) ∧ (∃ u r, x.lits = u :: r ∧ ∀ m ∈ r, ∃ p, s.trail[p]? = some (-m) ∧ lvlAt s p < s.limits.length) ∧
      (∀ i, i < s.trail.length → lvlAt s i = 0 → i < s'.trail.length ∧ lvlAt s' i = 0))
theorem take_ok (W : Wf s) (T : Wt s (watched s)) (M : Lm s) (S : Sco s) (P : PiLow s) {lits : List Int} {back : Nat} (K : Learnt s lits back) (hc : s.cls.length < 1000000) (hlr : s.learnt.length ≤ 1000000) : ∃ s', takeF s lits back = some s' ∧ Took s s' := by
  obtain ⟨u, r, hl, ⟨ju, hju, hlu⟩, hr, hrn, hrs⟩ := K.ok
  obtain ⟨s1, h1, B⟩ := back_ok W M back
  obtain ⟨m, ht1, hh1, hlv1⟩ := B.trail
  have hlow := K.low
  have hhead := hh1 hlow
  have hml : m ≤ s.trail.length := by
    have h2 := B.wf.head.2
    rw [hhead, ht1, List.length_take] at h2
    omega
  have htl1 : s1.trail.length = m := by rw [ht1, List.length_take]; omega
  have P1 := B.pi (.inl P) hlow
  have S1 := S.back B
  have T1 := T.of_eq B.cls B.watches
  have W1 := B.wf
  have hmu := List.mem_of_getElem? hju
  have hu0 : u ≠ 0 := by have := (W.mem _ hmu).1; omega
  have huv : u.natAbs < s1.vars.length := by have := (W.trail_lt hmu).2; rw [B.vlen]; omega
  have hin : ∀ (i : Nat) n, s1.trail[i]? = some n → i < m ∧ s.trail[i]? = some n := fun i n hn => by
    have h2 := get_lt hn
    rw [htl1] at h2
    rw [ht1, List.getElem?_take_of_lt h2] at hn
    exact ⟨h2, hn⟩
  have hin2 : ∀ (i : Nat) n, i < m → s.trail[i]? = some n → s1.trail[i]? = some n := fun i n hi hn => by rw [ht1, List.getElem?_take_of_lt hi]; exact hn
  have hun : u ∉ s1.trail ∧ -u ∉ s1.trail := by
    constructor
    · intro h
      obtain ⟨i, hi⟩ := List.mem_iff_getElem?.1 h
      exact W.not_both (List.mem_of_getElem? (hin i _ hi).2) hmu
    · intro h
      obtain ⟨i, hi⟩ := List.mem_iff_getElem?.1 h
      obtain ⟨h2, h3⟩ := hin i _ hi
      have e := W.nd_inj h3 hju rfl
      rw [e] at h2 h3
      have := (hlv1 ju (get_lt h3)).1 h2
      omega
  have hrt : ∀ m' ∈ r, ∃ p, p < m ∧ s1.trail[p]? = some (-m') ∧ 1 ≤ lvlAt s1 p := fun m' hm' => by
    obtain ⟨p, h2, h3, h4⟩ := hr m' hm'
    have h5 := (hlv1 p (get_lt h2)).2 h4
    exact ⟨p, h5, hin2 p _ h5 h2, by rw [B.lvl p (by omega)]; exact h3⟩
  unfold takeF
  rw [h1]
  simp only
  by_cases hr0 : r = []
  · subst hr0
    have hb0 := hrn rfl
    subst hb0
    rw [hl]
    simp only
    have hl1 : s1.limits = [] := by rw [B.limits]; simp
    obtain ⟨s3, h3, W3, t3, c3, L3, l3, hd3, w3, old3⟩ := W1.set0 hl1 hu0 huv hun
    have hl3 : s3.limits = [] := l3.trans hl1
    have hlv3 : ∀ i, lvlAt s3 i = 0 := fun i => by unfold lvlAt; rw [hl3]; rfl
    have hmod : ModEq s s3 := fun A => by
      rw [B.modEq A]
      have hs : SatA A s1 ↔ SatA A s3 := by unfold SatA; rw [c3]
      constructor
      · intro hA
        refine ⟨hs.1 hA.1, fun i n hi _ => ?_⟩
        rw [t3] at hi
        by_cases h4 : i < s1.trail.length
        · rw [List.getElem?_append_left h4] at hi
          exact hA.2 i n hi (by unfold lvlAt; rw [hl1]; rfl)
        · rw [List.getElem?_append_right (by omega)] at hi
          have h5 := get_lt hi
          simp at h5
          have h6 : i - s1.trail.length = 0 := by omega
          rw [h6] at hi
          simp at hi
          subst hi
          obtain ⟨l, h7, h8⟩ := K.sem A ((B.modEq A).2 hA)
          rw [hl] at h7
          simp at h7
          subst h7
          exact h8
      · intro hA
        exact ⟨hs.2 hA.1, fun i n hi _ => hA.2 i n (by rw [t3, List.getElem?_append_left (get_lt hi)]; exact hi) (hlv3 i)⟩
    have e3 : s3.trail.length - 1 = m := by rw [t3]; simp [htl1]
    refine ⟨s3, h3, ⟨⟨W3, T1.of_eq c3 w3, fun d y a b r' hy hyl v o hvo j hj htj _ => ?_⟩, ⟨fun j l hj hjl => by rw [hl3] at hjl; simp at hjl, fun e => absurd hl3 e⟩, ⟨by rw [L3.bump]; exact S1.bump, fun v a ha => ?_⟩, hmod, by rw [L3.vlen, B.vlen], by rw [L3.added, B.added], by rw [L3.conflicts, B.conflicts], by rw [L3.broken, B.broken], by rw [L3.bump, B.bump], by rw [hl3]; simp, .inl ⟨by rw [L3.learnt, B.learnt], hl3, ⟨u, by rw [e3, t3, ht1]⟩, fun i hi => by rw [e3, hlv1 i hi]; omega, (CR.of_eq B.cls).trans (CR.of_eq c3)⟩⟩⟩
    · rw [c3] at hy
      rw [hd3] at hj
      have hjl : j < s1.trail.length := by rw [hhead] at hj; rw [htl1]; omega
      rw [t3, List.getElem?_append_left hjl] at htj
      obtain ⟨i, h4, h5⟩ := P1 d y a b r' hy hyl v o hvo j hj htj trivial
      exact ⟨i, by rw [t3, List.getElem?_append_left (get_lt h4)]; exact h4, by rw [hlv3, hlv3]; exact Nat.le_refl _⟩
    · -- scores
      obtain ⟨t, a', b', g1, g2, g3, g4, g5⟩ := W1.set (why := none) hu0 huv hun (fun c e => by cases e) (fun _ => .inr hl1)
      rw [h3] at g1
      cases g1
      rw [g2] at ha
      simp only at ha
      rw [set_get] at ha
      by_cases e : u.natAbs = v
      · rw [if_pos e, if_pos (by rw [← e]; exact huv)] at ha
        cases ha
        rw [g4]
        exact S1.score _ a' g3
      · rw [if_neg e] at ha
        exact S1.score v a ha
  · obtain ⟨w, r', hrw, pw, hpw, hlw⟩ := hrs hr0
    have hlits : ClOk s1.vars.length lits := by
      rw [B.vlen]
      refine ⟨by rw [hl, hrw]; simp, fun n hn => ?_, K.nd⟩
      rw [hl] at hn
      rcases List.mem_cons.1 hn with rfl | hn
      · exact ⟨hu0, by rw [← B.vlen]; exact huv⟩
      · obtain ⟨p, h2, _⟩ := hr n hn
        have h3 := List.mem_of_getElem? h2
        have := (W.mem _ h3).1
        have := (W.trail_lt h3).2
        exact ⟨by omega, by omega⟩
    have hlen1 : s1.learnt.length ≤ 1000000 := by rw [B.learnt]; exact hlr
    have hg : roomB s1.learnt.length = true := by unfold roomB; simp; omega
    -- the state with the list of what is learnt longer
    obtain ⟨q, hq⟩ : ∃ q : St, q = { s1 with learnt := s1.learnt ++ [s1.cls.length] } := ⟨_, rfl⟩
    have Wq : Wf q := by rw [hq]; exact ⟨W1.hp, W1.siz, W1.csz, W1.val, W1.mem, W1.nd, W1.free, W1.lim, W1.limo, W1.head, W1.cls, W1.lev, W1.rea, W1.dec⟩
    have Bq : Base q := ⟨Wq, by rw [hq]; exact T1.of_eq rfl rfl, by rw [hq]; exact ⟨B.lm.one, B.lm.some'⟩⟩
    have qc : q.cls = s1.cls := by rw [hq]
    have qt : q.trail = s1.trail := by rw [hq]
    have ql : q.limits = s1.limits := by rw [hq]
    have qh : q.head = s1.head := by rw [hq]
    have qv : q.vars = s1.vars := by rw [hq]
    obtain ⟨s2, h2, h3, h4⟩ := watch_new Bq (by rw [qc, B.cls]; exact hc) (x := ⟨lits, true, s1.conflicts⟩) (by rw [qv]; exact hlits)
    have t2 : s2.trail = s1.trail := by rw [h3]; exact qt
    have c2 : s2.cls = s1.cls ++ [⟨lits, true, s1.conflicts⟩] := by rw [h3]; show q.cls ++ _ = _; rw [qc]
    have l2 : s2.limits = s1.limits := by rw [h3]; exact ql
    have hd2 : s2.head = s1.head := by rw [h3]; exact qh
    have v2 : s2.vars = s1.vars := by rw [h3]; exact qv
    have hbm : 1 ≤ back := by
      obtain ⟨p, h5, h6, h7⟩ := hr w (by rw [hrw]; simp)
      have := W.nd_inj h5 hpw rfl
      subst this
      omega
    have hpwm : pw < m := (hlv1 pw (get_lt hpw)).2 (by omega)
    have hnl : (s2.trail.length : Int) ∉ s2.limits := fun hm => by
      rw [t2, l2, htl1] at hm
      rw [B.limits] at hm
      obtain ⟨q', hq', hql⟩ := mem_take hm
      have := W.lvl_below hql (i := pw) (by omega)
      omega
    have hbc : Because s2 s2.trail.length u s1.cls.length := by
      refine ⟨⟨lits, true, s1.conflicts⟩, by rw [c2]; simp, by rw [hl]; simp, fun m' hm' => ?_⟩
      have hm'' : m' ∈ u :: r := by rw [← hl]; exact hm'
      rcases List.mem_cons.1 hm'' with h | h
      · exact .inl h
      · obtain ⟨p, h5, h6, _⟩ := hrt m' h
        exact .inr ⟨p, by rw [t2, htl1]; exact h5, by rw [t2]; exact h6⟩
    obtain ⟨s4, a, b, g1, g2, g3, g4, g5⟩ := h4.wf.set (n := u) (why := some s1.cls.length) hu0 (by rw [v2]; exact huv) (by rw [t2]; exact hun) (fun c e => by cases e; exact ⟨hnl, hbc⟩) (fun e => by cases e)
    have E4 : Ext s2 s4 := Ext.set h4.wf g3 (by rw [t2]; exact hun) g2 g4
    have t4 : s4.trail = s1.trail ++ [u] := by rw [g2]; show s2.trail ++ [u] = _; rw [t2]
    have c4 : s4.cls = s2.cls := by rw [g2]
    have l4 : s4.limits = s1.limits := by rw [g2]; exact l2
    have hd4 : s4.head = s1.head := by rw [g2]; exact hd2
    have hlv4 : ∀ i, lvlAt s4 i = lvlAt s1 i := fun i => by unfold lvlAt; rw [l4]
    have hx4 : s4.cls[s1.cls.length]? = some ⟨lits, true, s1.conflicts⟩ := by rw [c4, c2]; simp
    have hll : s1.limits.length = back := by rw [B.limits, List.length_take]; omega
    have hrun : takeF s lits back = some s4 := by
      unfold takeF
      rw [h1]
      simp only
      rw [hl, hrw]
      simp only
      rw [hg]
      simp only [Bool.true_eq_false, if_false]
      have e1 : watchF { s1 with cls := s1.cls ++ [⟨u :: w :: r', true, s1.conflicts⟩], learnt := s1.learnt ++ [s1.cls.length] } s1.cls.length = some s2 := by
        have e2 : ({ q with cls := q.cls ++ [⟨lits, true, s1.conflicts⟩] } : St) = { s1 with cls := s1.cls ++ [⟨u :: w :: r', true, s1.conflicts⟩], learnt := s1.learnt ++ [s1.cls.length] } := by rw [hq, hl, hrw]
        rw [← e2, ← qc]
        exact h2
      rw [e1]
      simp only [Option.bind_some]
      exact g1
    unfold takeF at hrun
    rw [h1] at hrun
    simp only at hrun
    refine ⟨s4, hrun, ⟨⟨g5, h4.wt.of_eq c4 (by rw [g2]), fun d y a' b' r'' hy hyl v o hvo j hj htj _ => ?_⟩, ⟨fun j l hj hjl => B.lm.one j l hj (by rw [← l4]; exact hjl), fun _ => by rw [t4]; simp⟩, ⟨by rw [g2]; show 1 ≤ s2.bump ∧ _; rw [h3]; show 1 ≤ q.bump ∧ q.bump ≤ _; rw [hq]; exact S1.bump, fun v f hf => ?_⟩, ?_, by rw [E4.vlen, v2, B.vlen], ?_, ?_, ?_, ?_, by rw [l4, B.limits, List.length_take]; omega, .inr ⟨⟨lits, true, s1.conflicts⟩, ?_, by rw [c4, c2, B.cls]; simp, fun c y hy => ?_, by rw [← B.cls]; exact hx4, by rw [← B.vlen]; exact hlits, fun m' hm' => ?_, ⟨u, r, hl, fun m' hm' => ?_⟩, fun i hi hl0 => ?_⟩⟩⟩
    · rw [hd4, hhead] at hj
      have hjl : j < s1.trail.length := by omega
      rw [t4, List.getElem?_append_left hjl] at htj
      rw [c4, c2] at hy
      by_cases hd : d < s1.cls.length
      · rw [List.getElem?_append_left hd] at hy
        obtain ⟨i, h5, h6⟩ := P1 d y a' b' r'' hy hyl v o hvo j (by rw [hhead]; omega) htj trivial
        exact ⟨i, by rw [t4, List.getElem?_append_left (get_lt h5)]; exact h5, by rw [hlv4, hlv4]; exact h6⟩
      · rw [List.getElem?_append_right (by omega)] at hy
        have h5 := get_lt hy
        simp at h5
        have h6 : d - s1.cls.length = 0 := by omega
        rw [h6] at hy
        simp at hy
        subst hy
        have hyl' : lits = a' :: b' :: r'' := hyl
        rw [hl, hrw] at hyl'
        cases hyl'
        rcases hvo with ⟨rfl, rfl⟩ | ⟨rfl, rfl⟩
        · exact absurd (List.mem_of_getElem? htj) hun.2
        · refine ⟨s1.trail.length, by rw [t4]; simp, ?_⟩
          rw [hlv4, hlv4]
          obtain ⟨h7, h8⟩ := hin j _ htj
          have := W.nd_inj h8 hpw rfl
          subst this
          rw [B.lvl j hjl, hlw]
          have := lvl_le s1 s1.trail.length
          omega
    · rw [g2] at hf
      simp only at hf
      rw [set_get] at hf
      by_cases e : u.natAbs = v
      · rw [if_pos e, if_pos (by rw [← e, v2]; exact huv)] at hf
        cases hf
        rw [g4]
        exact S1.score _ a (by rw [← v2]; exact g3)
      · rw [if_neg e, v2] at hf
        exact S1.score v f hf
    · intro A
      rw [B.modEq A]
      constructor
      · intro hA
        have hAs := (B.modEq A).2 hA
        refine ⟨fun c y hy => ?_, fun i n hi hl0 => ?_⟩
        · rw [c4, c2] at hy
          by_cases hd : c < s1.cls.length
          · rw [List.getElem?_append_left hd] at hy; exact hA.1 c y hy
          · rw [List.getElem?_append_right (by omega)] at hy
            have h5 := get_lt hy
            simp at h5
            have h6 : c - s1.cls.length = 0 := by omega
            rw [h6] at hy
            simp at hy
            subst hy
            exact K.sem A hAs
        · rw [hlv4] at hl0
          rw [t4] at hi
          by_cases h5 : i < s1.trail.length
          · rw [List.getElem?_append_left h5] at hi; exact hA.2 i n hi hl0
          · have h6 := W1.lvl_top (i := i) fun l hl2 => by have := (W1.lim l hl2).2; have := W1.head; omega
            omega
      · intro hA
        refine ⟨fun c y hy => hA.1 c y (by rw [c4, c2, List.getElem?_append_left (get_lt hy)]; exact hy), fun i n hi hl0 => hA.2 i n (by rw [t4, List.getElem?_append_left (get_lt hi)]; exact hi) (by rw [hlv4]; exact hl0)⟩
    · rw [E4.added, h3]; show q.added = _; rw [hq]; exact B.added
    · rw [E4.conflicts, h3]; show q.conflicts = _; rw [hq]; exact B.conflicts
    · rw [E4.broken, h3]; show q.broken = _; rw [hq]; exact B.broken
    · rw [E4.bump, h3]; show q.bump = _; rw [hq]; exact B.bump
    · rw [E4.learnt, h3]; show q.learnt = _; rw [hq]; show s1.learnt ++ [s1.cls.length] = _; rw [B.learnt, B.cls]
    · rw [c4, c2, B.cls, List.getElem?_append_left (get_lt hy)]; exact hy
    · have hm'' : m' ∈ u :: r := by rw [← hl]; exact hm'
      rcases List.mem_cons.1 hm'' with rfl | h
      · exact hmu
      · obtain ⟨p, h5, _⟩ := hr m' h
        exact List.mem_of_getElem? h5
    · obtain ⟨p, h5, h6, h7⟩ := hr m' hm'
      exact ⟨p, h5, by omega⟩
    · have h5 : i < m := (hlv1 i hi).2 (by omega)
      exact ⟨by rw [t4]; simp; omega, by rw [hlv4, B.lvl i (by omega)]; exact hl0⟩
end
end Go.Sat
