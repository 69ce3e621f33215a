/- A clause that is learnt is new: of six variables there are not so many. -/
import Derived.Test.YtfpjfogddepbkaaCz17
set_option linter.unusedSimpArgs false
set_option linter.unusedVariables false
namespace Go.Sat
def dig (l : List Int) (v : Int) : Nat := if v ∈ l then 1 else if -v ∈ l then 2 else 0
/-- A number that says which literals of variables 1 to 6 are in a list. -/
def code (l : List Int) : Nat := dig l 1 + 3 * dig l 2 + 9 * dig l 3 + 27 * dig l 4 + 81 * dig l 5 + 243 * dig l 6
theorem dig_le (l : List Int) (v : Int) : dig l v ≤ 2 := by unfold dig; split <;> (try split) <;> omega
theorem code_lt (l : List Int) : code l < 729 := by
  have h1 := dig_le l 1
  have h2 := dig_le l 2
  have h3 := dig_le l 3
  have h4 := dig_le l 4
  have h5 := dig_le l 5
  have h6 := dig_le l 6
  unfold code; omega
theorem code_dig {l l' : List Int} (h : code l = code l') {v : Int} (hv : 1 ≤ v ∧ v ≤ 6) : dig l v = dig l' v := by
  have a1 := dig_le l 1
  have a2 := dig_le l 2
  have a3 := dig_le l 3
  have a4 := dig_le l 4
  have a5 := dig_le l 5
  have a6 := dig_le l 6
  have b1 := dig_le l' 1
  have b2 := dig_le l' 2
  have b3 := dig_le l' 3
  have b4 := dig_le l' 4
  have b5 := dig_le l' 5
  have b6 := dig_le l' 6
  unfold code at h
  have : v = 1 ∨ v = 2 ∨ v = 3 ∨ v = 4 ∨ v = 5 ∨ v = 6 := by omega
  rcases this with rfl | rfl | rfl | rfl | rfl | rfl <;> omega
/-- The same number: the same literals. -/
theorem code_mem {l l' : List Int} (h : code l = code l') (hl : ∀ n ∈ l, n ≠ 0 ∧ n.natAbs ≤ 6) (hno : ∀ n ∈ l, -n ∉ l) : ∀ n ∈ l, n ∈ l' := fun n hn => by
  obtain ⟨n0, n6⟩ := hl n hn
  by_cases hp : 0 < n
  · have e := code_dig h (v := n) (by omega)
    unfold dig at e
    rw [if_pos hn] at e
    by_cases h1 : n ∈ l'
    · exact h1
    · rw [if_neg h1] at e
      split at e <;> omega
  · have e := code_dig h (v := -n) (by omega)
    unfold dig at e
    rw [if_neg (hno n hn), Int.neg_neg, if_pos hn] at e
    by_cases h1 : -n ∈ l'
    · rw [if_pos h1] at e; omega
    · rw [if_neg h1] at e
      by_cases h2 : n ∈ l'
      · exact h2
      · rw [if_neg h2] at e; omega
theorem code_perm {l l' : List Int} (h : l.Perm l') : code l = code l' := by
  have hd : ∀ v, dig l v = dig l' v := fun v => by unfold dig; simp only [h.mem_iff]
  unfold code
  simp only [hd]
def codeAt (s : St) (c : Nat) : Nat := match s.cls[c]? with | some x => code x.lits | none => 0
theorem codeAt_some {s : St} {c : Nat} {x : Cl} (h : s.cls[c]? = some x) : codeAt s c = code x.lits := by unfold codeAt; rw [h]
theorem codeAt_lt (s : St) (c : Nat) : codeAt s c < 729 := by
  unfold codeAt
  cases s.cls[c]? with
  | none => exact by decide
  | some x => exact code_lt _
/-- What was learnt: each one another. -/
structure Ln (s : St) : Prop where
  all : ∀ c ∈ s.learnt, c < s.cls.length
  nd : (s.learnt.map (codeAt s)).Nodup
section
variable {s s1 s' : St}
theorem Ln.len (h : Ln s) : s.learnt.length ≤ 729 := by
  have := nodup_bound 729 (s.learnt.map (codeAt s)) h.nd fun x hx => by
    obtain ⟨c, _, rfl⟩ := List.mem_map.1 hx
    exact codeAt_lt s c
  simpa using this
theorem Ln.cr (h : Ln s) (C : CR s s') (e : s'.learnt = s.learnt) : Ln s' := by
  refine ⟨fun c hc => by rw [C.len]; exact h.all c (by rw [← e]; exact hc), ?_⟩
  have : s'.learnt.map (codeAt s') = s.learnt.map (codeAt s) := by
    rw [e]
    refine List.map_congr_left fun c hc => ?_
    obtain ⟨x, hx⟩ := get_some (h.all c hc)
    obtain ⟨x', h1, h2⟩ := C.perm c x hx
    rw [codeAt_some hx, codeAt_some h1]
    exact code_perm h2
  rw [this]; exact h.nd
theorem Lr.cr (h : Lr s s') : CR s s' := ⟨h.clen, fun c x hx => by
  obtain ⟨x', h1, h2, _⟩ := h.cls' hx
  exact ⟨x', h1, by rw [h2]⟩⟩
theorem ClOk.no {nv : Nat} {l : List Int} (h : ClOk nv l) : ∀ n ∈ l, -n ∉ l := fun n hn hm => by
  obtain ⟨i, hi⟩ := List.mem_iff_getElem?.1 hn
  obtain ⟨j, hj⟩ := List.mem_iff_getElem?.1 hm
  have := map_nd_inj h.nd hi hj (by omega)
  rw [this, hj] at hi
  have h1 := Option.some.inj hi
  have := (h.var n hn).1
  omega
/-- What is learnt is new. -/
theorem learnt_new (W : Wf s) (P : PiLow s) (hv : s.vars.length ≤ 7) {x : Cl} (hx : ClOk s.vars.length x.lits) (hf : ∀ m ∈ x.lits, -m ∈ s.trail) {u : Int} {r : List Int} (hl : x.lits = u :: r) (hr : ∀ m ∈ r, ∃ p, s.trail[p]? = some (-m) ∧ lvlAt s p < s.limits.length) {c : Nat} {y : Cl} (hy : s.cls[c]? = some y) : code y.lits ≠ code x.lits := fun e => by
  have Y := W.cls c y hy
  have hsub := code_mem e (fun n hn => ⟨(Y.var n hn).1, by have := (Y.var n hn).2; omega⟩) Y.no
  obtain ⟨a, b, r', hyl⟩ : ∃ a b r', y.lits = a :: b :: r' := by
    have := Y.two
    match h : y.lits with
    | [] => rw [h] at this; simp at this
    | [_] => rw [h] at this; simp at this
    | a :: b :: r => exact ⟨a, b, r, rfl⟩
  have hnd := Y.nd
  rw [hyl] at hnd
  have hab : a.natAbs ≠ b.natAbs := by simp at hnd; exact hnd.1.1
  have key : ∀ v o, (v = a ∧ o = b) ∨ (v = b ∧ o = a) → v ≠ u → False := fun v o hvo hvu => by
    have hvy : v ∈ y.lits := by rw [hyl]; rcases hvo with ⟨rfl, _⟩ | ⟨rfl, _⟩ <;> simp
    have hoy : o ∈ y.lits := by rw [hyl]; rcases hvo with ⟨_, rfl⟩ | ⟨_, rfl⟩ <;> simp
    have h1 := hsub v hvy
    rw [hl] at h1
    have h2 : v ∈ r := (List.mem_cons.1 h1).resolve_left hvu
    obtain ⟨p, hp, hlv⟩ := hr v h2
    obtain ⟨i, hi, _⟩ := P c y a b r' hy hyl v o hvo p (hhd_of W p (get_lt hp) hlv) hp hlv
    exact W.not_both (List.mem_of_getElem? hi) (hf o (hsub o hoy))
  by_cases h : a = u
  · exact key b a (.inr ⟨rfl, rfl⟩) fun e => hab (by rw [h, e])
  · exact key a b (.inl ⟨rfl, rfl⟩) h
theorem Took.ln (h : Took s s') (L : Ln s) (W : Wf s) (P : PiLow s) (hv : s.vars.length ≤ 7) : Ln s' := by
  rcases h.new with ⟨h1, _, _, _, h2⟩ | ⟨x, h1, h2, h3, h4, h5, h6, ⟨u, r, h7, h8⟩, _⟩
  · exact L.cr h2 h1
  · have hold : ∀ c ∈ s.learnt, codeAt s' c = codeAt s c := fun c hc => by
      obtain ⟨y, hy⟩ := get_some (L.all c hc)
      rw [codeAt_some hy, codeAt_some (h3 c y hy)]
    refine ⟨fun c hc => ?_, ?_⟩
    · rw [h1] at hc
      rcases List.mem_append.1 hc with hc | hc
      · have := L.all c hc; omega
      · simp at hc; omega
    · rw [h1, List.map_append, List.nodup_append]
      refine ⟨?_, by simp, fun a ha b hb => ?_⟩
      · rw [List.map_congr_left hold]; exact L.nd
      · obtain ⟨c, hc, rfl⟩ := List.mem_map.1 ha
        simp at hb
        rw [hb, hold c hc, codeAt_some h4]
        obtain ⟨y, hy⟩ := get_some (L.all c hc)
        rw [codeAt_some hy]
        exact learnt_new W P hv h5 h6 h7 h8 hy
/-- How many are set at the bottom. -/
def zN (s : St) : Nat := match s.limits with | [] => s.trail.length | l :: _ => l.toNat
theorem zN_le (W : Wf s) : zN s ≤ s.trail.length := by
  unfold zN
  split
  · omega
  · rename_i l r hl
    have := W.lim l (by rw [hl]; simp)
    have := W.head
    omega
theorem zN_iff (W : Wf s) {i : Nat} (hi : i < s.trail.length) : lvlAt s i = 0 ↔ i < zN s := by
  unfold zN
  split
  · rename_i hl
    unfold lvlAt
    rw [hl]
    simp [hi]
  · rename_i l r hl
    have h0 := (W.lim l (by rw [hl]; simp)).1
    have hs := W.limo
    rw [hl] at hs
    obtain ⟨h1, _⟩ := List.pairwise_cons.1 hs
    constructor
    · intro h
      unfold lvlAt at h
      rw [List.countP_eq_zero] at h
      have := h l (by rw [hl]; simp)
      simp at this
      omega
    · intro h
      unfold lvlAt
      rw [List.countP_eq_zero]
      intro l' hl'
      rw [hl] at hl'
      rcases List.mem_cons.1 hl' with rfl | hl'
      · simp; omega
      · have := h1 l' hl'
        simp; omega
/-- Where what is at the bottom stays there, there are no fewer. -/
theorem zN_mono (W : Wf s) (W' : Wf s') (h : ∀ i, i < s.trail.length → lvlAt s i = 0 → i < s'.trail.length ∧ lvlAt s' i = 0) : zN s ≤ zN s' := by
  by_cases h0 : zN s = 0
  · omega
  · have h1 := zN_le W
    have h2 : zN s - 1 < s.trail.length := by omega
    obtain ⟨h3, h4⟩ := h (zN s - 1) h2 ((zN_iff W h2).2 (by omega))
    have := (zN_iff W' h3).1 h4
    omega
/-- What goes down with each conflict. -/
def mS (s : St) : Nat := (729 - s.learnt.length) + (7 - zN s)
theorem Took.less (h : Took s s') (W : Wf s) (L : Ln s) (L' : Ln s') (hv : s.vars.length ≤ 7) : mS s' + 1 ≤ mS s := by
  have W' := h.ok.wf
  have hl' := L'.len
  have ht' := W'.tlen
  have hz' := zN_le W'
  have hvl := h.vlen
  have hp := W'.hp.pos
  have ht2 : s'.trail.length ≤ 6 := by
    have := nodup_bound 6 (s'.trail.map fun n => n.natAbs - 1) (by
      have hn := W'.nd
      unfold List.Nodup at hn ⊢
      rw [List.pairwise_map] at hn ⊢
      exact hn.imp_of_mem fun {a b} ha hb hab => by
        have := (W'.trail_lt ha).1
        have := (W'.trail_lt hb).1
        omega) fun x hx => by
      obtain ⟨n, hn, rfl⟩ := List.mem_map.1 hx
      have := W'.trail_lt hn
      omega
    simpa using this
  unfold mS
  rcases h.new with ⟨h1, h2, ⟨u, h3⟩, h4, _⟩ | ⟨x, h1, h2, _, _, _, _, _, h8⟩
  · have e1 : zN s' = s'.trail.length := by unfold zN; rw [h2]
    have e2 : zN s + 1 = s'.trail.length := by
      have h5 := congrArg List.length h3
      simp at h5
      have h6 := zN_le W
      -- the two lengths agree
      by_cases hlt : zN s < s'.trail.length - 1
      · have h7 := (h4 (zN s) (by omega)).1 hlt
        have := (zN_iff W (i := zN s) (by omega)).1 h7
        omega
      · by_cases hgt : s'.trail.length - 1 < zN s
        · have h7 := (zN_iff W (i := s'.trail.length - 1) (by omega)).2 hgt
          have := (h4 (s'.trail.length - 1) (by omega)).2 h7
          omega
        · omega
    rw [h1]; omega
  · have := zN_mono W W' h8
    rw [h1]
    have e : (s.learnt ++ [s.cls.length]).length = s.learnt.length + 1 := by simp
    rw [h1, e] at hl'
    rw [e]
    omega
end
end Go.Sat
/- The search over six variables, as plain data: it ends, and its answer is right. -/
namespace Go.Sat
/-- What holds of a solver of six variables while it searches; Mod: the ways that are asked for. -/
structure SI (Mod : (Nat → Bool) → Prop) (kc : Nat) (s : St) : Prop where
  v7 : s.vars.length ≤ 7
  sco : Sco s
  ln : Ln s
  cl : s.cls.length ≤ s.learnt.length + kc
  sem : ∀ A, Mod A ↔ ModOk A s
section
variable {Mod : (Nat → Bool) → Prop} {kc : Nat} {s s1 s' : St}
theorem Sco.of {b : Int} (h : Sco s) (hb : s'.bump = s.bump) (hv : ∀ v : Nat, (s'.vars[v]?).map (·.score) = (s.vars[v]?).map (·.score)) : Sco s' := ⟨by rw [hb]; exact h.bump, fun v a ha => by
  have e := hv v
  rw [ha] at e
  cases hs : s.vars[v]? with
  | none => rw [hs] at e; cases e
  | some f =>
    rw [hs] at e
    have e' : a.score = f.score := by simpa using e
    rw [e']; exact h.score v f hs⟩
theorem SI.ext (h : SI Mod kc s) (E : Ext s s1) (W : Wf s1) : SI Mod kc s1 :=
  ⟨by rw [E.vlen]; exact h.v7, h.sco.of (b := 0) E.bump E.score, h.ln.cr E.cr E.learnt, by rw [E.clen, E.learnt]; exact h.cl, fun A => (h.sem A).trans (E.modEq W A)⟩
theorem SI.same (h : SI Mod kc s) (c a : Int) : SI Mod kc { s with conflicts := c, added := a } :=
  ⟨h.v7, ⟨h.sco.bump, h.sco.score⟩, h.ln.cr (CR.of_eq rfl) rfl, h.cl, fun A => (h.sem A).trans (ModEq.of_eq rfl rfl rfl A)⟩
theorem Learnt.lr {lits : List Int} {back : Nat} (K : Learnt s lits back) (L : Lr s s1) : Learnt s1 lits back := by
  obtain ⟨u, r, h1, ⟨j, h2, h3⟩, h4, h5, h6⟩ := K.ok
  refine ⟨⟨u, r, h1, ⟨j, by rw [L.trail]; exact h2, by rw [L.lvl, L.limits]; exact h3⟩, fun m hm => ?_, h5, fun e => ?_⟩, K.nd, by rw [L.limits]; exact K.low, fun A hA => K.sem A ((L.modEq A).2 hA)⟩
  · obtain ⟨p, a, b, c⟩ := h4 m hm
    exact ⟨p, by rw [L.trail]; exact a, by rw [L.lvl]; exact b, by rw [L.lvl]; exact c⟩
  · obtain ⟨m, r', a, p, b, c⟩ := h6 e
    exact ⟨m, r', a, p, by rw [L.trail]; exact b, by rw [L.lvl]; exact c⟩
theorem Lr.zN (h : Lr s s1) : zN s1 = Sat.zN s := by unfold Sat.zN; rw [h.limits, h.trail]
/-- A conflict above the bottom. -/
theorem conflict_ok (W : Wf s) (T : Wt s (watched s)) (M : Lm s) (P : PiLow s) (I : SI Mod kc s) (hkc : kc ≤ 1000) {c : Nat} (C : Conf s c) (hL : 0 < s.limits.length) (hb : s.broken = false) :
    ∃ s', conflictF s c = some s' ∧ Ok s' ∧ Lm s' ∧ SI Mod kc s' ∧ s'.added = s.added ∧ s'.conflicts = s.conflicts ∧ s'.broken = false ∧ s'.vars.length = s.vars.length ∧ mS s' + 1 ≤ mS s ∧ s'.limits.length ≤ s.limits.length := by
  obtain ⟨lits, back, s1, h1, L, S1, hb1, K⟩ := learn_ok W I.sco P C hL (hhd_of W)
  have ln1 := I.ln.cr L.cr L.learnt
  have hln := I.ln.len
  have hcl := I.cl
  obtain ⟨s2, h2, Tk⟩ := take_ok (L.wf W) (L.wt T) (L.lm M) S1 (L.low P) (K.lr L) (by rw [L.clen]; omega) (by rw [L.learnt]; omega)
  have hb2 : s2.bump ≤ 1099511627776 := by rw [Tk.bump]; exact hb1
  have hbl := Tk.sco.bump.1
  have v7 : s1.vars.length ≤ 7 := by rw [L.vlen]; exact I.v7
  have ln2 := Tk.ln ln1 (L.wf W) (L.low P) v7
  have hless := Tk.less (L.wf W) ln1 ln2 v7
  have hm : mS s1 = mS s := by unfold mS; rw [L.learnt, L.zN]
  have W2 := Tk.ok.wf
  obtain ⟨t, ht⟩ : ∃ t : St, t = { s2 with bump := s2.bump + (1 + s2.bump / 16) } := ⟨_, rfl⟩
  have hrun : conflictF s c = some t := by
    unfold conflictF
    rw [h1]
    simp only
    rw [h2]
    simp only [Option.bind_some]
    have hg : (decide (0 ≤ s2.bump ∧ s2.bump ≤ 1152921504606846976)) = true := by simp; omega
    rw [hg, ht]
    simp only [Bool.true_eq_false, if_false]
  have hcl2 : s2.cls.length ≤ s2.learnt.length + kc := by
    rcases Tk.new with ⟨a, _, _, _, b⟩ | ⟨x, a, b, _⟩
    · rw [a, b.len, L.learnt, L.clen]; exact hcl
    · rw [a, b, L.clen]
      have : (s1.learnt ++ [s.cls.length]).length = s1.learnt.length + 1 := by simp
      rw [this, L.learnt]; omega
  refine ⟨t, hrun, ?_, ?_, ⟨by rw [ht]; show s2.vars.length ≤ 7; rw [Tk.vlen]; exact v7, ⟨by rw [ht]; show 1 ≤ s2.bump + (1 + s2.bump / 16) ∧ s2.bump + (1 + s2.bump / 16) ≤ 4398046511104; omega, by rw [ht]; exact Tk.sco.score⟩, by rw [ht]; exact ln2.cr (CR.of_eq rfl) rfl, by rw [ht]; exact hcl2, fun A => ?_⟩, by rw [ht]; exact Tk.added.trans L.added, by rw [ht]; exact Tk.conflicts.trans L.conflicts, by rw [ht]; exact Tk.broken.trans (L.broken.trans hb), by rw [ht]; exact Tk.vlen.trans L.vlen, ?_, by rw [ht, ← L.limits]; exact Tk.lim⟩
  · rw [ht]
    exact ⟨⟨W2.hp, W2.siz, W2.csz, W2.val, W2.mem, W2.nd, W2.free, W2.lim, W2.limo, W2.head, W2.cls, W2.lev, W2.rea, W2.dec⟩, Tk.ok.wt.of_eq rfl rfl, Tk.ok.pi.of_eq rfl rfl rfl (Int.le_refl _)⟩
  · rw [ht]; exact ⟨Tk.lm.one, Tk.lm.some'⟩
  · rw [I.sem A, L.modEq A, Tk.mod A, ht]
    exact ModEq.of_eq rfl rfl rfl A
  · have e : mS t = mS s2 := by rw [ht]; rfl
    rw [e]; omega
theorem SI.back (h : SI Mod kc s) {L : Nat} (B : Back s L s') : SI Mod kc s' :=
  ⟨by rw [B.vlen]; exact h.v7, h.sco.back B, h.ln.cr (CR.of_eq B.cls) B.learnt, by rw [B.cls, B.learnt]; exact h.cl, fun A => (h.sem A).trans (B.modEq A)⟩
theorem Back.mS (H : Wf s) {L : Nat} (B : Back s L s') : mS s' ≤ Sat.mS s := by
  have h : zN s ≤ zN s' := zN_mono H B.wf fun i hi hl => by
    obtain ⟨m, h1, _, h2⟩ := B.trail
    have h3 : i < m := (h2 i hi).2 (by omega)
    have h4 : i < s'.trail.length := by rw [h1, List.length_take]; omega
    exact ⟨h4, by rw [B.lvl i h4]; exact hl⟩
  unfold Sat.mS
  rw [B.learnt]; omega
theorem Ext.mS (H : Wf s) (E : Ext s s') (W : Wf s') : mS s' ≤ Sat.mS s := by
  have h : zN s ≤ zN s' := zN_mono H W fun i hi hl => by
    obtain ⟨t, e⟩ := E.trail
    exact ⟨by rw [e]; simp; omega, by rw [E.lvl]; exact hl⟩
  unfold Sat.mS
  rw [E.learnt]; omega
/-- Decided: the same ways, no fewer at the bottom. -/
theorem Decided.modEq {n : Int} (D : Decided s n s') (F : Full s) : ModEq s s' := fun A => by
  have hs : SatA A s ↔ SatA A s' := by unfold SatA; rw [D.cls]
  have hlv : ∀ i, i < s.trail.length → lvlAt s' i = lvlAt s i := fun i hi => by rw [← lvlUp_at s hi]; unfold lvlAt lvlUp; rw [D.limits]
  constructor
  · rintro ⟨h1, h2⟩
    refine ⟨hs.1 h1, fun i m hi hl => ?_⟩
    rw [D.trail] at hi
    by_cases h3 : i < s.trail.length
    · rw [List.getElem?_append_left h3] at hi
      exact h2 i m hi (by rw [← hlv i h3]; exact hl)
    · have h4 := D.ok.wf.lvl_top (i := i) fun l hl2 => by
        have := (D.ok.wf.lim l hl2).2
        have := D.head
        have := F.hd
        omega
      rw [h4, D.limits] at hl
      simp at hl
  · rintro ⟨h1, h2⟩
    exact ⟨hs.2 h1, fun i m hi hl => h2 i m (by rw [D.trail, List.getElem?_append_left (get_lt hi)]; exact hi) (by rw [hlv i (get_lt hi)]; exact hl)⟩
theorem Decided.mS {n : Int} (D : Decided s n s') (F : Full s) : mS s' ≤ Sat.mS s := by
  have h : zN s ≤ zN s' := zN_mono F.base.wf D.ok.wf fun i hi hl => by
    refine ⟨by rw [D.trail]; simp; omega, ?_⟩
    rw [← hl, ← lvlUp_at s hi]; unfold lvlAt lvlUp; rw [D.limits]
  unfold Sat.mS
  rw [D.learnt]; omega
theorem SI.decided {n : Int} (h : SI Mod kc s) (D : Decided s n s') (F : Full s) : SI Mod kc s' :=
  ⟨by rw [D.vlen]; exact h.v7, h.sco.of (b := 0) D.bump D.score, h.ln.cr (CR.of_eq D.cls) D.learnt, by rw [D.cls, D.learnt]; exact h.cl, fun A => (h.sem A).trans (D.modEq F A)⟩
theorem LimExt.eqs (h : LimExt s s') (hm : s'.limits.length ≤ s.limits.length) : s'.limits = s.limits := by
  obtain ⟨r, e⟩ := h.pre
  rw [e, List.length_append] at hm
  have hr : r = [] := List.eq_nil_of_length_eq_zero (by omega)
  rw [e, hr]; simp
theorem SI.lim (h : SI Mod kc s) (L : LimExt s s') (hm : s'.limits.length ≤ s.limits.length) : SI Mod kc s' := by
  have el := L.eqs hm
  have e := L.eq
  have ec : s'.cls = s.cls := by rw [e]
  have et : s'.trail = s.trail := by rw [e]
  have ev : s'.vars = s.vars := by rw [e]
  have eL : s'.learnt = s.learnt := by rw [e]
  have eb : s'.bump = s.bump := by rw [e]
  exact ⟨by rw [ev]; exact h.v7, h.sco.of (b := 0) eb (fun v => by rw [ev]), h.ln.cr (CR.of_eq ec) eL, by rw [ec, eL]; exact h.cl, fun A => (h.sem A).trans (ModEq.of_eq ec et el A)⟩
theorem LimExt.mS (L : LimExt s s') (hm : s'.limits.length ≤ s.limits.length) : mS s' = Sat.mS s := by
  have el := L.eqs hm
  have e := L.eq
  have et : s'.trail = s.trail := by rw [e]
  have eL : s'.learnt = s.learnt := by rw [e]
  unfold Sat.mS zN
  rw [el, et, eL]
/-- What a search over six variables answers. -/
inductive SixR (Mod : (Nat → Bool) → Prop) (kc : Nat) (s : St) : Ans → St → Prop
  | yes (t : St) (F : Full t) (I : SI Mod kc t) (hb : t.broken = false) (hv : ∀ v : Nat, 1 ≤ v → v < t.vars.length → ∃ f, t.vars[v]? = some f ∧ f.lit ≠ 0) : SixR Mod kc s ⟨true, modelF t, []⟩ t
  | no (t : St) (R : Rest t) (hb : t.broken = true) (hn : ∀ A, ¬ Mod A) (hcl : t.cls.length ≤ 729 + kc) : SixR Mod kc s noAns t
theorem search_six (hkc : kc ≤ 1000) (fuel : Nat) (hfu : 8 < fuel) : ∀ (K : Nat) (s : St) (count : Int), Ok s → Lm s → SI Mod kc s → s.broken = false → (0 ≤ s.added ∧ s.added ≤ 1099511627776) → (0 ≤ s.conflicts ∧ s.conflicts + mS s ≤ 1000000000) → (0 ≤ count ∧ count + mS s ≤ 1000) →
    8 * mS s + (8 - s.trail.length) < K → s.limits.length + K ≤ 1000000 →
    ∃ a s', searchF fuel 0 [] K s count = some ((a, 0), s') ∧ SixR Mod kc s a s' ∧ s'.vars.length = s.vars.length ∧ s'.added = s.added ∧ 0 ≤ s'.conflicts ∧ s'.conflicts ≤ s.conflicts + mS s + 1
  | 0, s, _, _, _, _, _, _, _, _, hK, _ => by omega
  | K + 1, s, count, H, M, I, hb, hadd, hcf, hct, hK, hlm => by
    have hv7 := I.v7
    have htl := H.wf.tlen
    unfold searchF
    rw [hb]
    simp only [Bool.false_eq_true, if_false]
    obtain ⟨res, s1, h1, E, W1, T1, hnone, hsome⟩ := spread_ok fuel s H (by have := H.wf.head.1; omega)
    rw [h1]
    have I1 := I.ext E W1
    have hm1 := E.mS H.wf W1
    have M1 : Lm s1 := ⟨by rw [E.limits]; exact M.one, fun h => by
      rw [E.limits] at h
      obtain ⟨t, e⟩ := E.trail
      rw [e]
      intro e2
      exact M.some' h (List.append_eq_nil_iff.1 e2).1⟩
    have hb1 : s1.broken = false := by rw [E.broken]; exact hb
    have htl1 : s.trail.length ≤ s1.trail.length := by obtain ⟨t, e⟩ := E.trail; rw [e]; simp
    have hcf1 : s1.conflicts = s.conflicts := E.conflicts
    have had1 : s1.added = s.added := E.added
    cases res with
    | some c =>
      simp only
      obtain ⟨P1, C1⟩ := hsome c rfl
      have hg : (decide (0 ≤ s1.conflicts ∧ s1.conflicts ≤ 1099511627776 ∧ 0 ≤ count ∧ count ≤ 1099511627776)) = true := by simp; omega
      rw [hg]
      simp only [Bool.true_eq_false, if_false]
      obtain ⟨s2, hs2⟩ : ∃ s2 : St, s2 = { s1 with conflicts := s1.conflicts + 1 } := ⟨_, rfl⟩
      have W2 : Wf s2 := by rw [hs2]; exact ⟨W1.hp, W1.siz, W1.csz, W1.val, W1.mem, W1.nd, W1.free, W1.lim, W1.limo, W1.head, W1.cls, W1.lev, W1.rea, W1.dec⟩
      have T2 : Wt s2 (watched s2) := by rw [hs2]; exact T1.of_eq rfl rfl
      have M2 : Lm s2 := by rw [hs2]; exact ⟨M1.one, M1.some'⟩
      have P2 : PiLow s2 := by rw [hs2]; exact P1.of_eq rfl rfl rfl (Int.le_refl _)
      have C2 : Conf s2 c := by rw [hs2]; exact C1
      have I2 : SI Mod kc s2 := by rw [hs2]; exact I1.same (s1.conflicts + 1) s1.added
      have m2 : mS s2 = mS s1 := by rw [hs2]; rfl
      have l2 : s2.limits = s1.limits := by rw [hs2]
      rw [← hs2]
      by_cases hl0 : levelF s2 = 0
      · rw [if_pos hl0]
        have hl : s2.limits = [] := List.eq_nil_of_length_eq_zero (by unfold levelF at hl0; omega)
        have B2 : Base s2 := ⟨W2, T2, M2⟩
        have B3 : Base { s2 with broken := true } := B2.same true s2.added
        rw [hs2] at B3
        refine ⟨noAns, _, rfl, .no _ ⟨B3, fun e => by cases e⟩ rfl (fun A hA => ?_) (by show s1.cls.length ≤ _; have := I1.cl; have := I1.ln.len; omega), E.vlen, E.added, by show 0 ≤ s1.conflicts + 1; omega, by show s1.conflicts + 1 ≤ _; omega⟩
        obtain ⟨h2, h3⟩ := (I2.sem A).1 hA
        exact C2.not_sat W2 h2 fun m hm => by
          obtain ⟨i, hi⟩ := List.mem_iff_getElem?.1 hm
          exact h3 i m hi (by unfold lvlAt; rw [hl]; rfl)
      · rw [if_neg hl0]
        obtain ⟨s3, h3, O3, M3, I3, a3, c3, b3, v3, m3, lm3⟩ := conflict_ok W2 T2 M2 P2 I2 hkc C2 (by unfold levelF at hl0; omega) (by rw [hs2]; exact hb1)
        rw [h3]
        simp only
        rw [if_neg (by omega)]
        have hres : ∃ s4, (if (count + 1) % 64 = 0 then backF s3 0 else some s3) = some s4 ∧ Ok s4 ∧ Lm s4 ∧ SI Mod kc s4 ∧ s4.broken = false ∧ s4.added = s3.added ∧ s4.conflicts = s3.conflicts ∧ s4.vars.length = s3.vars.length ∧ mS s4 ≤ mS s3 ∧ s4.limits.length ≤ s3.limits.length := by
          by_cases hc64 : (count + 1) % 64 = 0
          · rw [if_pos hc64]
            obtain ⟨s4, h4, B⟩ := back_ok O3.wf M3 0
            have h4' : backF s3 0 = some s4 := h4
            refine ⟨s4, h4', ⟨B.wf, O3.wt.of_eq B.cls B.watches, ?_⟩, B.lm, I3.back B, by rw [B.broken]; exact b3, B.added, B.conflicts, B.vlen, B.mS O3.wf, by rw [B.limits, List.length_take]; omega⟩
            by_cases hl : 0 < s3.limits.length
            · exact B.pi (.inr O3.pi) hl
            · rw [B.same (by omega)]; exact O3.pi
          · rw [if_neg hc64]
            exact ⟨s3, rfl, O3, M3, I3, b3, rfl, rfl, rfl, Nat.le_refl _, Nat.le_refl _⟩
        obtain ⟨s4, h4, O4, M4, I4, b4, a4, c4, v4, m4, l4⟩ := hres
        rw [h4]
        simp only [Option.bind_some]
        rw [b4]
        simp only [Bool.false_eq_true, if_false]
        have e2 : s2.conflicts = s1.conflicts + 1 := by rw [hs2]
        have e3 : s2.added = s1.added := by rw [hs2]
        have e4 : s2.vars.length = s1.vars.length := by rw [hs2]
        have e5 : s1.limits.length = s.limits.length := by rw [E.limits]
        have htl4 := O4.wf.tlen
        obtain ⟨a, s5, r1, r2, r3, r4, r5, r6⟩ := search_six hkc fuel hfu K s4 (count + 1) O4 M4 I4 b4 (by rw [a4, a3, e3, had1]; exact hadd) (by omega) (by omega) (by omega) (by rw [l2] at lm3; omega)
        refine ⟨a, s5, r1, ?_, by rw [r3, v4, v3, e4, E.vlen], by rw [r4, a4, a3, e3, had1], r5, by omega⟩
        cases r2 with
        | yes _ F I hb hv => exact .yes _ F I hb hv
        | no _ R hb hn hc => exact .no _ R hb hn hc
    | none =>
      simp only
      obtain ⟨P1, hd1⟩ := hnone rfl
      have F1 : Full s1 := ⟨⟨W1, T1, M1⟩, P1, hd1⟩
      have hg : (decide (0 ≤ s1.added ∧ s1.added ≤ 1099511627776)) = true := by rw [had1]; simpa using hadd
      rw [hg]
      simp only [Bool.true_eq_false, if_false]
      have hln := I1.ln.len
      rw [if_neg (by omega)]
      have hdec := decide_ok [] 2 s1 F1 ⟨fun j n _ h => (by simp at h), fun i n hi hl hlv => by
        exfalso
        have h0 : lvlAt s1 i = 0 := by simpa using hlv
        unfold lvlAt at h0
        rw [List.countP_eq_zero] at h0
        have := h0 _ hl
        simp at this⟩ (fun n h => by cases h) (by show 0 < 2 + s1.limits.length; omega) (by omega) (by simp)
      have e0 : ([] : List Int).length + 2 = 2 := rfl
      rw [e0]
      revert hdec
      generalize decideL 2 s1 [] = r
      intro hdec
      cases hdec with
      | no n t hF hA hE hn ht hl => cases hn
      | all t hF hA hE hl hv hm =>
        simp only [if_true]
        have hm' : t.limits.length ≤ s1.limits.length := by simpa using hm
        have : roomB t.vars.length = true := room_ok hF.base.wf.siz
        rw [if_pos this]
        have L := hE.left
        exact ⟨_, t, rfl, .yes t hF (I1.lim hE hm') (by rw [L.broken]; exact hb1) hv, by rw [L.vlen, E.vlen], by rw [L.added, had1], by rw [L.conflicts, hcf1]; exact hcf.1, by rw [L.conflicts, hcf1]; omega⟩
      | set n t h p hF hA hE h0 hn hu hl hh hf ha =>
        simp only
        rw [if_neg h0]
        have hm' : t.limits.length ≤ s1.limits.length := by simpa using hl
        have It := I1.lim hE hm'
        have L := hE.left
        have et : t.trail = s1.trail := by rw [hE.eq]
        have el := hE.eqs hm'
        have htn := hF.base.wf.tlen
        have hv7t := It.v7
        have hlt : t.limits.length + K + 1 ≤ 1000000 := by rw [el, E.limits]; omega
        have : roomB t.limits.length = true := by unfold roomB; simp; omega
        rw [this]
        simp only [Bool.true_eq_false, if_false]
        obtain ⟨s2, h2, D⟩ := hF.decide (h := h) (p := p) h0 hn hu hh hf
        have e2 : setF { t with heap := h, place := p, limits := t.limits ++ [(t.trail.length : Int)] } n none = some s2 := h2
        rw [e2]
        simp only [Option.bind_some]
        have tl2 : s2.trail.length = t.trail.length + 1 := by rw [D.trail]; simp
        have hm2 := D.mS hF
        have hmt := hE.mS hm'
        have htl2 := D.ok.wf.tlen
        have hdv := D.vlen
        obtain ⟨a, s5, r1, r2, r3, r4, r5, r6⟩ := search_six hkc fuel hfu K s2 count D.ok D.lm (It.decided D hF) (by rw [D.broken, L.broken]; exact hb1) (by rw [D.added, L.added, had1]; exact hadd) (by rw [D.conflicts, L.conflicts, hcf1]; omega) (by omega) (by rw [tl2, et]; omega) (by rw [D.limits]; simp; omega)
        refine ⟨a, s5, r1, ?_, by rw [r3, D.vlen, L.vlen, E.vlen], by rw [r4, D.added, L.added, had1], r5, by rw [D.conflicts, L.conflicts, hcf1] at r6; omega⟩
        cases r2 with
        | yes _ F I hb hv => exact .yes _ F I hb hv
        | no _ R hb hn hc => exact .no _ R hb hn hc
end
end Go.Sat
/- Add and Solve over six variables, as plain data: right both ways. -/
namespace Go.Sat
/-- A solver of six variables between calls; Mod: the ways in which all its clauses hold. -/
structure Six (Mod : (Nat → Bool) → Prop) (kc : Nat) (s : St) : Prop where
  rest : Rest s
  v7 : s.vars.length ≤ 7
  cl : s.cls.length ≤ 729 + kc
  si : s.broken = false → SI Mod kc s
  no : s.broken = true → ∀ A, ¬ Mod A
  added : 0 ≤ s.added ∧ s.added ≤ 1000000
  conf : 0 ≤ s.conflicts
section
variable {Mod : (Nat → Bool) → Prop} {kc : Nat} {s s1 s' : St}
theorem SI.mod {Mod' : (Nat → Bool) → Prop} (h : SI Mod kc s) (e : ∀ A, Mod' A ↔ Mod A) : SI Mod' kc s := ⟨h.v7, h.sco, h.ln, h.cl, fun A => (e A).trans (h.sem A)⟩
theorem SI.up (h : SI Mod kc s) : SI Mod (kc + 1) s := ⟨h.v7, h.sco, h.ln, by have := h.cl; omega, h.sem⟩
theorem SI.grown (h : SI Mod kc s) (g : Grown s s1) (hv : s1.vars.length ≤ 7) : SI Mod kc s1 := by
  obtain ⟨m, e⟩ := g.eq
  have ev : s1.vars = s.vars ++ List.replicate m noFact := by rw [e]
  have ec : s1.cls = s.cls := by rw [e]
  have eL : s1.learnt = s.learnt := by rw [e]
  refine ⟨hv, ⟨by rw [e]; exact h.sco.bump, fun v a ha => ?_⟩, h.ln.cr (CR.of_eq ec) eL, by rw [ec, eL]; exact h.cl, fun A => (h.sem A).trans (ModEq.of_eq ec (by rw [e]) (by rw [e]) A)⟩
  rw [ev] at ha
  by_cases h1 : v < s.vars.length
  · rw [List.getElem?_append_left h1] at ha; exact h.sco.score v a ha
  · rw [List.getElem?_append_right (by omega)] at ha
    have h2 := get_lt ha
    rw [List.length_replicate] at h2
    rw [List.getElem?_replicate, if_pos h2] at ha
    cases ha
    exact ⟨by decide, by decide⟩
theorem bottom_lvl (hl : s.limits = []) (i : Nat) : lvlAt s i = 0 := by unfold lvlAt; rw [hl]; rfl
theorem ModOk.trail {A : Nat → Bool} (h : ModOk A s) (hl : s.limits = []) : ∀ m ∈ s.trail, litT A m := fun m hm => by
  obtain ⟨i, hi⟩ := List.mem_iff_getElem?.1 hm
  exact h.2 i m hi (bottom_lvl hl i)
/-- One clause more. -/
theorem AddR.six {fuel : Nat} {lits : List Int} (h : AddR fuel s lits s') (H : Rest s) (hl : s.limits = []) (I : s.broken = false → SI Mod kc s) (hno : s.broken = true → ∀ A, ¬ Mod A) (h0 : ∀ n ∈ lits, n ≠ 0) :
    (s'.broken = false → SI (fun A => Mod A ∧ ∃ n ∈ lits, litT A n) (kc + 1) s') ∧ (s'.broken = true → ∀ A, ¬ (Mod A ∧ ∃ n ∈ lits, litT A n)) := by
  have W := H.base.wf
  -- what is false at the bottom is false
  have hfalse : s.broken = false → ∀ A, Mod A → ∀ m ∈ lits, -m ∈ s.trail → ¬ litT A m := fun hb A hA m hm ht => by
    have := (((I hb).sem A).1 hA).trail hl _ ht
    exact (litT_neg (h0 m hm)).1 this
  by_cases hb0 : s.broken = true
  · have key : s'.broken = true := by
      cases h with
      | taut hn => exact hb0
      | sat hn => exact hb0
      | empty hn => rfl
      | unit n s3 hn h hu h3 H3 L3 t3 c3 lim3 w3 hb => exact hb
      | spread n s3 s4 res hn h hu W3 t3 c3 l3 lim3 old3 sc3 E W4 T4 hnone hsome hb3 =>
        rw [l3.broken, hb0] at hb3; cases hb3
      | cls o s' ho h hno' e H' hs => rw [e]; exact hb0
    exact ⟨fun e => (by rw [key] at e; cases e), fun _ A hA => hno hb0 A hA.1⟩
  · have hb : s.broken = false := by simpa using hb0
    have S := I hb
    cases h with
    | taut hn =>
      obtain ⟨n, h1, h2, h3⟩ := hn
      refine ⟨fun _ => S.up.mod fun A => ⟨fun h => h.1, fun h => ⟨h, ?_⟩⟩, fun e => by rw [hb] at e; cases e⟩
      by_cases h4 : litT A n
      · exact ⟨n, h1, h4⟩
      · exact ⟨-n, h3, (litT_neg h2).2 h4⟩
    | sat hn =>
      obtain ⟨n, h1, h2⟩ := hn
      exact ⟨fun _ => S.up.mod fun A => ⟨fun h => h.1, fun h => ⟨h, n, h1, ((S.sem A).1 h).trail hl n h2⟩⟩, fun e => by rw [hb] at e; cases e⟩
    | empty hn =>
      refine ⟨fun e => (by cases e), fun _ A ⟨hA, n, h1, h2⟩ => hfalse hb A hA n h1 (hn n h1) h2⟩
    | unit n s3 hn h hu h3 H3 L3 t3 c3 lim3 w3 hb3 =>
      rw [L3.broken, hb] at hb3; cases hb3
    | spread n s3 s4 res hn h hu W3 t3 c3 l3 lim3 old3 sc3 E W4 T4 hnone hsome hb3 =>
      have hl3 : s3.limits = [] := lim3.trans hl
      have hl4 : s4.limits = [] := E.limits.trans hl3
      have h3 : ∀ A, ModOk A s3 ↔ ModOk A s ∧ litT A n := fun A => by
        have hs : SatA A s ↔ SatA A s3 := by unfold SatA; rw [c3]
        constructor
        · intro hA
          have ht := hA.trail hl3
          exact ⟨⟨hs.2 hA.1, fun i m hi _ => ht m (by rw [t3]; exact List.mem_append_left _ (List.mem_of_getElem? hi))⟩, ht n (by rw [t3]; simp)⟩
        · rintro ⟨hA, hn'⟩
          refine ⟨hs.1 hA.1, fun i m hi _ => ?_⟩
          have hm := List.mem_of_getElem? hi
          rw [t3] at hm
          rcases List.mem_append.1 hm with hm | hm
          · exact hA.trail hl m hm
          · simp at hm; rw [hm]; exact hn'
      have hsem : ∀ A, (Mod A ∧ ∃ m ∈ lits, litT A m) ↔ ModOk A s4 := fun A => by
        rw [← E.modEq W4 A, h3 A, ← S.sem A]
        constructor
        · rintro ⟨hA, m, hm, hmt⟩
          refine ⟨hA, ?_⟩
          rcases h m hm with rfl | h1
          · exact hmt
          · exact absurd hmt (hfalse hb A hA m hm h1)
        · rintro ⟨hA, hmt⟩
          exact ⟨hA, n, hn, hmt⟩
      have hS3 : Sco s3 := S.sco.of (b := 0) l3.bump sc3
      have hS4 : Sco s4 := hS3.of (b := 0) E.bump E.score
      have hC : CR s s4 := (CR.of_eq c3).trans E.cr
      have hL : s4.learnt = s.learnt := E.learnt.trans l3.learnt
      cases res with
      | none =>
        refine ⟨fun _ => ⟨?_, ⟨hS4.bump, hS4.score⟩, (S.ln.cr hC hL).cr (CR.of_eq rfl) rfl, ?_, fun A => (hsem A).trans (ModEq.of_eq rfl rfl rfl A)⟩, fun e => by cases e⟩
        · show s4.vars.length ≤ 7
          rw [E.vlen, l3.vlen]; exact S.v7
        · show s4.cls.length ≤ s4.learnt.length + (kc + 1)
          rw [hC.len, hL]; have := S.cl; omega
      | some c =>
        refine ⟨fun e => (by cases e), fun _ A hA => ?_⟩
        have hA4 := (hsem A).1 hA
        exact (hsome c rfl).not_sat W4 hA4.1 (hA4.trail hl4)
    | cls o s' ho h hno' e H' hs =>
      have ec : s'.cls = s.cls ++ [⟨o, false, 0⟩] := by rw [e]
      have et : s'.trail = s.trail := by rw [e]
      have el : s'.limits = s.limits := by rw [e]
      have ev : s'.vars = s.vars := by rw [e]
      have eL : s'.learnt = s.learnt := by rw [e]
      refine ⟨fun _ => ⟨by rw [ev]; exact S.v7, ⟨by rw [e]; exact S.sco.bump, by rw [ev]; exact S.sco.score⟩, ⟨fun c hc => by rw [ec]; have := S.ln.all c (by rw [← eL]; exact hc); simp; omega, ?_⟩, by rw [ec, eL]; have := S.cl; simp; omega, fun A => ?_⟩, fun e2 => by rw [e] at e2; have e3 : s.broken = true := e2; rw [hb] at e3; cases e3⟩
      · have : s'.learnt.map (codeAt s') = s.learnt.map (codeAt s) := by
          rw [eL]
          refine List.map_congr_left fun c hc => ?_
          obtain ⟨x, hx⟩ := get_some (S.ln.all c hc)
          rw [codeAt_some hx, codeAt_some (by rw [ec, List.getElem?_append_left (get_lt hx)]; exact hx)]
        rw [this]; exact S.ln.nd
      · have hmod : ModOk A s' ↔ ModOk A s ∧ ∃ m ∈ o, litT A m := by
          constructor
          · intro hA
            refine ⟨⟨fun c x hx => hA.1 c x (by rw [ec, List.getElem?_append_left (get_lt hx)]; exact hx), fun i m hi hlv => hA.2 i m (by rw [et]; exact hi) (by unfold lvlAt at hlv ⊢; rw [el]; exact hlv)⟩, ?_⟩
            exact hA.1 s.cls.length ⟨o, false, 0⟩ (by rw [ec]; simp)
          · rintro ⟨hA, hm⟩
            refine ⟨fun c x hx => ?_, fun i m hi hlv => hA.2 i m (by rw [← et]; exact hi) (by unfold lvlAt at hlv ⊢; rw [← el]; exact hlv)⟩
            rw [ec] at hx
            by_cases hc : c < s.cls.length
            · rw [List.getElem?_append_left hc] at hx; exact hA.1 c x hx
            · rw [List.getElem?_append_right (by omega)] at hx
              have h5 := get_lt hx
              simp at h5
              have h6 : c - s.cls.length = 0 := by omega
              rw [h6] at hx
              simp at hx
              subst hx
              exact hm
        rw [hmod, ← S.sem A]
        constructor
        · rintro ⟨hA, m, hm, hmt⟩
          exact ⟨hA, m, (h m).2 ⟨hm, fun h1 => hfalse hb A hA m hm h1 hmt⟩, hmt⟩
        · rintro ⟨hA, m, hm, hmt⟩
          exact ⟨hA, m, ((h m).1 hm).1, hmt⟩
theorem add_six (fuel : Nat) (hfu : 8 < fuel) (H : Six Mod kc s) (hkc : kc ≤ 900) (hadd : s.added < 1000000) (lits : List Int) (h0 : ∀ n ∈ lits, n ≠ 0 ∧ n.natAbs ≤ 6) :
    ∃ s', addF fuel s lits = some s' ∧ Six (fun A => Mod A ∧ ∃ n ∈ lits, litT A n) (kc + 1) s' ∧ s'.added = s.added + 1 ∧ s'.conflicts = s.conflicts ∧ s.vars.length ≤ s'.vars.length ∧ ∀ n ∈ lits, n.natAbs < s'.vars.length := by
  have hv7 := H.v7
  have hcl := H.cl
  have had := H.added
  obtain ⟨s1, s2, s', B1, g, hv, R2, l2, h1, h2, hgrow⟩ := add_ok2 fuel s lits 6 H.rest (by omega) (by omega) h0 (by decide) (by omega)
  have P := h2.post R2 l2
  obtain ⟨m, e⟩ := g.eq
  have eb : s2.broken = s.broken := by rw [e]; exact B1.broken
  have ec : s2.cls = s.cls := by rw [e]; exact B1.cls
  have ea : s2.added = s.added + 1 := by rw [e]; exact B1.added
  have ef : s2.conflicts = s.conflicts := by rw [e]; exact B1.conflicts
  have ev1 : s1.vars.length = s.vars.length := B1.vlen
  have I2 : s2.broken = false → SI Mod kc s2 := fun hb => by
    have I0 := (H.si (by rw [← eb]; exact hb)).same s.conflicts (s.added + 1)
    exact (I0.back B1).grown g (by omega)
  obtain ⟨h3, h4⟩ := h2.six R2 l2 I2 (fun hb => H.no (by rw [← eb]; exact hb)) (fun n hn => (h0 n hn).1)
  have hgl := g.len
  have hvl := P.vlen
  refine ⟨s', h1, ⟨P.rest, by omega, ?_, h3, h4, by rw [P.added, ea]; omega, by rw [P.conflicts, ef]; exact H.conf⟩, by rw [P.added, ea], by rw [P.conflicts, ef], by omega, fun n hn => by have := hgrow n hn; omega⟩
  have := P.clen
  rw [ec] at this
  omega
/-- All are set and propagated: a way. -/
theorem Full.way (F : Full s) (hv : ∀ v : Nat, 1 ≤ v → v < s.vars.length → ∃ f, s.vars[v]? = some f ∧ f.lit ≠ 0) : ModOk (wayOf s.trail) s := by
  have W := F.base.wf
  have hw : ∀ m ∈ s.trail, litT (wayOf s.trail) m := way_true fun m hm => ⟨(W.mem m hm).1, fun h => W.not_both hm h⟩
  have hset : ∀ n : Int, n ≠ 0 → n.natAbs < s.vars.length → n ∈ s.trail ∨ -n ∈ s.trail := fun n n0 nv => by
    obtain ⟨f, hf, hl⟩ := hv n.natAbs (by omega) nv
    rcases W.val n.natAbs f hf with h | ⟨h1, h2⟩
    · exact absurd h hl
    · have : f.lit = n ∨ f.lit = -n := by omega
      rcases this with h | h <;> rw [h] at h2
      · exact .inl h2
      · exact .inr h2
  refine ⟨fun c x hx => ?_, fun i n hi _ => hw n (List.mem_of_getElem? hi)⟩
  have C := W.cls c x hx
  obtain ⟨a, b, r, hl⟩ : ∃ a b r, x.lits = a :: b :: r := by
    have := C.two
    match h : x.lits with
    | [] => rw [h] at this; simp at this
    | [_] => rw [h] at this; simp at this
    | a :: b :: r => exact ⟨a, b, r, rfl⟩
  obtain ⟨a0, a1⟩ := C.var a (by rw [hl]; simp)
  rcases hset a a0 a1 with h | h
  · exact ⟨a, by rw [hl]; simp, hw a h⟩
  · obtain ⟨j, hj⟩ := List.mem_iff_getElem?.1 h
    obtain ⟨i, hi, _⟩ := F.pi c x a b r hx hl a b (.inl ⟨rfl, rfl⟩) j (by have := get_lt hj; have := F.hd; omega) hj trivial
    exact ⟨b, by rw [hl]; simp, hw b (List.mem_of_getElem? hi)⟩
/-- Solve, where nothing is assumed. -/
theorem solve_six (fuel : Nat) (hfu : 6000 < fuel) (hfu2 : fuel ≤ 900000) (H : Six Mod kc s) (hkc : kc ≤ 900) (hcf2 : s.conflicts ≤ 900000000) : ∃ a s', solveF fuel s 0 [] = some ((a, 0), s') ∧ Six Mod kc s' ∧ s'.vars.length = s.vars.length ∧ s'.added = s.added ∧ s'.conflicts ≤ s.conflicts + 800 ∧
    ((a.sat = true ∧ s'.broken = false ∧ a.model = modelF s' ∧ Mod (wayOf s'.trail) ∧ Full s' ∧ (∀ v : Nat, 1 ≤ v → v < s'.vars.length → ∃ f, s'.vars[v]? = some f ∧ f.lit ≠ 0)) ∨ (a.sat = false ∧ a.model = [] ∧ ∀ A, ¬ Mod A)) := by
  have had := H.added
  have hcf := H.conf
  by_cases hb : s.broken = true
  · obtain ⟨s1, h1, B1, R1, l1⟩ := bottom H.rest
    have hb1 : s1.broken = true := by rw [B1.broken]; exact hb
    obtain ⟨k, rfl⟩ : ∃ k, fuel = k + 1 := ⟨fuel - 1, by omega⟩
    refine ⟨noAns, s1, ?_, ⟨R1, by rw [B1.vlen]; exact H.v7, by rw [B1.cls]; exact H.cl, fun e => (by rw [hb1] at e; cases e), fun _ => H.no hb, by rw [B1.added]; exact had, by rw [B1.conflicts]; exact hcf⟩, B1.vlen, B1.added, by rw [B1.conflicts]; omega, .inr ⟨rfl, rfl, H.no hb⟩⟩
    unfold solveF
    rw [h1]
    simp only [growsF, Option.bind_some]
    unfold searchF
    rw [if_pos hb1]
  · have hb' : s.broken = false := by simpa using hb
    have S := H.si hb'
    obtain ⟨s1, h1, B1, R1, l1⟩ := bottom H.rest
    have S1 := S.back B1
    have hb1 : s1.broken = false := by rw [B1.broken]; exact hb'
    have F1 := R1.full hb1
    have hms : mS s1 ≤ 736 := by unfold mS; omega
    have hc1 : s1.conflicts = s.conflicts := B1.conflicts
    obtain ⟨a, s', r1, r2, r3, r4, r5, r6⟩ := search_six (Mod := Mod) (kc := kc) (by omega) fuel (by omega) fuel s1 0 F1.ok F1.base.lm S1 hb1 (by rw [B1.added]; omega) (by omega) (by omega) (by omega) (by rw [l1]; simp; omega)
    have hrun : solveF fuel s 0 [] = some ((a, 0), s') := by
      unfold solveF
      rw [h1]
      simp only [growsF, Option.bind_some]
      exact r1
    have v' : s'.vars.length = s.vars.length := by rw [r3, B1.vlen]
    have ad' : s'.added = s.added := by rw [r4, B1.added]
    refine ⟨a, s', hrun, ?_⟩
    cases r2 with
    | yes _ F I hbt hv =>
      refine ⟨⟨⟨F.base, fun _ => F⟩, I.v7, by have := I.cl; have := I.ln.len; omega, fun _ => I, fun e => (by rw [hbt] at e; cases e), by rw [ad']; exact had, by omega⟩, v', ad', by omega, .inl ⟨rfl, hbt, rfl, (I.sem _).2 (F.way hv), F, hv⟩⟩
    | no _ R hbt hn hsz =>
      exact ⟨⟨R, by rw [v']; exact H.v7, hsz, fun e => (by rw [hbt] at e; cases e), fun _ => hn, by rw [ad']; exact had, by omega⟩, v', ad', by omega, .inr ⟨rfl, rfl, hn⟩⟩
end
end Go.Sat
/- Model by model, as plain data: there are just as many as there are. -/
namespace Go.Sat
theorem nodup_sub : ∀ (a b : List Nat), a.Nodup → (∀ x ∈ a, x ∈ b) → a.length ≤ b.length
  | [], _, _, _ => by simp
  | x :: r, b, hn, h => by
    obtain ⟨h1, h2⟩ := List.nodup_cons.1 hn
    have hx := h x List.mem_cons_self
    have := nodup_sub r (b.erase x) h2 fun y hy => by
      have hne : y ≠ x := fun e => h1 (e ▸ hy)
      exact (List.mem_erase_of_ne hne).2 (h y (List.mem_cons_of_mem _ hy))
    rw [List.length_erase_of_mem hx] at this
    have hp : 0 < b.length := List.length_pos_of_mem hx
    simp only [List.length_cons]
    omega
/-- The v-th way: bit u - 1 is variable u's. -/
def asg (v : Nat) : Nat → Bool := fun u => v.testBit (u - 1)
def isL (v : Nat) : List Int := (List.range 6).map fun i => if v.testBit i then (i : Int) + 1 else -((i : Int) + 1)
def holdsF (l : List (List Int)) (is : List Int) : Bool := l.all fun c => c.any fun n => decide (n ∈ is)
def goodI (l : List (List Int)) : List Nat := (List.range 64).filter fun v => holdsF l (isL v)
def satL (l : List (List Int)) (A : Nat → Bool) : Prop := ∀ c ∈ l, ∃ n ∈ c, litT A n
theorem isL_len (v : Nat) : (isL v).length = 6 := by simp [isL]
theorem isL_at {v i : Nat} (h : i < 6) : (isL v)[i]? = some (if v.testBit i then (i : Int) + 1 else -((i : Int) + 1)) := by
  unfold isL
  rw [List.getElem?_map, List.getElem?_range h]; rfl
theorem isL_mem {v : Nat} {n : Int} (h : n ≠ 0 ∧ n.natAbs ≤ 6) : n ∈ isL v ↔ litT (asg v) n := by
  unfold isL litT asg
  simp only [List.mem_map, List.mem_range]
  constructor
  · rintro ⟨i, hi, e⟩
    cases hb : v.testBit i with
    | true =>
      rw [hb] at e
      simp only [if_true] at e
      rw [if_pos (by omega), show n.natAbs - 1 = i from by omega]; exact hb
    | false =>
      rw [hb] at e
      simp only [Bool.false_eq_true, if_false] at e
      rw [if_neg (by omega), show n.natAbs - 1 = i from by omega]; exact hb
  · intro e
    refine ⟨n.natAbs - 1, by omega, ?_⟩
    by_cases hp : 0 < n
    · rw [if_pos hp] at e
      rw [e]; simp only [if_true]; omega
    · rw [if_neg hp] at e
      rw [e]; simp only [Bool.false_eq_true, if_false]; omega
theorem isL_range {v : Nat} : ∀ n ∈ isL v, n ≠ 0 ∧ n.natAbs ≤ 6 := fun n hn => by
  unfold isL at hn
  obtain ⟨i, hi, e⟩ := List.mem_map.1 hn
  have := List.mem_range.1 hi
  split at e <;> omega
theorem litT_congr {A A' : Nat → Bool} (h : ∀ u, 1 ≤ u → u ≤ 6 → A u = A' u) {n : Int} (hn : n ≠ 0 ∧ n.natAbs ≤ 6) : litT A n ↔ litT A' n := by
  unfold litT
  rw [h n.natAbs (by omega) (by omega)]
def InR (l : List (List Int)) : Prop := ∀ c ∈ l, ∀ n ∈ c, n ≠ 0 ∧ n.natAbs ≤ 6
theorem satL_congr {l : List (List Int)} (hl : InR l) {A A' : Nat → Bool} (h : ∀ u, 1 ≤ u → u ≤ 6 → A u = A' u) (hs : satL l A) : satL l A' := fun c hc => by
  obtain ⟨n, hn, ht⟩ := hs c hc
  exact ⟨n, hn, (litT_congr h (hl c hc n hn)).1 ht⟩
theorem holds_iff {l : List (List Int)} (hl : InR l) (v : Nat) : holdsF l (isL v) = true ↔ satL l (asg v) := by
  unfold holdsF satL
  rw [List.all_eq_true]
  constructor
  · intro h c hc
    obtain ⟨n, hn, hm⟩ := List.any_eq_true.1 (h c hc)
    exact ⟨n, hn, (isL_mem (hl c hc n hn)).1 (by simpa using hm)⟩
  · intro h c hc
    obtain ⟨n, hn, hm⟩ := h c hc
    exact List.any_eq_true.2 ⟨n, hn, by simpa using (isL_mem (hl c hc n hn)).2 hm⟩
theorem six_bits : ∀ a b c d e f : Bool, ∃ v, v < 64 ∧ Nat.testBit v 0 = a ∧ Nat.testBit v 1 = b ∧ Nat.testBit v 2 = c ∧ Nat.testBit v 3 = d ∧ Nat.testBit v 4 = e ∧ Nat.testBit v 5 = f := fun a b c d e f => by
  refine ⟨a.toNat + 2 * b.toNat + 4 * c.toNat + 8 * d.toNat + 16 * e.toNat + 32 * f.toNat, ?_⟩
  cases a <;> cases b <;> cases c <;> cases d <;> cases e <;> cases f <;> decide
theorem asg_ex (A : Nat → Bool) : ∃ v, v < 64 ∧ ∀ u, 1 ≤ u → u ≤ 6 → asg v u = A u := by
  obtain ⟨v, hv, h1, h2, h3, h4, h5, h6⟩ := six_bits (A 1) (A 2) (A 3) (A 4) (A 5) (A 6)
  refine ⟨v, hv, fun u h7 h8 => ?_⟩
  unfold asg
  have : u = 1 ∨ u = 2 ∨ u = 3 ∨ u = 4 ∨ u = 5 ∨ u = 6 := by omega
  rcases this with rfl | rfl | rfl | rfl | rfl | rfl
  · exact h1
  · exact h2
  · exact h3
  · exact h4
  · exact h5
  · exact h6
theorem good_iff {l : List (List Int)} (hl : InR l) {v : Nat} : v ∈ goodI l ↔ v < 64 ∧ satL l (asg v) := by
  unfold goodI
  rw [List.mem_filter, List.mem_range, holds_iff hl]
theorem good_nodup (l : List (List Int)) : (goodI l).Nodup := List.nodup_range.filter _
/-- The model of a solver that has set all six. -/
theorem model_isL {s : St} (F : Full s) (hv7 : s.vars.length = 7) (hv : ∀ v : Nat, 1 ≤ v → v < s.vars.length → ∃ f, s.vars[v]? = some f ∧ f.lit ≠ 0) {v : Nat} (h : ∀ u, 1 ≤ u → u ≤ 6 → asg v u = wayOf s.trail u) : modelF s = isL v := by
  have W := F.base.wf
  unfold modelF
  apply List.ext_getElem?
  intro i
  rw [List.getElem?_map, List.getElem?_drop]
  by_cases hi : i < 6
  · rw [isL_at hi]
    obtain ⟨f, hf, hl⟩ := hv (1 + i) (by omega) (by omega)
    rw [hf]
    have hw := h (i + 1) (by omega) (by omega)
    unfold asg wayOf at hw
    rw [show i + 1 - 1 = i from by omega] at hw
    rw [hw]
    show some f.lit = _
    obtain h1 | ⟨h1, h2⟩ := W.val (1 + i) f hf
    · exact absurd h1 hl
    · congr 1
      by_cases hp : ((i + 1 : Nat) : Int) ∈ s.trail
      · rw [if_pos (by simpa using hp)]
        have : f.lit = (i : Int) + 1 ∨ f.lit = -((i : Int) + 1) := by omega
        rcases this with e | e
        · exact e
        · exfalso
          rw [e] at h2
          exact W.not_both hp (by rw [show -((i + 1 : Nat) : Int) = -((i : Int) + 1) from by omega]; exact h2)
      · rw [if_neg (by simpa using hp)]
        have : f.lit = (i : Int) + 1 ∨ f.lit = -((i : Int) + 1) := by omega
        rcases this with e | e
        · exfalso
          rw [e] at h2
          exact hp (by rw [show ((i + 1 : Nat) : Int) = (i : Int) + 1 from by omega]; exact h2)
        · exact e
  · rw [List.getElem?_eq_none (l := s.vars) (by omega), List.getElem?_eq_none (l := isL v) (by rw [isL_len]; omega)]; rfl
/-- A model is excluded by its literals' other ones. -/
theorem not_iff (A : Nat → Bool) (v : Nat) : (∃ n ∈ (isL v).map fun n => -n, litT A n) ↔ ∃ u, 1 ≤ u ∧ u ≤ 6 ∧ A u ≠ asg v u := by
  constructor
  · rintro ⟨n, hn, ht⟩
    obtain ⟨m, hm, rfl⟩ := List.mem_map.1 hn
    obtain ⟨m0, m6⟩ := isL_range m hm
    have h1 := (isL_mem ⟨m0, m6⟩).1 hm
    refine ⟨m.natAbs, by omega, m6, fun e => ?_⟩
    have h2 := (litT_neg m0).1 ht
    apply h2
    unfold litT at h1 ⊢
    rw [e]; exact h1
  · rintro ⟨u, h1, h2, h3⟩
    cases hb : asg v u with
    | true =>
      have hm : (u : Int) ∈ isL v := (isL_mem ⟨by omega, by omega⟩).2 (by unfold litT; rw [if_pos (by omega)]; exact hb)
      refine ⟨-(u : Int), List.mem_map.2 ⟨_, hm, rfl⟩, ?_⟩
      unfold litT
      rw [if_neg (by omega), show (-(u : Int)).natAbs = u from by omega]
      rw [hb] at h3
      simpa using h3
    | false =>
      have hm : -(u : Int) ∈ isL v := (isL_mem ⟨by omega, by omega⟩).2 (by unfold litT; rw [if_neg (by omega), show (-(u : Int)).natAbs = u from by omega]; exact hb)
      refine ⟨-(-(u : Int)), List.mem_map.2 ⟨_, hm, rfl⟩, ?_⟩
      unfold litT
      rw [if_pos (by omega), show (-(-(u : Int))).natAbs = u from by omega]
      rw [hb] at h3
      simpa using h3
/-- Between two rounds: which were found. -/
structure Cnt (l : List (List Int)) (F : List Nat) (s : St) : Prop where
  six : Six (fun A => satL l A ∧ ∀ j ∈ F, ∃ u, 1 ≤ u ∧ u ≤ 6 ∧ A u ≠ asg j u) (l.length + 2 + F.length) s
  v7 : s.vars.length = 7
  nd : F.Nodup
  good : ∀ j ∈ F, j ∈ goodI l
  conf : s.conflicts ≤ 1000 * (F.length : Int)
  added : s.added = (l.length : Int) + 2 + F.length
theorem Six.mod {Mod Mod' : (Nat → Bool) → Prop} {kc : Nat} {s : St} (h : Six Mod kc s) (e : ∀ A, Mod' A ↔ Mod A) : Six Mod' kc s :=
  ⟨h.rest, h.v7, h.cl, fun hb => (h.si hb).mod e, fun hb A hA => h.no hb A ((e A).1 hA), h.added, h.conf⟩
theorem good_len (l : List (List Int)) : (goodI l).length ≤ 64 := by
  have := List.length_filter_le (fun v => holdsF l (isL v)) (List.range 64)
  simpa [goodI] using this
theorem Cnt.len {l : List (List Int)} {F : List Nat} {s : St} (h : Cnt l F s) : F.length ≤ (goodI l).length := nodup_sub F (goodI l) h.nd h.good
/-- One round. -/
theorem count_round {l : List (List Int)} (hl : InR l) (hll : l.length ≤ 30) {F : List Nat} {s : St} (C : Cnt l F s) : ∃ a s', solveF 6001 s 0 [] = some ((a, 0), s') ∧
    ((a.sat = true ∧ F.length < (goodI l).length ∧ ∃ v ∈ goodI l, a.model = isL v ∧ ∃ s2, addF 6001 s' ((isL v).map fun n => -n) = some s2 ∧ Cnt l (v :: F) s2) ∨ (a.sat = false ∧ (goodI l).length ≤ F.length)) := by
  have hFl := C.len
  have hgl := good_len l
  have hcf := C.conf
  obtain ⟨a, s', h1, h2, h3, h4, h5, h6⟩ := solve_six 6001 (by decide) (by decide) C.six (by omega) (by omega)
  refine ⟨a, s', h1, ?_⟩
  rcases h6 with ⟨h7, h8, h9, ⟨h10, h11⟩, hF, hv⟩ | ⟨h7, _, h8⟩
  · left
    obtain ⟨v, hv64, hva⟩ := asg_ex (wayOf s'.trail)
    have hvg : v ∈ goodI l := (good_iff hl).2 ⟨hv64, satL_congr hl (fun u a b => (hva u a b).symm) h10⟩
    have hvF : v ∉ F := fun hm => by
      obtain ⟨u, u1, u2, u3⟩ := h11 v hm
      exact u3 (hva u u1 u2).symm
    have hlt : F.length < (goodI l).length := by
      have := nodup_sub (v :: F) (goodI l) (List.nodup_cons.2 ⟨hvF, C.nd⟩) fun x hx => by
        rcases List.mem_cons.1 hx with rfl | hx
        · exact hvg
        · exact C.good x hx
      simp only [List.length_cons] at this
      omega
    have hmod : a.model = isL v := by rw [h9]; exact model_isL hF (by rw [h3]; exact C.v7) hv hva
    have had := C.added
    obtain ⟨s2, g1, g2, g3, g4, g5, g6⟩ := add_six 6001 (by decide) h2 (by omega) (by rw [h4]; omega) ((isL v).map fun n => -n) (fun n hn => by
      obtain ⟨m, hm, rfl⟩ := List.mem_map.1 hn
      have := isL_range m hm
      omega)
    have hv7 : s2.vars.length = 7 := by have := g2.v7; have := C.v7; omega
    refine ⟨h7, hlt, v, hvg, hmod, s2, g1, ⟨?_, hv7, List.nodup_cons.2 ⟨hvF, C.nd⟩, fun j hj => ?_, by rw [g4]; simp only [List.length_cons]; omega, by rw [g3, h4, had]; simp only [List.length_cons]; omega⟩⟩
    · have e : l.length + 2 + (v :: F).length = l.length + 2 + F.length + 1 := by simp only [List.length_cons]; omega
      rw [e]
      refine g2.mod fun A => ?_
      rw [not_iff]
      constructor
      · rintro ⟨k1, k2⟩
        exact ⟨⟨k1, fun j hj => k2 j (List.mem_cons_of_mem _ hj)⟩, k2 v List.mem_cons_self⟩
      · rintro ⟨⟨k1, k2⟩, k3⟩
        refine ⟨k1, fun j hj => ?_⟩
        rcases List.mem_cons.1 hj with rfl | hj
        · exact k3
        · exact k2 j hj
    · rcases List.mem_cons.1 hj with rfl | hj
      · exact hvg
      · exact C.good j hj
  · right
    refine ⟨h7, nodup_sub (goodI l) F (good_nodup l) fun v hv => ?_⟩
    by_cases hm : v ∈ F
    · exact hm
    · exfalso
      obtain ⟨hv64, hvs⟩ := (good_iff hl).1 hv
      refine h8 (asg v) ⟨hvs, fun j hj => ?_⟩
      have hj64 := ((good_iff hl).1 (C.good j hj)).1
      by_cases he : ∃ u, 1 ≤ u ∧ u ≤ 6 ∧ asg v u ≠ asg j u
      · exact he
      · exfalso
        have hall : ∀ u, 1 ≤ u → u ≤ 6 → asg v u = asg j u := fun u a b => by
          by_cases h : asg v u = asg j u
          · exact h
          · exact absurd ⟨u, a, b, h⟩ he
        have : v = j := by
          apply Nat.eq_of_testBit_eq
          intro i
          by_cases hi : i < 6
          · have := hall (i + 1) (by omega) (by omega)
            unfold asg at this
            simpa using this
          · rw [Nat.testBit_lt_two_pow (x := v) (i := i) (Nat.lt_of_lt_of_le hv64 (Nat.pow_le_pow_right (n := 2) (by decide) (show 6 ≤ i by omega))), Nat.testBit_lt_two_pow (x := j) (i := i) (Nat.lt_of_lt_of_le hj64 (Nat.pow_le_pow_right (n := 2) (by decide) (show 6 ≤ i by omega)))]
        exact hm (this ▸ hj)
/-- Clauses, one by one. -/
theorem adds_six : ∀ (l : List (List Int)) (s : St) (Mod : (Nat → Bool) → Prop) (kc : Nat), Six Mod kc s → InR l → kc + l.length ≤ 900 → s.added + l.length < 1000000 →
    ∃ s', addsF 6001 s l = some s' ∧ Six (fun A => Mod A ∧ satL l A) (kc + l.length) s' ∧ s'.added = s.added + l.length ∧ s'.conflicts = s.conflicts ∧ s.vars.length ≤ s'.vars.length
  | [], s, Mod, kc, H, _, _, _ => ⟨s, rfl, H.mod fun A => ⟨fun h => h.1, fun h => ⟨h, fun c hc => (by cases hc)⟩⟩, by simp, rfl, Nat.le_refl _⟩
  | c :: r, s, Mod, kc, H, hl, hk, ha => by
    simp only [List.length_cons] at hk ha
    obtain ⟨s1, g1, g2, g3, g4, g5, g6⟩ := add_six 6001 (by decide) H (by omega) (by omega) c (hl c List.mem_cons_self)
    obtain ⟨s2, k1, k2, k3, k4, k5⟩ := adds_six r s1 _ (kc + 1) g2 (fun c' hc' => hl c' (List.mem_cons_of_mem _ hc')) (by omega) (by rw [g3]; omega)
    refine ⟨s2, ?_, ?_, by rw [k3, g3]; simp only [List.length_cons]; omega, k4.trans g4, by omega⟩
    · unfold addsF
      rw [g1]
      exact k1
    · have e : kc + (c :: r).length = kc + 1 + r.length := by simp only [List.length_cons]; omega
      rw [e]
      refine k2.mod fun A => ?_
      constructor
      · rintro ⟨h1, h2⟩
        exact ⟨⟨h1, h2 c List.mem_cons_self⟩, fun c' hc' => h2 c' (List.mem_cons_of_mem _ hc')⟩
      · rintro ⟨⟨h1, h2⟩, h3⟩
        refine ⟨h1, fun c' hc' => ?_⟩
        rcases List.mem_cons.1 hc' with rfl | hc'
        · exact h2
        · exact h3 c' hc'
theorem six_new : Six (fun _ => True) 0 Sat.new := by
  refine ⟨⟨new_full.base, fun _ => new_full⟩, by decide, by decide, fun _ => ⟨by decide, ⟨by decide, fun v a h => ?_⟩, ⟨fun c h => by simp [Sat.new] at h, by simp [Sat.new]⟩, by decide, fun A => ⟨fun _ => ⟨fun c x h => by simp [Sat.new] at h, fun i n h => by simp [Sat.new] at h⟩, fun _ => trivial⟩⟩, fun h => by simp [Sat.new] at h, by decide, by decide⟩
  have h1 := get_lt h
  have e : v = 0 := by simp [Sat.new] at h1; exact h1
  subst e
  simp [Sat.new] at h
  subst h
  exact ⟨by decide, by decide⟩
theorem count_start {l : List (List Int)} (hl : InR l) (hll : l.length ≤ 30) : ∃ s, addsF 6001 Sat.new ([1, -1] :: [6, -6] :: l) = some s ∧ Cnt l [] s := by
  obtain ⟨s1, g1, g2, g3, g4, g5, g6⟩ := add_six 6001 (by decide) six_new (by decide) (by decide) [1, -1] (fun n hn => by simp at hn; rcases hn with rfl | rfl <;> decide)
  obtain ⟨s2, k1, k2, k3, k4, k5, k6⟩ := add_six 6001 (by decide) g2 (by decide) (by rw [g3]; decide) [6, -6] (fun n hn => by simp at hn; rcases hn with rfl | rfl <;> decide)
  obtain ⟨s3, m1, m2, m3, m4, m5⟩ := adds_six l s2 _ (0 + 1 + 1) k2 hl (by omega) (by rw [k3, g3]; show (0 : Int) + 1 + 1 + _ < _; omega)
  have h6 := k6 6 (by simp)
  have hv7 : s3.vars.length = 7 := by have := m2.v7; have : (6 : Int).natAbs = 6 := rfl; omega
  refine ⟨s3, ?_, ⟨?_, hv7, by simp, fun j hj => (by cases hj), by rw [m4, k4, g4]; decide, by rw [m3, k3, g3]; show (0 : Int) + 1 + 1 + _ = _; simp; omega⟩⟩
  · unfold addsF
    rw [g1]
    simp only [Option.bind_some]
    unfold addsF
    rw [k1]
    simp only [Option.bind_some]
    exact m1
  · have e : l.length + 2 + ([] : List Nat).length = 0 + 1 + 1 + l.length := by simp; omega
    rw [e]
    refine m2.mod fun A => ⟨fun h => ⟨⟨⟨trivial, ?_⟩, ?_⟩, h.1⟩, fun h => ⟨h.2, fun j hj => (by cases hj)⟩⟩
    · by_cases h1 : litT A 1
      · exact ⟨1, by simp, h1⟩
      · exact ⟨-1, by simp, (litT_neg (by decide)).2 h1⟩
    · by_cases h1 : litT A 6
      · exact ⟨6, by simp, h1⟩
      · exact ⟨-6, by simp, (litT_neg (by decide)).2 h1⟩
end Go.Sat
