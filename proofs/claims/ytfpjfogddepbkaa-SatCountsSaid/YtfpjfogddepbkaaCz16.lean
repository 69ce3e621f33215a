/- The search where no conflict can arise, as plain data: it ends, and its answer is right. -/
import Derived.Test.YtfpjfogddepbkaaCz15
set_option linter.unusedSimpArgs false
set_option linter.unusedVariables false
namespace Go.Sat
/-- A literal is true. -/
def litT (A : Nat → Bool) (n : Int) : Prop := if 0 < n then A n.natAbs = true else A n.natAbs = false
theorem litT_neg {A : Nat → Bool} {n : Int} (h : n ≠ 0) : litT A (-n) ↔ ¬ litT A n := by
  unfold litT
  have e : (-n).natAbs = n.natAbs := by omega
  rw [e]
  by_cases h1 : 0 < n
  · rw [if_pos h1, if_neg (by omega)]; simp
  · rw [if_neg h1, if_pos (by omega)]; simp
def SatA (A : Nat → Bool) (s : St) : Prop := ∀ (c : Nat) x, s.cls[c]? = some x → ∃ m ∈ x.lits, litT A m
/-- The clauses are the same ones, each in some order. -/
structure CR (s s' : St) : Prop where
  len : s'.cls.length = s.cls.length
  perm : ∀ (c : Nat) x, s.cls[c]? = some x → ∃ x', s'.cls[c]? = some x' ∧ x'.lits.Perm x.lits
theorem CR.refl (s : St) : CR s s := ⟨rfl, fun c x h => ⟨x, h, List.Perm.refl _⟩⟩
theorem CR.trans {s s1 s2 : St} (h : CR s s1) (k : CR s1 s2) : CR s s2 := ⟨k.len.trans h.len, fun c x hx => by
  obtain ⟨x1, h1, h2⟩ := h.perm c x hx
  obtain ⟨x2, h3, h4⟩ := k.perm c x1 h1
  exact ⟨x2, h3, h4.trans h2⟩⟩
theorem CR.of_eq {s s' : St} (h : s'.cls = s.cls) : CR s s' := ⟨by rw [h], fun c x hx => ⟨x, by rw [h]; exact hx, List.Perm.refl _⟩⟩
theorem Ext.cr {s s' : St} (h : Ext s s') : CR s s' := ⟨h.clen, fun c x hx => by
  obtain ⟨x', h1, h2, _⟩ := h.cls c x hx
  exact ⟨x', h1, h2⟩⟩
theorem CR.back {s s' : St} (h : CR s s') {c : Nat} {x' : Cl} (hx : s'.cls[c]? = some x') : ∃ x, s.cls[c]? = some x ∧ x'.lits.Perm x.lits := by
  obtain ⟨x, hx2⟩ := get_some (l := s.cls) (i := c) (by rw [← h.len]; exact get_lt hx)
  obtain ⟨x2, h1, h2⟩ := h.perm c x hx2
  rw [hx] at h1
  cases h1
  exact ⟨x, hx2, h2⟩
theorem CR.sat {s s' : St} (h : CR s s') {A : Nat → Bool} (hA : SatA A s) : SatA A s' := fun c x hx => by
  obtain ⟨y, h1, h2⟩ := h.back hx
  obtain ⟨m, h3, h4⟩ := hA c y h1
  exact ⟨m, h2.mem_iff.2 h3, h4⟩
/-- What's propagated agrees with any way in which the clauses hold. -/
theorem Ext.agree {s s' : St} (E : Ext s s') (W : Wf s') {A : Nat → Bool} (hA : SatA A s) (ht : ∀ m ∈ s.trail, litT A m) : ∀ m ∈ s'.trail, litT A m := by
  have hA' := E.cr.sat hA
  have key : ∀ (k i : Nat) m, i < k → s'.trail[i]? = some m → litT A m := by
    intro k
    induction k with
    | zero => intro i m hi; omega
    | succ k ih =>
      intro i m hi hm
      by_cases h1 : i < s.trail.length
      · obtain ⟨m', hm'⟩ := get_some h1
        have h2 := E.at' hm'
        rw [hm] at h2
        cases h2
        exact ht m (List.mem_of_getElem? hm')
      · obtain ⟨h0, a, ha, _⟩ := W.mem m (List.mem_of_getElem? hm)
        have h2 := E.new i m a (by omega) hm ha
        cases hr : a.reason with
        | none => exact absurd hr h2
        | some c =>
          obtain ⟨_, x, hx, _, h4⟩ := W.rea i m a c hm ha hr
          obtain ⟨y, hy, hyt⟩ := hA' c x hx
          rcases h4 y hy with rfl | ⟨j, hj, hjt⟩
          · exact hyt
          · have h5 := ih j (-y) (by omega) hjt
            have hy0 := (W.cls c x hx).var y hy
            exact absurd hyt ((litT_neg hy0.1).1 h5)
  intro m hm
  obtain ⟨i, hi⟩ := List.mem_iff_getElem?.1 hm
  exact key (i + 1) i m (by omega) hi
/-- A clause that can't hold, where one holds. -/
theorem Conf.not_sat {s : St} {c : Nat} {A : Nat → Bool} (h : Conf s c) (W : Wf s) (hA : SatA A s) (ht : ∀ m ∈ s.trail, litT A m) : False := by
  obtain ⟨x, hx, h1⟩ := h
  obtain ⟨m, hm, hmt⟩ := hA c x hx
  have h2 := ht (-m) (h1 m hm)
  exact (litT_neg ((W.cls c x hx).var m hm).1).1 h2 hmt
/-- The literal that's decided, and what is assumed. -/
theorem AsmI.decide {assume : List Int} {s s' : St} {n : Int} (A : AsmI assume s) (D : Decided s n s') (hn : s.limits.length < assume.length → assume[s.limits.length]? = some n) : AsmI assume s' := by
  have hlv : ∀ i, i < s.trail.length → lvlAt s' i = lvlAt s i := fun i hi => by
    rw [← lvlUp_at s hi]; unfold lvlAt lvlUp; rw [D.limits]
  have htop : lvlAt s' s.trail.length = s.limits.length + 1 := by
    have h1 := D.ok.wf.lvl_top (i := s.trail.length) fun l hl => by
      rw [D.limits] at hl
      rcases List.mem_append.1 hl with hl | hl
      · have := (D.ok.wf.lim l (by rw [D.limits]; exact List.mem_append_left _ hl)).2
        have h2 := D.ok.wf.lim (s.trail.length : Int) (by rw [D.limits]; simp)
        have h3 := D.ok.wf.limo
        rw [D.limits, List.pairwise_append] at h3
        have := h3.2.2 l hl (s.trail.length : Int) (by simp)
        exact this
      · simp at hl; omega
    rw [h1, D.limits]; simp
  have hold : ∀ (i : Nat) m, s.trail[i]? = some m → s'.trail[i]? = some m := fun i m hm => by rw [D.trail, List.getElem?_append_left (get_lt hm)]; exact hm
  refine ⟨fun j m hj hm => ?_, fun i m hi hl hv => ?_⟩
  · rw [D.limits] at hj
    simp at hj
    by_cases h1 : j < s.limits.length
    · obtain ⟨i, h2, h3⟩ := A.tr j m h1 hm
      exact ⟨i, hold i m h2, by rw [hlv i (get_lt h2)]; exact h3⟩
    · have h2 : j = s.limits.length := by omega
      subst h2
      have h3 := hn (get_lt hm)
      rw [hm] at h3
      cases h3
      exact ⟨s.trail.length, by rw [D.trail, List.getElem?_append_right (Nat.le_refl _)]; simp, by rw [htop]; exact Nat.le_refl _⟩
  · rw [D.trail] at hi
    by_cases h1 : i < s.trail.length
    · rw [List.getElem?_append_left h1] at hi
      rw [hlv i h1] at hv
      rw [D.limits] at hl
      rcases List.mem_append.1 hl with hl | hl
      · exact A.dec i m hi hl hv
      · simp at hl; omega
    · rw [List.getElem?_append_right (by omega)] at hi
      have h2 := get_lt hi
      simp at h2
      have h3 : i = s.trail.length := by omega
      subst h3
      simp at hi
      subst hi
      rw [htop] at hv
      exact List.mem_of_getElem? (hn (by omega))
/-- Each literal on the trail is behind the first level's beginning. -/
def NoZero (s : St) : Prop := ∀ i, i < s.trail.length → 1 ≤ lvlAt s i
/-- What a search leaves as it was. -/
structure Left' (s s' : St) : Prop where
  cr : CR s s'
  vlen : s'.vars.length = s.vars.length
  learnt : s'.learnt = s.learnt
  conflicts : s'.conflicts = s.conflicts
  added : s'.added = s.added
  bump : s'.bump = s.bump
  broken : s'.broken = s.broken
theorem Left'.refl (s : St) : Left' s s := ⟨CR.refl s, rfl, rfl, rfl, rfl, rfl, rfl⟩
theorem Left'.trans {s s1 s2 : St} (h : Left' s s1) (k : Left' s1 s2) : Left' s s2 := ⟨h.cr.trans k.cr, k.vlen.trans h.vlen, k.learnt.trans h.learnt, k.conflicts.trans h.conflicts, k.added.trans h.added, k.bump.trans h.bump, k.broken.trans h.broken⟩
theorem Ext.left {s s' : St} (h : Ext s s') : Left' s s' := ⟨h.cr, h.vlen, h.learnt, h.conflicts, h.added, h.bump, h.broken⟩
theorem LimExt.left {s s' : St} (h : LimExt s s') : Left' s s' := by
  have e := h.eq
  exact ⟨CR.of_eq (by rw [e]), by rw [e], by rw [e], by rw [e], by rw [e], by rw [e], by rw [e]⟩
theorem Decided.left {s s' : St} {n : Int} (h : Decided s n s') : Left' s s' := ⟨CR.of_eq h.cls, h.vlen, h.learnt, h.conflicts, h.added, h.bump, h.broken⟩
/-- What an answer says of the solver behind it. -/
structure AnsOk (assume : List Int) (s : St) (a : Ans) : Prop where
  full : Full s
  asm : AsmI assume s
  yes : a.sat = true → assume.length ≤ s.limits.length ∧ a.model = modelF s ∧ a.core = [] ∧ ∀ v : Nat, 1 ≤ v → v < s.vars.length → ∃ f, s.vars[v]? = some f ∧ f.lit ≠ 0
  no : a.sat = false → (∃ n ∈ assume, -n ∈ s.trail) ∧ s.limits.length < assume.length ∧ a.core.Nodup ∧ ∀ m ∈ a.core, m ∈ assume
theorem NoZero.ext {s s' : St} (h : NoZero s) (E : Ext s s') (W : Wf s') (hl : s.head = s.trail.length ∧ s' = s ∨ s.limits ≠ []) (hlim : ∀ l ∈ s.limits, l ≤ (s.trail.length : Int)) : NoZero s' := fun i hi => by
  rcases hl with ⟨_, rfl⟩ | hl
  · exact h i hi
  · by_cases h1 : i < s.trail.length
    · rw [E.lvl]; exact h i h1
    · have h2 := W.lvl_top (i := i) fun l hl2 => by
        rw [E.limits] at hl2
        have := hlim l hl2
        omega
      rw [h2, E.limits]
      cases hs : s.limits with
      | nil => exact absurd hs hl
      | cons a r => simp
/-- The search, where no conflict can arise. -/
theorem search_nc (assume : List Int) (s0 : St) (fuel : Nat) (hfu : s0.vars.length < fuel)
    (hr : ∀ n ∈ assume, n ≠ 0 ∧ n.natAbs < s0.vars.length) (has : assume.length ≤ 1000000)
    (hadd : 0 ≤ s0.added ∧ s0.added ≤ 1099511627776) (hlr : s0.learnt.length ≤ 2000) (hbr : s0.broken = false)
    (hNC : ∀ t, Full t → Left' s0 t → ∀ n : Int, n ≠ 0 → n.natAbs < t.vars.length → n ∉ t.trail → -n ∉ t.trail → ∃ A, SatA A t ∧ (∀ m ∈ t.trail, litT A m) ∧ litT A n) :
    ∀ (K : Nat) (s : St) (count : Int), Ok s → Lm s → AsmI assume s → Left' s0 s → s.vars.length < K + s.trail.length → s.limits.length ≤ assume.length + s.trail.length →
      (s.head = s.trail.length ∨ (s.limits ≠ [] ∧ ∃ A, SatA A s ∧ ∀ m ∈ s.trail, litT A m)) →
      ∃ a s', searchF fuel 0 assume K s count = some ((a, 0), s') ∧ Left' s0 s' ∧ AnsOk assume s' a ∧ (NoZero s → NoZero s')
  | 0, s, _, H, _, _, L, hK, _, _ => by
    have := H.wf.tlen
    omega
  | K + 1, s, count, H, M, A, L, hK, hlm, hor => by
    have hb : s.broken = false := L.broken.trans hbr
    unfold searchF
    rw [hb]
    simp only [Bool.false_eq_true, if_false]
    obtain ⟨res, s1, h1, E, W1, T1, hnone, hsome⟩ := spread_ok fuel s H (by rw [L.vlen]; have := H.wf.head.1; omega)
    rw [h1]
    have hres : res = none := by
      cases res with
      | none => rfl
      | some c =>
        exfalso
        rcases hor with hh | ⟨_, A', h2, h3⟩
        · have hsp : spreadF fuel s = some (none, s) := by
            cases fuel with
            | zero => omega
            | succ k => unfold spreadF; rw [if_neg (by omega)]
          rw [hsp] at h1
          cases h1
        · exact (hsome c rfl).2.not_sat W1 (E.cr.sat h2) (E.agree W1 h2 h3)
    subst hres
    simp only
    obtain ⟨P1, hd1⟩ := hnone rfl
    have L1 : Left' s0 s1 := L.trans E.left
    have M1 : Lm s1 := ⟨by rw [E.limits]; exact M.one, fun h => by
      rw [E.limits] at h
      obtain ⟨t, e⟩ := E.trail
      rw [e]
      intro e2
      exact M.some' h (List.append_eq_nil_iff.1 e2).1⟩
    have F1 : Full s1 := ⟨⟨W1, T1, M1⟩, P1, hd1⟩
    have A1 := A.ext E W1
    have hg : (decide (0 ≤ s1.added ∧ s1.added ≤ 1099511627776)) = true := by rw [L1.added]; simpa using hadd
    rw [hg]
    simp only [Bool.true_eq_false, if_false]
    rw [if_neg (by rw [L1.added, L1.learnt]; omega)]
    have htl : s.trail.length ≤ s1.trail.length := by obtain ⟨t, e⟩ := E.trail; rw [e]; simp
    have hlim : ∀ l ∈ s.limits, l ≤ (s.trail.length : Int) := fun l hl => by have := (H.wf.lim l hl).2; have := H.wf.head; omega
    have hZ1 : NoZero s → NoZero s1 := fun hz => by
      rcases hor with hh | ⟨hl, _⟩
      · have hsp : spreadF fuel s = some (none, s) := by
          cases fuel with
          | zero => omega
          | succ k => unfold spreadF; rw [if_neg (by omega)]
        rw [hsp] at h1
        cases h1
        exact hz
      · exact hz.ext E W1 (.inr hl) hlim
    have hdec := decide_ok assume (assume.length + 2) s1 F1 A1 (fun n hn => by rw [L1.vlen]; exact hr n hn) (by omega) (by omega) (by omega)
    revert hdec
    generalize decideL (assume.length + 2) s1 assume = r
    intro hdec
    have hlvE : ∀ {t : St}, LimExt s1 t → Full t → NoZero s1 → NoZero t := fun {t} hE hF hz i hi => by
      have et : t.trail = s1.trail := by rw [hE.eq]
      have h2 := hz i (by rw [← et]; exact hi)
      obtain ⟨r, e⟩ := hE.pre
      have : lvlAt s1 i ≤ lvlAt t i := by
        unfold lvlAt
        rw [e, List.countP_append]
        omega
      omega
    cases hdec with
    | no n t hF hA hE hn ht hl =>
      simp only
      have Lt := L1.trans hE.left
      obtain ⟨o, h2, h3, h4⟩ := core_ok hF.base.wf assume n (by rw [Lt.vlen]; exact (hr n hn).2) hn
      rw [h2]
      exact ⟨⟨false, [], o⟩, t, rfl, Lt, ⟨hF, hA, (fun e => by cases e), fun _ => ⟨⟨n, hn, ht⟩, hl, h3, h4⟩⟩, fun hz => hlvE hE hF (hZ1 hz)⟩
    | all t hF hA hE hl hv _ =>
      simp only [if_true]
      have Lt := L1.trans hE.left
      have : roomB t.vars.length = true := room_ok hF.base.wf.siz
      rw [if_pos this]
      exact ⟨⟨true, modelF t, []⟩, t, rfl, Lt, ⟨hF, hA, fun _ => ⟨hl, rfl, rfl, hv⟩, (fun e => by cases e)⟩, fun hz => hlvE hE hF (hZ1 hz)⟩
    | set n t h p hF hA hE h0 hn hu hl hh hf ha =>
      simp only
      rw [if_neg h0]
      have Lt := L1.trans hE.left
      have et : t.trail = s1.trail := by rw [hE.eq]
      have hlt : t.limits.length ≤ assume.length + s1.trail.length := by
        rw [E.limits] at hl
        omega
      have htn := hF.base.wf.tlen
      have hsz := hF.base.wf.siz
      have : roomB t.limits.length = true := by
        unfold roomB
        rw [et] at htn
        simp; omega
      rw [this]
      simp only [Bool.true_eq_false, if_false]
      obtain ⟨s2, h2, D⟩ := hF.decide (h := h) (p := p) h0 hn hu hh hf
      have e2 : setF { t with heap := h, place := p, limits := t.limits ++ [(t.trail.length : Int)] } n none = some s2 := h2
      rw [e2]
      simp only [Option.bind_some]
      have L2 := Lt.trans D.left
      obtain ⟨A', h5, h6, h7⟩ := hNC t hF Lt n h0 hn hu.1 hu.2
      have tl2 : s2.trail.length = t.trail.length + 1 := by rw [D.trail]; simp
      obtain ⟨a, s', h8, h9, h10, h11⟩ := search_nc assume s0 fuel hfu hr has hadd hlr hbr hNC K s2 count D.ok D.lm (hA.decide D ha) L2 (by rw [L2.vlen]; rw [L.vlen] at hK; rw [tl2, et]; omega) (by rw [D.limits, tl2]; simp; rw [et]; omega) (.inr ⟨by rw [D.limits]; simp, A', (CR.of_eq D.cls).sat h5, fun m hm => by
        rw [D.trail] at hm
        rcases List.mem_append.1 hm with hm | hm
        · exact h6 m hm
        · simp at hm; rw [hm]; exact h7⟩)
      refine ⟨a, s', h8, h9, h10, fun hz => h11 fun i hi => ?_⟩
      have hzt := hlvE hE hF (hZ1 hz)
      by_cases h12 : i < t.trail.length
      · have : lvlAt s2 i = lvlAt t i := by rw [← lvlUp_at t h12]; unfold lvlAt lvlUp; rw [D.limits]
        rw [this]; exact hzt i h12
      · have h13 := D.ok.wf.lvl_top (i := i) fun l hl => by
          have := (D.ok.wf.lim l hl).2
          have := D.head
          have := hF.hd
          omega
        rw [h13, D.limits]; simp
end Go.Sat
/- A clause more, as plain data. -/
namespace Go.Sat
section
variable {s s' : St}
theorem Base.room (H : Base s) (k : Int) : (watched s k).length ≤ 1000000 := by
  have := nodup_bound s.cls.length (watched s k) (H.wt.nd k) fun d hd => by
    obtain ⟨x, _, _, _, h2, _⟩ := (H.wt.mem k d).1 hd
    exact get_lt h2
  have := H.wf.csz
  omega
/-- A new clause, watched. -/
theorem watch_new (H : Base s) (hc : s.cls.length < 1000000) {x : Cl} (ho : ClOk s.vars.length x.lits) : ∃ s', watchF { s with cls := s.cls ++ [x] } s.cls.length = some s' ∧ s' = { s with cls := s.cls ++ [x], watches := s'.watches } ∧ Base s' := by
  obtain ⟨a, b, r, hl⟩ : ∃ a b r, x.lits = a :: b :: r := by
    have := ho.two
    match h : x.lits with
    | [] => rw [h] at this; simp at this
    | [_] => rw [h] at this; simp at this
    | a :: b :: r => exact ⟨a, b, r, rfl⟩
  have hv := ho.var
  have hn := ho.nd
  rw [hl] at hv hn
  obtain ⟨a0, a1⟩ := hv a (by simp)
  obtain ⟨b0, b1⟩ := hv b (by simp)
  have hab : a.natAbs ≠ b.natAbs := by simp at hn; exact hn.1.1
  have hsz := H.wf.siz
  have hget : ∀ (d : Nat), (s.cls ++ [x])[d]? = if d = s.cls.length then some x else s.cls[d]? := fun d => by
    by_cases e : d = s.cls.length
    · subst e; simp
    · rw [if_neg e]
      by_cases h1 : d < s.cls.length
      · rw [List.getElem?_append_left h1]
      · rw [List.getElem?_eq_none (by simp; omega), List.getElem?_eq_none (by omega)]
  have hx : (s.cls ++ [x])[s.cls.length]? = some x := by rw [hget, if_pos rfl]
  unfold watchF
  simp only [hx, Option.map_some, hl]
  have r1 : roomB (watched s (-a)).length = true := by have := H.room (-a); unfold roomB; simp; omega
  have p1 : putW { s with cls := s.cls ++ [x] } (-a) s.cls.length = some { s with cls := s.cls ++ [x], watches := Mem.mput s.watches (-a) (watched s (-a) ++ [s.cls.length]) } := by
    unfold putW
    have e : watched { s with cls := s.cls ++ [x] } (-a) = watched s (-a) := rfl
    rw [e, sml_iff.2 (by omega), r1]; rfl
  rw [p1]
  simp only [Option.bind_some]
  have e2 : watched { s with cls := s.cls ++ [x], watches := Mem.mput s.watches (-a) (watched s (-a) ++ [s.cls.length]) } (-b) = watched s (-b) := by
    have := watched_put s (-a) (-b) (watched s (-a) ++ [s.cls.length])
    rw [if_neg (by omega)] at this
    exact this
  have r2 : roomB (watched s (-b)).length = true := by have := H.room (-b); unfold roomB; simp; omega
  obtain ⟨t, ht⟩ : ∃ t : St, t = { s with cls := s.cls ++ [x], watches := Mem.mput (Mem.mput s.watches (-a) (watched s (-a) ++ [s.cls.length])) (-b) (watched s (-b) ++ [s.cls.length]) } := ⟨_, rfl⟩
  have p2 : putW { s with cls := s.cls ++ [x], watches := Mem.mput s.watches (-a) (watched s (-a) ++ [s.cls.length]) } (-b) s.cls.length = some t := by
    unfold putW
    rw [e2, sml_iff.2 (by omega), r2, ht]; rfl
  have hnew : ∀ k, s.cls.length ∉ watched s k := fun k hk => by
    obtain ⟨y, _, _, _, h1, _⟩ := (H.wt.mem k _).1 hk
    have := get_lt h1; omega
  have hw : ∀ k, watched t k = if -b = k then watched s (-b) ++ [s.cls.length] else if -a = k then watched s (-a) ++ [s.cls.length] else watched s k := fun k => by
    have h1 := watched_put { s with cls := s.cls ++ [x], watches := Mem.mput s.watches (-a) (watched s (-a) ++ [s.cls.length]) } (-b) k (watched s (-b) ++ [s.cls.length])
    have h2 := watched_put s (-a) k (watched s (-a) ++ [s.cls.length])
    rw [ht]
    refine h1.trans ?_
    by_cases e : -b = k
    · rw [if_pos e, if_pos e]
    · rw [if_neg e, if_neg e]; exact h2
  have tc : t.cls = s.cls ++ [x] := by rw [ht]
  refine ⟨t, p2, by rw [ht], ⟨?_, ⟨fun k d => ?_, fun k => ?_⟩, by rw [ht]; exact ⟨H.lm.one, H.lm.some'⟩⟩⟩
  · have W := H.wf
    rw [ht]
    refine ⟨W.hp, W.siz, by show (s.cls ++ [x]).length ≤ _; simp; omega, W.val, W.mem, W.nd, W.free, W.lim, W.limo, W.head, fun c y hy => ?_, W.lev, fun i n f c hi hf hr => ?_, W.dec⟩
    · have hy' : (s.cls ++ [x])[c]? = some y := hy
      rw [hget] at hy'
      by_cases e : c = s.cls.length
      · rw [if_pos e] at hy'; cases hy'; exact ho
      · rw [if_neg e] at hy'; exact W.cls c y hy'
    · obtain ⟨h1, h2⟩ := W.rea i n f c hi hf hr
      refine ⟨h1, h2.mono (fun _ _ _ h => h) fun y hy => ⟨y, ?_, fun _ => Iff.rfl⟩⟩
      show (s.cls ++ [x])[c]? = _
      rw [hget, if_neg (by have := get_lt hy; omega)]; exact hy
  · rw [hw]
    by_cases e : d = s.cls.length
    · subst e
      have hh : Head2 t s.cls.length k ↔ (k = -a ∨ k = -b) := by
        constructor
        · rintro ⟨y, a', b', r', h1, h2, h3⟩
          rw [tc, hx] at h1
          cases h1
          rw [hl] at h2
          cases h2
          exact h3
        · intro h
          exact ⟨x, a, b, r, by rw [tc]; exact hx, hl, h⟩
      rw [hh]
      by_cases e1 : -b = k
      · rw [if_pos e1]
        constructor
        · intro _; exact .inr e1.symm
        · intro _; simp
      · rw [if_neg e1]
        by_cases e3 : -a = k
        · rw [if_pos e3]
          constructor
          · intro _; exact .inl e3.symm
          · intro _; simp
        · rw [if_neg e3]
          constructor
          · intro h; exact absurd h (hnew k)
          · rintro (h | h)
            · exact absurd h.symm e3
            · exact absurd h.symm e1
    · have hh : Head2 t d k ↔ Head2 s d k := by
        have : t.cls[d]? = s.cls[d]? := by rw [tc, hget, if_neg e]
        unfold Head2
        rw [this]
      rw [hh, ← H.wt.mem k d]
      by_cases e1 : -b = k
      · rw [if_pos e1, e1]; simp [e]
      · rw [if_neg e1]
        by_cases e3 : -a = k
        · rw [if_pos e3, e3]; simp [e]
        · rw [if_neg e3]
  · have hap : ∀ k, (watched s k ++ [s.cls.length]).Nodup := fun k => by
      refine List.nodup_append.2 ⟨H.wt.nd k, by simp, fun u hu v hv e => ?_⟩
      simp at hv
      rw [e, hv] at hu
      exact hnew k hu
    rw [hw]
    split
    · exact hap _
    · split
      · exact hap _
      · exact H.wt.nd k
/-- A clause that is new, neither of whose first two is false. -/
theorem PiAll.new {x : Cl} (h : PiAll s) (ec : s'.cls = s.cls ++ [x]) (et : s'.trail = s.trail) (el : s'.limits = s.limits) (eh : s'.head = s.head) (hx : ∀ a b r, x.lits = a :: b :: r → -a ∉ s.trail ∧ -b ∉ s.trail) : PiAll s' := by
  intro d y a b r hy hyl u o huo j hj htj _
  rw [ec] at hy
  rw [et] at htj
  by_cases h1 : d < s.cls.length
  · rw [List.getElem?_append_left h1] at hy
    obtain ⟨i, h2, h3⟩ := h d y a b r hy hyl u o huo j (by omega) htj trivial
    refine ⟨i, by rw [et]; exact h2, ?_⟩
    unfold lvlAt at h3 ⊢
    rw [el]; exact h3
  · rw [List.getElem?_append_right (by omega)] at hy
    have h2 := get_lt hy
    simp at h2
    have h3 : d - s.cls.length = 0 := by omega
    rw [h3] at hy
    simp at hy
    subst hy
    obtain ⟨h4, h5⟩ := hx a b r hyl
    have h6 := List.mem_of_getElem? htj
    rcases huo with ⟨rfl, _⟩ | ⟨rfl, _⟩
    · exact absurd h6 h4
    · exact absurd h6 h5
theorem clash_iff (l c : List Int) : clashF l c = true ↔ ∃ n ∈ l, n ≠ -n ∧ -n ∈ c := by
  induction l with
  | nil => simp [clashF]
  | cons a r ih => unfold clashF; simp [ih]
/-- Literals rising, each once, none with its other one: a clause's, if there are two of them. -/
theorem srt_ok {l : List Int} {nv : Nat} (h0 : ∀ n ∈ l, n ≠ 0 ∧ n.natAbs < nv) (hc : clashF (sortedF l) (sortedF l) = false) (p : Int → Bool) : (((sortedF l).filter p).map Int.natAbs).Nodup ∧ ∀ n ∈ (sortedF l).filter p, n ≠ 0 ∧ n.natAbs < nv := by
  have hno : ∀ n ∈ sortedF l, ∀ m ∈ sortedF l, n ≠ m → n.natAbs ≠ m.natAbs := fun n hn m hm hne e => by
    have h1 : m = -n := by omega
    have h2 := h0 n ((srt_mem l n).1 hn)
    have : clashF (sortedF l) (sortedF l) = true := (clash_iff _ _).2 ⟨n, hn, by omega, by rw [← h1]; exact hm⟩
    rw [hc] at this; cases this
  refine ⟨?_, fun n hn => h0 n ((srt_mem l n).1 (List.mem_filter.1 hn).1)⟩
  have hnd := (srt_nodup l).filter p
  unfold List.Nodup at hnd ⊢
  rw [List.pairwise_map]
  exact List.Pairwise.imp_of_mem (fun {n m} hn hm hne => hno n (List.mem_filter.1 hn).1 m (List.mem_filter.1 hm).1 hne) hnd
/-- What a clause more may do, where all before it is propagated. -/
inductive AddR (fuel : Nat) (s : St) (lits : List Int) : St → Prop
  | taut (hn : ∃ n ∈ lits, n ≠ 0 ∧ -n ∈ lits) : AddR fuel s lits s
  | sat (hn : ∃ n ∈ lits, n ∈ s.trail) : AddR fuel s lits s
  | empty (hn : ∀ n ∈ lits, -n ∈ s.trail) : AddR fuel s lits { s with broken := true }
  | unit (n : Int) (s3 : St) (hn : n ∈ lits) (h : ∀ m ∈ lits, m = n ∨ -m ∈ s.trail) (hu : n ∉ s.trail ∧ -n ∉ s.trail) (h3 : setF s n none = some s3) (H3 : Wf s3) (L3 : Left' s s3) (t3 : s3.trail = s.trail ++ [n]) (c3 : s3.cls = s.cls) (lim3 : s3.limits = s.limits) (w3 : s3.watches = s.watches) (hb : s3.broken = true) : AddR fuel s lits s3
  | spread (n : Int) (s3 s4 : St) (res : Option Nat) (hn : n ∈ lits) (h : ∀ m ∈ lits, m = n ∨ -m ∈ s.trail) (hu : n ∉ s.trail ∧ -n ∉ s.trail) (W3 : Wf s3) (t3 : s3.trail = s.trail ++ [n]) (c3 : s3.cls = s.cls) (l3 : Left' s s3) (lim3 : s3.limits = s.limits) (old3 : ∀ m ∈ s.trail, s3.vars[m.natAbs]? = s.vars[m.natAbs]?) (sc3 : ∀ v : Nat, (s3.vars[v]?).map (·.score) = (s.vars[v]?).map (·.score)) (E : Ext s3 s4) (W4 : Wf s4) (T4 : Wt s4 (watched s4)) (hnone : res = none → PiAll s4 ∧ s4.head = s4.trail.length) (hsome : ∀ c, res = some c → Conf s4 c) (hb3 : s3.broken = false) : AddR fuel s lits { s4 with broken := res.isSome }
  | cls (o : List Int) (s' : St) (ho : ClOk s.vars.length o) (h : ∀ m, m ∈ o ↔ m ∈ lits ∧ -m ∉ s.trail) (hno : ∀ m ∈ lits, m ∉ s.trail) (e : s' = { s with cls := s.cls ++ [⟨o, false, 0⟩], watches := s'.watches }) (H : Base s') (hs : o.Sublist (sortedF lits)) : AddR fuel s lits s'
/-- A literal set at the bottom. -/
theorem Wf.set0 (H : Wf s) (hl : s.limits = []) {n : Int} (h0 : n ≠ 0) (hn : n.natAbs < s.vars.length) (hu : n ∉ s.trail ∧ -n ∉ s.trail) : ∃ s3, setF s n none = some s3 ∧ Wf s3 ∧ s3.trail = s.trail ++ [n] ∧ s3.cls = s.cls ∧ Left' s s3 ∧ s3.limits = s.limits ∧ s3.head = s.head ∧ s3.watches = s.watches ∧ (∀ m ∈ s.trail, s3.vars[m.natAbs]? = s.vars[m.natAbs]?) ∧ ∀ v : Nat, (s3.vars[v]?).map (·.score) = (s.vars[v]?).map (·.score) := by
  obtain ⟨t, a, b, h1, h2, h3, h4, h5⟩ := H.set (why := none) h0 hn hu (fun c e => by cases e) (fun _ => .inr hl)
  refine ⟨t, h1, h5, by rw [h2], by rw [h2], ?_, by rw [h2], by rw [h2], by rw [h2], fun m hm => ?_, fun v => ?_⟩
  · rw [h2]; exact ⟨CR.of_eq rfl, by simp, rfl, rfl, rfl, rfl, rfl⟩
  · rw [h2]
    simp only
    rw [set_get, if_neg]
    intro e
    have : m = n ∨ m = -n := by omega
    rcases this with rfl | rfl
    · exact hu.1 hm
    · exact hu.2 hm
  · rw [h2]
    simp only
    rw [set_get]
    by_cases e : n.natAbs = v
    · rw [if_pos e, if_pos (by rw [← e]; exact hn), ← e, h3, h4]; rfl
    · rw [if_neg e]
/-- The part of Add behind growing. -/
theorem add_core (fuel : Nat) (lits : List Int) (H : Base s) (hl : s.limits = []) (hF : s.broken = false → Full s) (hc : s.cls.length < 1000000) (h0 : ∀ n ∈ lits, n ≠ 0 ∧ n.natAbs < s.vars.length) (hfu : s.vars.length < fuel) :
    ∃ s', (match cleanF lits with
      | none => some s
      | some c =>
        if knownF s c = false then none else
        if c.any (litF s 1) then some s else
        match c.filter fun n => !litF s (-1) n with
        | [] => some { s with broken := true }
        | [n] =>
          match setF s n none with
          | none => none
          | some s3 => if s3.broken then some s3 else (spreadF fuel s3).map fun r => { r.2 with broken := r.1.isSome }
        | o => watchF { s with cls := s.cls ++ [⟨o, false, 0⟩] } s.cls.length) = some s' ∧ AddR fuel s lits s' := by
  have W := H.wf
  unfold cleanF
  by_cases hcl : clashF (sortedF lits) (sortedF lits) = true
  · rw [if_pos hcl]
    obtain ⟨n, h1, h2, h3⟩ := (clash_iff _ _).1 hcl
    exact ⟨s, rfl, .taut ⟨n, (srt_mem lits n).1 h1, (h0 n ((srt_mem lits n).1 h1)).1, (srt_mem lits _).1 h3⟩⟩
  · rw [if_neg hcl]
    simp only
    rw [Bool.not_eq_true] at hcl
    have hs0 : ∀ n ∈ sortedF lits, n ≠ 0 ∧ n.natAbs < s.vars.length := fun n hn => h0 n ((srt_mem lits n).1 hn)
    have hkn : knownF s (sortedF lits) = true := by
      unfold knownF
      rw [List.all_eq_true]
      intro n hn
      obtain ⟨a, b⟩ := hs0 n hn
      rcases W.value a b with ⟨e, _⟩ | ⟨e, _⟩ | ⟨e, _⟩ <;> rw [e] <;> rfl
    rw [hkn]
    simp only [Bool.true_eq_false, if_false]
    have hval : ∀ n ∈ sortedF lits, (litF s 1 n = true ↔ n ∈ s.trail) ∧ (litF s (-1) n = true ↔ -n ∈ s.trail) := fun n hn => by
      obtain ⟨a, b⟩ := hs0 n hn
      unfold litF
      rcases W.value a b with ⟨e, h1, h2⟩ | ⟨e, h1, h2⟩ | ⟨e, h1, h2⟩ <;> rw [e] <;> simp [h1, h2]
    by_cases hany : (sortedF lits).any (litF s 1) = true
    · rw [if_pos hany]
      obtain ⟨n, h1, h2⟩ := List.any_eq_true.1 hany
      exact ⟨s, rfl, .sat ⟨n, (srt_mem lits n).1 h1, (hval n h1).1.1 h2⟩⟩
    · rw [if_neg hany]
      have hno : ∀ m ∈ lits, m ∉ s.trail := fun m hm ht => hany (List.any_eq_true.2 ⟨m, (srt_mem lits m).2 hm, (hval m ((srt_mem lits m).2 hm)).1.2 ht⟩)
      have hmem : ∀ m, m ∈ (sortedF lits).filter (fun n => !litF s (-1) n) ↔ m ∈ lits ∧ -m ∉ s.trail := fun m => by
        rw [List.mem_filter, srt_mem]
        constructor
        · rintro ⟨h1, h2⟩
          refine ⟨h1, fun h3 => ?_⟩
          rw [(hval m ((srt_mem lits m).2 h1)).2.2 h3] at h2
          cases h2
        · rintro ⟨h1, h2⟩
          refine ⟨h1, ?_⟩
          cases h3 : litF s (-1) m with
          | false => rfl
          | true => exact absurd ((hval m ((srt_mem lits m).2 h1)).2.1 h3) h2
      obtain ⟨hnd, hvr⟩ := srt_ok h0 hcl fun n => !litF s (-1) n
      obtain ⟨o, ho⟩ : ∃ o, o = (sortedF lits).filter fun n => !litF s (-1) n := ⟨_, rfl⟩
      have hsub : o.Sublist (sortedF lits) := by rw [ho]; exact List.filter_sublist
      rw [← ho] at hmem hnd hvr ⊢
      clear ho
      match o, hmem, hnd, hvr, hsub with
      | [], hmem, _, _, _ =>
        refine ⟨_, rfl, .empty fun n hn => ?_⟩
        by_cases h1 : -n ∈ s.trail
        · exact h1
        · have := (hmem n).2 ⟨hn, h1⟩; cases this
      | [n], hmem, _, hvr, _ =>
        obtain ⟨n0, n1⟩ := hvr n (by simp)
        obtain ⟨hn1, hn2⟩ := (hmem n).1 (by simp)
        have hothers : ∀ m ∈ lits, m = n ∨ -m ∈ s.trail := fun m hm => by
          by_cases h1 : -m ∈ s.trail
          · exact .inr h1
          · have := (hmem m).2 ⟨hm, h1⟩
            simp at this
            exact .inl this
        obtain ⟨s3, h3, W3, t3, c3, L3, l3, hd3, w3, old3, sc3⟩ := W.set0 hl n0 n1 ⟨hno n hn1, hn2⟩
        simp only [h3]
        by_cases hb : s3.broken = true
        · rw [if_pos hb]
          exact ⟨s3, rfl, .unit n s3 hn1 hothers ⟨hno n hn1, hn2⟩ h3 W3 L3 t3 c3 l3 w3 hb⟩
        · rw [if_neg hb]
          have hbs : s.broken = false := by rw [← L3.broken]; simpa using hb
          have F := hF hbs
          have O3 : Ok s3 := ⟨W3, F.base.wt.of_eq c3 w3, fun d y a b r hy hyl u o huo j hj htj _ => by
            rw [c3] at hy
            rw [hd3] at hj
            have hjl : j < s.trail.length := by have := F.hd; omega
            rw [t3, List.getElem?_append_left hjl] at htj
            obtain ⟨i, h4, h5⟩ := F.pi d y a b r hy hyl u o huo j hj htj trivial
            refine ⟨i, by rw [t3, List.getElem?_append_left (get_lt h4)]; exact h4, ?_⟩
            unfold lvlAt at h5 ⊢
            rw [l3]; exact h5⟩
          obtain ⟨res, s4, h4, E, W4, T4, hnone, hsome⟩ := spread_ok fuel s3 O3 (by rw [L3.vlen]; have := W3.head.1; omega)
          rw [h4]
          simp only [Option.map_some]
          exact ⟨_, rfl, .spread n s3 s4 res hn1 hothers ⟨hno n hn1, hn2⟩ W3 t3 c3 L3 l3 old3 sc3 E W4 T4 hnone (fun c e => (hsome c e).2) (by simpa using hb)⟩
      | a :: b :: r, hmem, hnd, hvr, hsub =>
        have hok : ClOk s.vars.length (a :: b :: r) := ⟨by simp, hvr, hnd⟩
        obtain ⟨s', h1, h2, h3⟩ := watch_new H hc (x := ⟨a :: b :: r, false, 0⟩) hok
        exact ⟨s', h1, .cls (a :: b :: r) s' hok hmem hno h2 h3 hsub⟩
end
end Go.Sat
/- Add and Solve, as plain data: they end; a solver of one clause at most. -/
namespace Go.Sat
/-- A solver between calls: whole; propagated, if it isn't broken. -/
structure Rest (s : St) : Prop where
  base : Base s
  full : s.broken = false → Full s
theorem take_head {s s1 : St} {L : Nat} (B : Back s L s1) (hl : L < s.limits.length) : s1.head = s1.trail.length := by
  obtain ⟨m, h1, h2, _⟩ := B.trail
  have h3 := B.wf.head.2
  rw [h2 hl] at h3 ⊢
  have h4 : s1.trail.length ≤ m := by rw [h1, List.length_take]; omega
  omega
/-- Back at the bottom. -/
theorem bottom {s : St} (H : Rest s) : ∃ s1, backF s 0 = some s1 ∧ Back s 0 s1 ∧ Rest s1 ∧ s1.limits = [] := by
  obtain ⟨s1, h1, B⟩ := back_ok H.base.wf H.base.lm 0
  have h1' : backF s 0 = some s1 := h1
  refine ⟨s1, h1', B, ⟨⟨B.wf, H.base.wt.of_eq B.cls B.watches, B.lm⟩, fun hb => ?_⟩, by rw [B.limits]; simp⟩
  have F := H.full (by rw [← B.broken]; exact hb)
  by_cases hl : 0 < s.limits.length
  · exact ⟨⟨B.wf, F.base.wt.of_eq B.cls B.watches, B.lm⟩, B.pi (.inr F.pi) hl, take_head B hl⟩
  · rw [B.same (by omega)]; exact F
theorem Grown.rest {s s' : St} (H : Rest s) (g : Grown s s') (hs : s'.vars.length ≤ 1048577) : Rest s' :=
  ⟨g.base H.base hs, fun hb => g.full (H.full (by obtain ⟨m, e⟩ := g.eq; rw [e] at hb; exact hb)) hs⟩
theorem Wf.same {s : St} (H : Wf s) (b : Bool) (a : Int) : Wf { s with broken := b, added := a } := ⟨H.hp, H.siz, H.csz, H.val, H.mem, H.nd, H.free, H.lim, H.limo, H.head, H.cls, H.lev, H.rea, H.dec⟩
theorem Base.same {s : St} (H : Base s) (b : Bool) (a : Int) : Base { s with broken := b, added := a } := ⟨H.wf.same b a, H.wt.of_eq rfl rfl, ⟨H.lm.one, H.lm.some'⟩⟩
theorem Full.same {s : St} (H : Full s) (b : Bool) (a : Int) : Full { s with broken := b, added := a } := ⟨H.base.same b a, H.pi.of_eq rfl rfl rfl (Int.le_refl _), H.hd⟩
/-- What Add leaves. -/
structure AddPost (s s' : St) : Prop where
  rest : Rest s'
  limits : s'.limits = []
  added : s'.added = s.added
  learnt : s'.learnt = s.learnt
  conflicts : s'.conflicts = s.conflicts
  bump : s'.bump = s.bump
  vlen : s'.vars.length = s.vars.length
  clen : s'.cls.length ≤ s.cls.length + 1
theorem AddR.post {fuel : Nat} {s s' : St} {lits : List Int} (h : AddR fuel s lits s') (H : Rest s) (hl : s.limits = []) : AddPost s s' := by
  cases h with
  | taut hn => exact ⟨H, hl, rfl, rfl, rfl, rfl, rfl, by omega⟩
  | sat hn => exact ⟨H, hl, rfl, rfl, rfl, rfl, rfl, by omega⟩
  | empty hn => exact ⟨⟨H.base.same true s.added, fun e => by cases e⟩, hl, rfl, rfl, rfl, rfl, rfl, by show s.cls.length ≤ _; omega⟩
  | unit n s3 hn h hu h3 H3 L3 t3 c3 lim3 w3 hb => exact ⟨⟨⟨H3, H.base.wt.of_eq c3 w3, ⟨fun j l hj hjl => by rw [lim3, hl] at hjl; simp at hjl, fun e => absurd (lim3.trans hl) e⟩⟩, fun e => by rw [hb] at e; cases e⟩, lim3.trans hl, L3.added, L3.learnt, L3.conflicts, L3.bump, L3.vlen, by rw [c3]; omega⟩
  | spread n s3 s4 res hn h hu W3 t3 c3 l3 lim3 old3 sc3 E W4 T4 hnone hsome hb3 =>
    have hl4 : s4.limits = [] := by rw [E.limits, lim3]; exact hl
    have B4 : Base s4 := ⟨W4, T4, ⟨fun j l hj hjl => by rw [hl4] at hjl; simp at hjl, fun e => absurd hl4 e⟩⟩
    refine ⟨⟨B4.same res.isSome s4.added, fun e => ?_⟩, hl4, E.added.trans l3.added, E.learnt.trans l3.learnt, E.conflicts.trans l3.conflicts, E.bump.trans l3.bump, E.vlen.trans l3.vlen, by show s4.cls.length ≤ _; rw [E.clen, c3]; omega⟩
    cases res with
    | some c => cases e
    | none =>
      obtain ⟨h1, h2⟩ := hnone rfl
      exact Full.same ⟨B4, h1, h2⟩ false s4.added
  | cls o s' ho h hno e H' hs =>
    refine ⟨⟨H', fun hb => ?_⟩, by rw [e]; exact hl, by rw [e], by rw [e], by rw [e], by rw [e], by rw [e], by rw [e]; simp⟩
    have F := H.full (by rw [e] at hb; exact hb)
    refine ⟨H', F.pi.new (x := ⟨o, false, 0⟩) (by rw [e]) (by rw [e]) (by rw [e]) (by rw [e]) fun a b r hab => ?_, by rw [e]; exact F.hd⟩
    have hab' : o = a :: b :: r := hab
    exact ⟨((h a).1 (by rw [hab']; simp)).2, ((h b).1 (by rw [hab']; simp)).2⟩
theorem add_ok2 (fuel : Nat) (s : St) (lits : List Int) (B : Nat) (H : Rest s) (hadd : 0 ≤ s.added ∧ s.added ≤ 1099511627776) (hc : s.cls.length < 1000000) (h0 : ∀ n ∈ lits, n ≠ 0 ∧ n.natAbs ≤ B) (hB : B ≤ 1048576) (hfu : max s.vars.length (B + 1) < fuel) :
    ∃ s1 s2 s', Back { s with added := s.added + 1 } 0 s1 ∧ Grown s1 s2 ∧ s2.vars.length ≤ max s.vars.length (B + 1) ∧ Rest s2 ∧ s2.limits = [] ∧ addF fuel s lits = some s' ∧ AddR fuel s2 lits s' ∧ ∀ n ∈ lits, n.natAbs < s2.vars.length := by
  have H1 : Rest { s with added := s.added + 1 } := ⟨H.base.same s.broken (s.added + 1), fun hb => (H.full hb).same s.broken (s.added + 1)⟩
  obtain ⟨s1, h1, B1, R1, l1⟩ := bottom H1
  have v1 : s1.vars.length = s.vars.length := B1.vlen
  obtain ⟨s2, h2, g, h3, h4⟩ := grows_ok B hB lits s1 (fun n hn => (h0 n hn).2) R1.base.wf.hp (by rw [v1]; exact H.base.wf.siz)
  have hsz2 : s2.vars.length ≤ 1048577 := by have := H.base.wf.siz; omega
  have R2 := g.rest R1 hsz2
  have l2 : s2.limits = [] := by obtain ⟨m, e⟩ := g.eq; rw [e]; exact l1
  have c2 : s2.cls.length < 1000000 := by obtain ⟨m, e⟩ := g.eq; rw [e]; show s1.cls.length < _; rw [B1.cls]; exact hc
  obtain ⟨s', h5, h6⟩ := add_core fuel lits R2.base l2 R2.full c2 (fun n hn => ⟨(h0 n hn).1, h3 n hn⟩) (by omega)
  refine ⟨s1, s2, s', B1, g, by omega, R2, l2, ?_, h6, h3⟩
  unfold addF
  rw [show (decide (0 ≤ s.added ∧ s.added ≤ 1099511627776)) = true from by simpa using hadd]
  simp only [Bool.true_eq_false, if_false, h1, h2]
  exact h5
theorem add_ok (fuel : Nat) (s : St) (lits : List Int) (B : Nat) (H : Rest s) (hadd : 0 ≤ s.added ∧ s.added ≤ 1099511627776) (hc : s.cls.length < 1000000) (h0 : ∀ n ∈ lits, n ≠ 0 ∧ n.natAbs ≤ B) (hB : B ≤ 1048576) (hfu : max s.vars.length (B + 1) < fuel) :
    ∃ s1 s2 s', Back { s with added := s.added + 1 } 0 s1 ∧ Grown s1 s2 ∧ s2.vars.length ≤ max s.vars.length (B + 1) ∧ Rest s2 ∧ s2.limits = [] ∧ addF fuel s lits = some s' ∧ AddR fuel s2 lits s' := by
  obtain ⟨s1, s2, s', a, b, c, d, e, f, g, _⟩ := add_ok2 fuel s lits B H hadd hc h0 hB hfu
  exact ⟨s1, s2, s', a, b, c, d, e, f, g⟩
/-- A broken one says no. -/
theorem solve_broken (fuel : Nat) (s : St) (assume : List Int) (B : Nat) (H : Rest s) (hb : s.broken = true) (h0 : ∀ n ∈ assume, n.natAbs ≤ B) (hB : B ≤ 1048576) (hfu : 0 < fuel) : ∃ s', solveF fuel s 0 assume = some ((noAns, 0), s') ∧ Rest s' ∧ s'.broken = true := by
  obtain ⟨s1, h1, B1, R1, l1⟩ := bottom H
  obtain ⟨s2, h2, g, h3, h4⟩ := grows_ok B hB assume s1 h0 R1.base.wf.hp (by rw [B1.vlen]; exact H.base.wf.siz)
  have hb2 : s2.broken = true := by obtain ⟨m, e⟩ := g.eq; rw [e]; show s1.broken = true; rw [B1.broken]; exact hb
  refine ⟨s2, ?_, g.rest R1 (by have := H.base.wf.siz; have := B1.vlen; omega), hb2⟩
  unfold solveF
  simp only [h1, h2, Option.bind_some]
  obtain ⟨k, rfl⟩ : ∃ k, fuel = k + 1 := ⟨fuel - 1, by omega⟩
  unfold searchF
  rw [if_pos hb2]
/-- Solve, where no conflict can arise. -/
theorem solve_nc (fuel : Nat) (s : St) (assume : List Int) (B : Nat) (F : Full s) (hb : s.broken = false) (h0 : ∀ n ∈ assume, n ≠ 0 ∧ n.natAbs ≤ B) (hB : B ≤ 1048576) (has : assume.length ≤ 1000000) (hfu : max s.vars.length (B + 1) < fuel)
    (hadd : 0 ≤ s.added ∧ s.added ≤ 1099511627776) (hlr : s.learnt.length ≤ 2000)
    (hNC : ∀ t, Full t → CR s t → s.vars.length ≤ t.vars.length → t.vars.length ≤ max s.vars.length (B + 1) → ∀ n : Int, n ≠ 0 → n.natAbs < t.vars.length → n ∉ t.trail → -n ∉ t.trail → ∃ A, SatA A t ∧ (∀ m ∈ t.trail, litT A m) ∧ litT A n) :
    ∃ s1 s2 a s', Back s 0 s1 ∧ Grown s1 s2 ∧ solveF fuel s 0 assume = some ((a, 0), s') ∧ Left' s2 s' ∧ AnsOk assume s' a ∧ (NoZero s2 → NoZero s') ∧ s2.vars.length ≤ max s.vars.length (B + 1) ∧ s2.trail = s1.trail ∧ s2.broken = false := by
  obtain ⟨s1, h1, B1, R1, l1⟩ := bottom ⟨F.base, fun _ => F⟩
  obtain ⟨s2, h2, g, h3, h4⟩ := grows_ok B hB assume s1 (fun n hn => (h0 n hn).2) R1.base.wf.hp (by rw [B1.vlen]; exact F.base.wf.siz)
  have v1 := B1.vlen
  have hsz2 : s2.vars.length ≤ 1048577 := by have := F.base.wf.siz; omega
  have R2 := g.rest R1 hsz2
  obtain ⟨m, e⟩ := g.eq
  have hb2 : s2.broken = false := by rw [e]; show s1.broken = false; rw [B1.broken]; exact hb
  have F2 := R2.full hb2
  have l2 : s2.limits = [] := by rw [e]; exact l1
  have c2 : s2.cls = s.cls := by rw [e]; exact B1.cls
  obtain ⟨a, s', h5, h6, h7, h8⟩ := search_nc assume s2 fuel (by omega) (fun n hn => ⟨(h0 n hn).1, h3 n hn⟩) has
    (by rw [e]; show 0 ≤ s1.added ∧ s1.added ≤ _; rw [B1.added]; exact hadd) (by rw [e]; show s1.learnt.length ≤ _; rw [B1.learnt]; exact hlr) hb2
    (fun t hF hL n => hNC t hF ((CR.of_eq c2).trans hL.cr) (by rw [hL.vlen]; have := g.len; omega) (by rw [hL.vlen]; omega) n) fuel s2 0 F2.ok F2.base.lm (AsmI.zero l2) (Left'.refl s2) (by omega) (by rw [l2]; simp) (.inl F2.hd)
  refine ⟨s1, s2, a, s', B1, g, ?_, h6, h7, h8, by omega, by rw [e], hb2⟩
  unfold solveF
  simp only [h1, h2, Option.bind_some]
  exact h5
theorem new_full : Full Sat.new := by
  refine ⟨⟨⟨⟨rfl, by decide, fun i v h => by simp [Sat.new] at h, fun v p h => ?_⟩, by decide, by decide, fun v a h => ?_, fun n h => by simp [Sat.new] at h, by simp [Sat.new], fun v a hv h => ?_, fun l h => by simp [Sat.new] at h, by simp [Sat.new], by decide, fun c x h => by simp [Sat.new] at h, fun i n a h => by simp [Sat.new] at h, fun i n a c h => by simp [Sat.new] at h, fun i n a h => by simp [Sat.new] at h⟩, ⟨fun k c => ?_, fun k => by simp [watched, Sat.new, Mem.mget]⟩, ⟨fun j l _ h => by simp [Sat.new] at h, fun h => by simp [Sat.new] at h⟩⟩, fun c x a b r h => by simp [Sat.new] at h, rfl⟩
  · have h1 := get_lt h
    have e : v = 0 := by simp [Sat.new] at h1; exact h1
    subst e
    simp [Sat.new] at h
    exact .inl (by omega)
  · have h1 := get_lt h
    have e : v = 0 := by simp [Sat.new] at h1; exact h1
    subst e
    simp [Sat.new] at h
    subst h
    exact .inl rfl
  · have h1 := get_lt h
    simp [Sat.new] at h1
    omega
  · constructor
    · intro h; simp [watched, Sat.new, Mem.mget] at h
    · rintro ⟨x, a, b, r, h, _⟩; simp [Sat.new] at h
/-- A way that makes a list of literals true. -/
def wayOf (L : List Int) : Nat → Bool := fun v => decide ((v : Int) ∈ L)
theorem way_true {L : List Int} (h : ∀ m ∈ L, m ≠ 0 ∧ -m ∉ L) : ∀ m ∈ L, litT (wayOf L) m := fun m hm => by
  unfold litT wayOf
  obtain ⟨h0, h1⟩ := h m hm
  by_cases hp : 0 < m
  · rw [if_pos hp, show ((m.natAbs : Nat) : Int) = m from by omega]; simpa using hm
  · rw [if_neg hp, show ((m.natAbs : Nat) : Int) = -m from by omega]; simpa using h1
/-- One clause at most: no conflict can arise. -/
theorem one_nc (t : St) (F : Full t) (hc : t.cls.length ≤ 1) (n : Int) (h0 : n ≠ 0) (hn : n.natAbs < t.vars.length) (h1 : n ∉ t.trail) (h2 : -n ∉ t.trail) : ∃ A, SatA A t ∧ (∀ m ∈ t.trail, litT A m) ∧ litT A n := by
  have W := F.base.wf
  have hcons : ∀ z : Int, z ≠ 0 → z ≠ -n → -z ∉ t.trail → ∀ m ∈ t.trail ++ [n, z], m ≠ 0 ∧ -m ∉ t.trail ++ [n, z] := fun z z0 z1 z2 m hm => by
    simp only [List.mem_append, List.mem_cons, List.not_mem_nil, or_false] at hm ⊢
    rcases hm with hm | rfl | rfl
    · refine ⟨(W.mem m hm).1, fun h => ?_⟩
      rcases h with h | h | h
      · exact W.not_both hm h
      · rw [← h] at h2; exact h2 (by simpa using hm)
      · rw [← h] at z2; exact z2 (by simpa using hm)
    · refine ⟨h0, fun h => ?_⟩
      rcases h with h | h | h
      · exact h2 h
      · omega
      · exact z1 h.symm
    · refine ⟨z0, fun h => ?_⟩
      rcases h with h | h | h
      · exact z2 h
      · omega
      · omega
  have fin : ∀ z : Int, z ≠ 0 → z ≠ -n → -z ∉ t.trail → (∀ (c : Nat) (x : Cl), t.cls[c]? = some x → ∃ m ∈ x.lits, m ∈ t.trail ++ [n, z]) → ∃ A, SatA A t ∧ (∀ m ∈ t.trail, litT A m) ∧ litT A n := fun z z0 z1 z2 hs => by
    have hw := way_true (hcons z z0 z1 z2)
    exact ⟨wayOf (t.trail ++ [n, z]), fun c x hx => by
      obtain ⟨m, hm, hm2⟩ := hs c x hx
      exact ⟨m, hm, hw m hm2⟩, fun m hm => hw m (by simp [hm]), hw n (by simp)⟩
  by_cases hcl : t.cls = []
  · exact fin n h0 (by omega) h2 fun c x hx => by rw [hcl] at hx; simp at hx
  · obtain ⟨x, hx⟩ : ∃ x, t.cls = [x] := by
      match h : t.cls with
      | [] => exact absurd h hcl
      | [x] => exact ⟨x, rfl⟩
      | a :: b :: r => rw [h] at hc; simp at hc
    have hx0 : t.cls[0]? = some x := by rw [hx]; rfl
    have honly : ∀ (c : Nat) y, t.cls[c]? = some y → y = x := fun c y hy => by
      rw [hx] at hy
      have := get_lt hy
      simp at this
      subst this
      simpa using hy.symm
    by_cases hs : ∃ m ∈ x.lits, m ∈ t.trail
    · obtain ⟨m, hm, hm2⟩ := hs
      exact fin n h0 (by omega) h2 fun c y hy => ⟨m, by rw [honly c y hy]; exact hm, by simp [hm2]⟩
    · have C := W.cls 0 x hx0
      obtain ⟨a, b, r, hl⟩ : ∃ a b r, x.lits = a :: b :: r := by
        have := C.two
        match h : x.lits with
        | [] => rw [h] at this; simp at this
        | [_] => rw [h] at this; simp at this
        | a :: b :: r => exact ⟨a, b, r, rfl⟩
      have hfalse : ∀ u o, (u = a ∧ o = b) ∨ (u = b ∧ o = a) → -u ∉ t.trail := fun u o huo hu => by
        obtain ⟨j, hj⟩ := List.mem_iff_getElem?.1 hu
        obtain ⟨i, hi, _⟩ := F.pi 0 x a b r hx0 hl u o huo j (by have := get_lt hj; have := F.hd; omega) hj trivial
        exact hs ⟨o, by rw [hl]; rcases huo with ⟨_, rfl⟩ | ⟨_, rfl⟩ <;> simp, List.mem_of_getElem? hi⟩
      have hv := C.var
      have hd := C.nd
      rw [hl] at hv hd
      have hab : a.natAbs ≠ b.natAbs := by simp at hd; exact hd.1.1
      by_cases e : a = -n
      · exact fin b (hv b (by simp)).1 (by omega) (hfalse b a (.inr ⟨rfl, rfl⟩)) fun c y hy => ⟨b, by rw [honly c y hy, hl]; simp, by simp⟩
      · exact fin a (hv a (by simp)).1 e (hfalse a b (.inl ⟨rfl, rfl⟩)) fun c y hy => ⟨a, by rw [honly c y hy, hl]; simp, by simp⟩
/-- One clause, and what may be asked of it. -/
theorem refuses_run (c is : List Int) (hc : ∀ n ∈ c, n ≠ 0 ∧ n.natAbs ≤ 1000) (hi : ∀ n ∈ is, n ≠ 0 ∧ n.natAbs ≤ 1000) (hl : is.length ≤ 1000000) : ∃ s1, addF 2000 Sat.new c = some s1 ∧ ∃ a s2, solveF 2000 s1 0 is = some ((a, 0), s2) := by
  obtain ⟨t1, t2, s1, B1, g, hv, R2, l2, h1, h2⟩ := add_ok 2000 Sat.new c 1000 ⟨new_full.base, fun _ => new_full⟩ (by decide) (by decide) hc (by decide) (by decide)
  have hv' : t2.vars.length ≤ 1001 := hv
  have P := h2.post R2 l2
  obtain ⟨m, e⟩ := g.eq
  have ec : t2.cls = [] := by rw [e]; show t1.cls = []; rw [B1.cls]; rfl
  have ea : t2.added = 1 := by rw [e]; show t1.added = 1; rw [B1.added]; rfl
  have el : t2.learnt = [] := by rw [e]; show t1.learnt = []; rw [B1.learnt]; rfl
  have hcl : s1.cls.length ≤ 1 := by have := P.clen; rw [ec] at this; simpa using this
  refine ⟨s1, h1, ?_⟩
  by_cases hb : s1.broken = true
  · obtain ⟨s2, h3, _⟩ := solve_broken 2000 s1 is 1000 P.rest hb (fun n hn => (hi n hn).2) (by decide) (by decide)
    exact ⟨noAns, s2, h3⟩
  · have hb' : s1.broken = false := by simpa using hb
    obtain ⟨_, _, a, s2, _, _, h3, _⟩ := solve_nc 2000 s1 is 1000 (P.rest.full hb') hb' hi (by decide) hl (by rw [P.vlen]; omega) (by rw [P.added, ea]; decide) (by rw [P.learnt, el]; decide) fun t F hC _ _ n => one_nc t F (by rw [hC.len]; exact hcl) n
    exact ⟨a, s2, h3⟩
end Go.Sat
/- Scores: what learning may do to variables and clauses, as plain data. -/
namespace Go.Sat
/-- What learning may have done: scores, the heap, the bump; nothing that matters. -/
structure Lr (s s' : St) : Prop where
  trail : s'.trail = s.trail
  limits : s'.limits = s.limits
  head : s'.head = s.head
  watches : s'.watches = s.watches
  learnt : s'.learnt = s.learnt
  conflicts : s'.conflicts = s.conflicts
  added : s'.added = s.added
  broken : s'.broken = s.broken
  vlen : s'.vars.length = s.vars.length
  clen : s'.cls.length = s.cls.length
  var : ∀ (v : Nat) a', s'.vars[v]? = some a' → ∃ a, s.vars[v]? = some a ∧ a'.lit = a.lit ∧ a'.level = a.level ∧ a'.reason = a.reason
  cls : ∀ (c : Nat) x', s'.cls[c]? = some x' → ∃ x, s.cls[c]? = some x ∧ x'.lits = x.lits ∧ x'.learnt = x.learnt
  hp : Hps s'
  mem : ∀ u, inH s u → inH s' u
section
variable {s s1 s' : St}
theorem Lr.refl (H : Hps s) : Lr s s := ⟨rfl, rfl, rfl, rfl, rfl, rfl, rfl, rfl, rfl, rfl, fun v a h => ⟨a, h, rfl, rfl, rfl⟩, fun c x h => ⟨x, h, rfl, rfl⟩, H, fun _ h => h⟩
theorem Lr.trans (h : Lr s s1) (k : Lr s1 s') : Lr s s' :=
  ⟨k.trail.trans h.trail, k.limits.trans h.limits, k.head.trans h.head, k.watches.trans h.watches, k.learnt.trans h.learnt, k.conflicts.trans h.conflicts, k.added.trans h.added, k.broken.trans h.broken, k.vlen.trans h.vlen, k.clen.trans h.clen, fun v a ha => by
    obtain ⟨b, h1, h2, h3, h4⟩ := k.var v a ha
    obtain ⟨c, h5, h6, h7, h8⟩ := h.var v b h1
    exact ⟨c, h5, h2.trans h6, h3.trans h7, h4.trans h8⟩, fun c x hx => by
    obtain ⟨y, h1, h2, h3⟩ := k.cls c x hx
    obtain ⟨z, h4, h5, h6⟩ := h.cls c y h1
    exact ⟨z, h4, h2.trans h5, h3.trans h6⟩, k.hp, fun u hu => k.mem u (h.mem u hu)⟩
theorem Lr.var' (h : Lr s s') {v : Nat} {a : Fact} (ha : s.vars[v]? = some a) : ∃ a', s'.vars[v]? = some a' ∧ a'.lit = a.lit ∧ a'.level = a.level ∧ a'.reason = a.reason := by
  obtain ⟨a', h1⟩ := get_some (l := s'.vars) (i := v) (by rw [h.vlen]; exact get_lt ha)
  obtain ⟨b, h2, h3⟩ := h.var v a' h1
  rw [ha] at h2
  cases h2
  exact ⟨a', h1, h3⟩
theorem Lr.cls' (h : Lr s s') {c : Nat} {x : Cl} (hx : s.cls[c]? = some x) : ∃ x', s'.cls[c]? = some x' ∧ x'.lits = x.lits ∧ x'.learnt = x.learnt := by
  obtain ⟨x', h1⟩ := get_some (l := s'.cls) (i := c) (by rw [h.clen]; exact get_lt hx)
  obtain ⟨y, h2, h3⟩ := h.cls c x' h1
  rw [hx] at h2
  cases h2
  exact ⟨x', h1, h3⟩
theorem Lr.lvl (h : Lr s s') (i : Nat) : lvlAt s' i = lvlAt s i := by unfold lvlAt; rw [h.limits]
theorem Lr.wf (h : Lr s s') (W : Wf s) : Wf s' := by
  refine ⟨h.hp, by rw [h.vlen]; exact W.siz, by rw [h.clen]; exact W.csz, fun v a ha => ?_, fun n hn => ?_, by rw [h.trail]; exact W.nd, fun v a hv ha h0 => ?_, by rw [h.limits, h.head]; exact W.lim, by rw [h.limits]; exact W.limo, by rw [h.head, h.trail]; exact W.head, fun c x hx => ?_, fun i n a hi ha => ?_, fun i n a c hi ha hr => ?_, fun i n a hi ha hr => ?_⟩
  · obtain ⟨b, h1, h2, _⟩ := h.var v a ha
    rw [h2, h.trail]; exact W.val v b h1
  · rw [h.trail] at hn
    obtain ⟨h1, a, h2, h3⟩ := W.mem n hn
    obtain ⟨a', h4, h5, _⟩ := h.var' h2
    exact ⟨h1, a', h4, h5.trans h3⟩
  · obtain ⟨b, h1, h2, _⟩ := h.var v a ha
    exact h.mem v (W.free v b hv h1 (by rw [← h2]; exact h0))
  · obtain ⟨y, h1, h2, _⟩ := h.cls c x hx
    rw [h2, h.vlen]; exact W.cls c y h1
  · obtain ⟨b, h1, _, h3, _⟩ := h.var _ a ha
    rw [h.trail] at hi
    rw [h3, h.lvl]; exact W.lev i n b hi h1
  · obtain ⟨b, h1, _, _, h4⟩ := h.var _ a ha
    rw [h.trail] at hi
    obtain ⟨h5, h6⟩ := W.rea i n b c hi h1 (by rw [← h4]; exact hr)
    refine ⟨by rw [h.limits]; exact h5, h6.mono (fun j m _ hm => by rw [h.trail]; exact hm) fun x hx => ?_⟩
    obtain ⟨x', h7, h8, _⟩ := h.cls' hx
    exact ⟨x', h7, fun m => by rw [h8]⟩
  · obtain ⟨b, h1, _, _, h4⟩ := h.var _ a ha
    rw [h.trail] at hi
    rw [h.limits, h.lvl]; exact W.dec i n b hi h1 (by rw [← h4]; exact hr)
theorem Lr.head2 (h : Lr s s') {c : Nat} {k : Int} : Head2 s' c k ↔ Head2 s c k := by
  constructor
  · rintro ⟨x, a, b, r, h1, h2, h3⟩
    obtain ⟨y, h4, h5, _⟩ := h.cls c x h1
    exact ⟨y, a, b, r, h4, h5.symm.trans h2, h3⟩
  · rintro ⟨x, a, b, r, h1, h2, h3⟩
    obtain ⟨y, h4, h5, _⟩ := h.cls' h1
    exact ⟨y, a, b, r, h4, h5.trans h2, h3⟩
theorem Lr.wt (h : Lr s s') (T : Wt s (watched s)) : Wt s' (watched s') := by
  have e : watched s' = watched s := by funext k; unfold watched; rw [h.watches]
  rw [e]
  exact ⟨fun k c => (T.mem k c).trans h.head2.symm, T.nd⟩
theorem Lr.low (h : Lr s s') (P : PiLow s) : PiLow s' := by
  intro d x a b r hx hl u o huo j hj htj hX
  obtain ⟨y, h1, h2, _⟩ := h.cls d x hx
  rw [h.trail] at htj
  rw [h.head] at hj
  have hX' : lvlAt s j < s.limits.length := by have : lvlAt s' j < s'.limits.length := hX; rw [h.lvl, h.limits] at this; exact this
  obtain ⟨i, h3, h4⟩ := P d y a b r h1 (h2.symm.trans hl) u o huo j hj htj hX'
  exact ⟨i, by rw [h.trail]; exact h3, by rw [h.lvl, h.lvl]; exact h4⟩
theorem Lr.lm (h : Lr s s') (M : Lm s) : Lm s' := ⟨by rw [h.limits]; exact M.one, by rw [h.limits, h.trail]; exact M.some'⟩
/-- Scores are small. -/
structure Sco (s : St) : Prop where
  bump : 1 ≤ s.bump ∧ s.bump ≤ 4398046511104
  score : ∀ (v : Nat) a, s.vars[v]? = some a → 0 ≤ a.score ∧ a.score ≤ 1099511627776
theorem Hp.place_lt {h pl : List Int} {nv v : Nat} {p : Int} (H : Hp h pl nv) (hp : pl[v]? = some p) (h0 : 0 ≤ p) : p.toNat < h.length := by
  rcases H.inv v p hp with h1 | h1
  · omega
  · exact get_lt h1
/-- A variable is used: its score rises. -/
theorem used_ok (H : Wf s) (S : Sco s) {v : Nat} (hv : v < s.vars.length) : ∃ s', usedF s (v : Int) = some s' ∧ Lr s s' ∧ Sco s' ∧ s'.bump ≤ 1099511627776 := by
  obtain ⟨a, ha⟩ := get_some hv
  obtain ⟨a0, a1⟩ := S.score v a ha
  obtain ⟨b0, b1⟩ := S.bump
  have hp := H.hp
  unfold usedF
  rw [nth_nat, ha]
  simp only
  have hg : (decide (0 ≤ a.score ∧ 0 ≤ s.bump ∧ a.score + s.bump ≤ 4611686018427387904)) = true := by simp; omega
  rw [hg]
  simp only [Bool.true_eq_false, if_false]
  rw [setN_ok _ _ (by omega) (by simpa using hv), show ((v : Int)).toNat = v from by omega]
  simp only [Option.bind_some]
  obtain ⟨p, hpl⟩ := get_some (l := s.place) (i := v) (by rw [hp.len]; exact hv)
  rw [nth_nat, hpl]
  simp only
  obtain ⟨t, ht⟩ : ∃ t : St, t = { s with vars := s.vars.set v { a with score := a.score + s.bump } } := ⟨_, rfl⟩
  have tv : ∀ u : Nat, t.vars[u]? = if v = u then some { a with score := a.score + s.bump } else s.vars[u]? := fun u => by
    rw [ht]
    simp only
    rw [set_get]
    by_cases e : v = u
    · rw [if_pos e, if_pos e, if_pos (by omega)]
    · rw [if_neg e, if_neg e]
  have tl : t.vars.length = s.vars.length := by rw [ht]; simp
  have thp : Hps t := by rw [ht]; exact ⟨by simpa using hp.len, by simpa using hp.pos, by simpa using hp.at', hp.inv⟩
  have hup : ∃ s2, (if 0 ≤ p then upF t p else some t) = some s2 ∧ HSame t s2 := by
    by_cases h0 : 0 ≤ p
    · rw [if_pos h0]
      have := hp.place_lt hpl h0
      have e : p = ((p.toNat : Nat) : Int) := by omega
      rw [e]
      exact upF_ok thp (by rw [ht]; exact this)
    · rw [if_neg h0]; exact ⟨t, rfl, HSame.refl thp⟩
  obtain ⟨s2, h1, h2⟩ := hup
  rw [← ht, h1]
  simp only [Option.bind_some]
  have ev : s2.vars = t.vars := by rw [h2.eq]
  rw [nth_nat, ev, tv v, if_pos rfl]
  simp only
  have hscore : ∀ (u : Nat) f, t.vars[u]? = some f → 0 ≤ f.score ∧ f.score ≤ a.score + s.bump + 1099511627776 := fun u f hf => by
    rw [tv] at hf
    by_cases e : v = u
    · rw [if_pos e] at hf; cases hf; exact ⟨by show 0 ≤ a.score + s.bump; omega, by show a.score + s.bump ≤ _; omega⟩
    · rw [if_neg e] at hf
      have := S.score u f hf
      omega
  have hvar : ∀ (u : Nat) f, t.vars[u]? = some f → ∃ b, s.vars[u]? = some b ∧ f.lit = b.lit ∧ f.level = b.level ∧ f.reason = b.reason := fun u f hf => by
    rw [tv] at hf
    by_cases e : v = u
    · rw [if_pos e] at hf
      cases hf
      exact ⟨a, by rw [← e]; exact ha, rfl, rfl, rfl⟩
    · rw [if_neg e] at hf
      exact ⟨f, hf, rfl, rfl, rfl⟩
  have hmem : ∀ u, inH s u → inH s2 u := fun u hu => h2.mem u (by rw [ht]; exact hu)
  have e2 : s2 = { s with vars := t.vars, heap := s2.heap, place := s2.place } := by
    have := h2.eq
    rw [ht] at this ⊢
    exact this
  have hcl : ∀ (c : Nat) (x : Cl), s2.cls[c]? = some x → ∃ y, s.cls[c]? = some y ∧ x.lits = y.lits ∧ x.learnt = y.learnt := fun c x hx => by
    rw [e2] at hx
    exact ⟨x, hx, rfl, rfl⟩
  by_cases hbig : 1099511627776 < a.score + s.bump
  · rw [if_pos hbig]
    refine ⟨_, rfl, ?_, ?_, ?_⟩
    · refine ⟨by rw [e2], by rw [e2], by rw [e2], by rw [e2], by rw [e2], by rw [e2], by rw [e2], by rw [e2], by simp [tl], by rw [e2], fun u f hf => ?_, hcl, ?_, hmem⟩
      · simp only [List.getElem?_map] at hf
        obtain ⟨f0, h3, h4⟩ := Option.map_eq_some_iff.1 hf
        obtain ⟨b, h5, h6, h7, h8⟩ := hvar u f0 h3
        rw [← h4]
        exact ⟨b, h5, h6, h7, h8⟩
      · have := h2.hp
        have e4 : s2.vars.length = t.vars.length := by rw [ev]
        exact ⟨by simpa [e4] using this.len, by simpa [e4] using this.pos, by simpa [e4] using this.at', this.inv⟩
    · refine ⟨?_, fun u f hf => ?_⟩
      · have e3 : s2.bump = s.bump := by rw [e2]
        show 1 ≤ (if s2.bump / 1048576 < 1 then 1 else s2.bump / 1048576) ∧ (if s2.bump / 1048576 < 1 then 1 else s2.bump / 1048576) ≤ 4398046511104
        rw [e3]
        split <;> omega
      · simp only [List.getElem?_map] at hf
        obtain ⟨f0, h3, h4⟩ := Option.map_eq_some_iff.1 hf
        have := hscore u f0 h3
        rw [← h4]
        show 0 ≤ f0.score / 1048576 ∧ f0.score / 1048576 ≤ 1099511627776
        omega
    · have e3 : s2.bump = s.bump := by rw [e2]
      show (if s2.bump / 1048576 < 1 then 1 else s2.bump / 1048576) ≤ 1099511627776
      rw [e3]
      split <;> omega
  · rw [if_neg hbig]
    refine ⟨s2, rfl, ⟨by rw [e2], by rw [e2], by rw [e2], by rw [e2], by rw [e2], by rw [e2], by rw [e2], by rw [e2], by rw [ev, tl], by rw [e2], fun u f hf => hvar u f (by rw [← ev]; exact hf), hcl, h2.hp, hmem⟩, ⟨by rw [e2]; exact S.bump, fun u f hf => ?_⟩, by rw [e2]; show s.bump ≤ _; omega⟩
    rw [ev, tv] at hf
    by_cases e : v = u
    · rw [if_pos e] at hf; cases hf; exact ⟨by show 0 ≤ a.score + s.bump; omega, by show a.score + s.bump ≤ _; omega⟩
    · rw [if_neg e] at hf; exact S.score u f hf
end
end Go.Sat
