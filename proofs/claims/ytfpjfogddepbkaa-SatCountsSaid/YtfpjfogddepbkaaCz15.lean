/- Propagation, as plain data: it ends, and what watches what holds behind it. -/
import Derived.Test.YtfpjfogddepbkaaCz14
set_option linter.unusedSimpArgs false
set_option linter.unusedVariables false
namespace Go.Sat
/-- A clause all of whose literals are false. -/
def Conf (s : St) (c : Nat) : Prop := ∃ x, s.cls[c]? = some x ∧ ∀ m ∈ x.lits, -m ∈ s.trail
abbrev PiAll (s : St) : Prop := PiX s fun _ _ => True
abbrev PiLow (s : St) : Prop := PiX s fun _ j => lvlAt s j < s.limits.length
section
variable {s s' : St} {n : Int} {h : Nat} {left todo : List Nat} {c : Nat}
theorem ite_flip (n k : Int) (a b : List Nat) : (if n = k then a else b) = if k = n then a else b := by
  by_cases e : n = k
  · subst e; rfl
  · rw [if_neg e, if_neg fun h => e h.symm]
/-- A literal set because of a clause is what propagation may do. -/
theorem Ext.set {a b : Fact} {why : Nat} (H : Wf s) (ha : s.vars[n.natAbs]? = some a) (hu : n ∉ s.trail ∧ -n ∉ s.trail) (e : s' = { s with vars := s.vars.set n.natAbs b, trail := s.trail ++ [n] }) (hb : b = { a with lit := n, level := levelF s, reason := some why, phase := n }) : Ext s s' := by
  have hl : a.lit = 0 := by
    rcases H.val _ a ha with h1 | ⟨h1, h2⟩
    · exact h1
    · have : a.lit = n ∨ a.lit = -n := by omega
      rcases this with h3 | h3
      · rw [h3] at h2; exact absurd h2 hu.1
      · rw [h3] at h2; exact absurd h2 hu.2
  have hg : ∀ v : Nat, (s.vars.set n.natAbs b)[v]? = if n.natAbs = v then some b else s.vars[v]? := fun v => by
    rw [set_get]
    by_cases e : n.natAbs = v
    · rw [if_pos e, if_pos e, if_pos (by rw [← e]; exact get_lt ha)]
    · rw [if_neg e, if_neg e]
  rw [e]
  refine ⟨⟨[n], rfl⟩, rfl, rfl, rfl, rfl, rfl, rfl, rfl, rfl, by simp, fun v f hf hfl => ?_, fun i m f hi hm hf => ?_, rfl, fun c x hx => ⟨x, hx, List.Perm.refl _, rfl⟩, fun v => ?_, Int.le_refl _⟩
  · simp only
    rw [hg]
    by_cases e : n.natAbs = v
    · subst e
      rw [ha] at hf
      cases hf
      exact absurd hl hfl
    · rw [if_neg e]; exact hf
  · simp only at hm hf
    rw [List.getElem?_append_right hi] at hm
    have h1 := get_lt hm
    simp at h1
    have : i - s.trail.length = 0 := by omega
    rw [this] at hm
    cases hm
    rw [hg, if_pos rfl] at hf
    cases hf
    rw [hb]
    exact fun e => by cases e
  · simp only
    rw [hg]
    by_cases e : n.natAbs = v
    · subst e
      rw [if_pos rfl, ha, hb]; rfl
    · rw [if_neg e]
theorem WakeI.kept (H : WakeI s n h left (c :: todo)) {X : Cl} {x : Int} {r : List Int} (hX : s.cls[c]? = some X) (hl : X.lits = x :: -n :: r) (hx : x ∈ s.trail) : WakeI s n h (left ++ [c]) todo := by
  have hwt := H.wt
  rw [show (fun k => if k = n then left ++ c :: todo else watched s k) = fun k => if k = n then (left ++ [c]) ++ todo else watched s k from by funext k; simp] at hwt
  refine ⟨H.wf, H.hd, H.at', H.lim, hwt, fun d y a b r' hy hyl u o huo j hj htj hXc => ?_⟩
  by_cases hd : d = c
  · subst hd
    by_cases hjh : j = h
    · subst hjh
      rw [H.at'] at htj
      cases htj
      rw [hX] at hy
      cases hy
      rw [hl] at hyl
      cases hyl
      have hnd := (H.wf.cls d X hX).nd
      rw [hl] at hnd
      have hxn : x.natAbs ≠ (-(-u)).natAbs := by simp at hnd ⊢; exact hnd.1.1
      rcases huo with ⟨h1, h2⟩ | ⟨h1, h2⟩
      · exfalso; omega
      · obtain ⟨i, hi⟩ := List.mem_iff_getElem?.1 hx
        refine ⟨i, by rw [h2]; exact hi, ?_⟩
        rw [H.wf.lvl_top H.lim]
        exact lvl_le s i
    · exact H.pi d y a b r' hy hyl u o huo j hj htj (.inl hjh)
  · exact H.pi d y a b r' hy hyl u o huo j hj htj (hXc.imp id fun h3 h4 => by
      rcases List.mem_cons.1 h4 with h4 | h4
      · exact hd h4
      · exact h3 h4)
/-- The clauses that a literal's falling wakes: all are looked at, or one can't hold. -/
theorem wake_ok (n : Int) (h : Nat) : ∀ (todo : List Nat) (s : St) (left : List Nat), WakeI s n h left todo → ∃ res s', wakeF n s left todo = some (res, s') ∧ Ext s s' ∧ Wf s' ∧ s'.head = s.head ∧ Wt s' (watched s') ∧ (res = none → PiAll s') ∧ ∀ c, res = some c → PiLow s' ∧ Conf s' c
  | [], s, left, H => by
    refine ⟨none, _, rfl, Ext.watches _, H.wf.watches _, rfl, ?_, fun _ => ?_, fun c e => (by cases e)⟩
    · refine ⟨fun k d => ?_, fun k => ?_⟩
      · rw [watched_put]
        have h1 := H.wt.mem k d
        simp only [List.append_nil] at h1
        rw [ite_flip]
        exact h1
      · rw [watched_put]
        have h1 := H.wt.nd k
        simp only [List.append_nil] at h1
        rw [ite_flip]
        exact h1
    · intro d y a b r' hy hyl u o huo j hj htj _
      exact H.pi d y a b r' hy hyl u o huo j hj htj (.inr (by simp))
  | c :: todo, s, left, H => by
    have hroom := todo_room H
    unfold wakeF
    have hg : roomB (left.length + todo.length) = true := by unfold roomB; simp at hroom ⊢; omega
    rw [hg]
    simp only [Bool.true_eq_false, if_false]
    obtain ⟨b, s1, hmv, hE, hor⟩ := H.moved
    rw [hmv]
    have hd1 : ∀ {s2 : St}, s2.head = s1.head → s1.head = s.head → s2.head = s.head := fun a b => a.trans b
    rcases hor with ⟨rfl, H1⟩ | ⟨rfl, H1, X, x, r, hX, hXl, hor⟩
    · simp only
      obtain ⟨res, s', h1, h2, h3, h4, h5⟩ := wake_ok n h todo s1 left H1
      exact ⟨res, s', h1, hE.trans h2 H1.wf, h3, h4.trans (H1.hd.trans H.hd.symm), h5⟩
    · simp only [hX, Option.bind_some, hXl, List.head?_cons]
      have hC := H1.wf.cls c X hX
      have hCv := hC.var
      have hCn := hC.nd
      rw [hXl] at hCv hCn
      obtain ⟨x0, x1⟩ := hCv x List.mem_cons_self
      have htn := List.mem_of_getElem? H1.at'
      rcases H1.wf.value x0 x1 with ⟨ev, hv, _⟩ | ⟨ev, hv, hv2⟩ | ⟨ev, hv, hv2⟩
      · rw [ev]
        simp only [if_true]
        obtain ⟨res, s', h1, h2, h3, h4, h5⟩ := wake_ok n h todo s1 (left ++ [c]) (H1.kept hX hXl hv)
        exact ⟨res, s', h1, hE.trans h2 H1.wf, h3, h4.trans (H1.hd.trans H.hd.symm), h5⟩
      · rw [ev]
        simp only [show ¬ ((-1 : Int) = 1) from by decide, if_false, if_true]
        have hr : ∀ m ∈ r, -m ∈ s1.trail := by
          rcases hor with h1 | ⟨_, h1⟩
          · exact absurd h1 hv2
          · exact h1
        refine ⟨some c, _, rfl, hE.trans (Ext.watches _) H1.wf, H1.wf.watches _, H1.hd.trans H.hd.symm, ?_, fun e => (by cases e), fun d hd => ?_⟩
        · refine ⟨fun k d => ?_, fun k => ?_⟩
          · rw [watched_put]
            have h1 := H1.wt.mem k d
            rw [ite_flip, show left ++ [c] ++ todo = left ++ c :: todo from by simp]
            exact h1
          · rw [watched_put]
            have h1 := H1.wt.nd k
            rw [ite_flip, show left ++ [c] ++ todo = left ++ c :: todo from by simp]
            exact h1
        · cases hd
          refine ⟨fun d y a b r' hy hyl u o huo j hj htj hlow => ?_, X, hX, fun m hm => ?_⟩
          · refine H1.pi d y a b r' hy hyl u o huo j hj htj (.inl fun e => ?_)
            subst e
            have h1 := H1.wf.lvl_top H1.lim
            have h2 : lvlAt s1 j < s1.limits.length := hlow
            omega
          · rw [hXl] at hm
            rcases List.mem_cons.1 hm with rfl | hm
            · exact hv
            · rcases List.mem_cons.1 hm with rfl | hm
              · simpa using htn
              · exact hr m hm
      · rw [ev]
        simp only [show ¬ ((0 : Int) = 1) from by decide, show ¬ ((0 : Int) = -1) from by decide, if_false]
        have hr : ∀ m ∈ r, -m ∈ s1.trail := by
          rcases hor with h1 | ⟨_, h1⟩
          · exact absurd h1 hv
          · exact h1
        have hhl := get_lt H1.at'
        have hbc : Because s1 s1.trail.length x c := ⟨X, hX, by rw [hXl]; exact List.mem_cons_self, fun m hm => by
          rw [hXl] at hm
          rcases List.mem_cons.1 hm with rfl | hm
          · exact .inl rfl
          · right
            have hmt : -m ∈ s1.trail := by
              rcases List.mem_cons.1 hm with rfl | hm
              · simpa using htn
              · exact hr m hm
            obtain ⟨j, hj⟩ := List.mem_iff_getElem?.1 hmt
            exact ⟨j, get_lt hj, hj⟩⟩
        obtain ⟨s2, a, b, h1, h2, h3, h4, h5⟩ := H1.wf.set (why := some c) x0 x1 ⟨hv, hv2⟩ (fun c' e => by cases e; exact ⟨fun hm => by have := H1.lim _ hm; omega, hbc⟩) (fun e => by cases e)
        rw [h1]
        simp only [Option.bind_some]
        have hE2 : Ext s1 s2 := Ext.set H1.wf h3 ⟨hv, hv2⟩ h2 h4
        have H2 : WakeI s2 n h left (c :: todo) := by
          have e : s2.cls = s1.cls := by rw [h2]
          have e2 : s2.head = s1.head := by rw [h2]
          have e3 : ∀ k, watched s2 k = watched s1 k := fun k => by rw [h2]; rfl
          refine ⟨h5, e2.trans H1.hd, hE2.at' H1.at', fun l hl => H1.lim l (by rw [← hE2.limits]; exact hl), ⟨fun k d => ?_, fun k => ?_⟩, fun d y a b r' hy hyl u o huo j hj htj hXc => ?_⟩
          · rw [e3]
            refine (H1.wt.mem k d).trans ?_
            unfold Head2
            rw [e]
          · rw [e3]; exact H1.wt.nd k
          · rw [e] at hy
            rw [e2, H1.hd] at hj
            obtain ⟨m, hm⟩ := get_some (l := s1.trail) (i := j) (by omega)
            have h6 := hE2.at' hm
            rw [htj] at h6
            cases h6
            obtain ⟨i, h7, h8⟩ := H1.pi d y a b r' hy hyl u o huo j (by rw [H1.hd]; exact hj) hm hXc
            exact ⟨i, hE2.at' h7, by rw [hE2.lvl, hE2.lvl]; exact h8⟩
        have hxt : x ∈ s2.trail := by rw [h2]; simp
        obtain ⟨res, s', h6, h7, h8, h9, h10⟩ := wake_ok n h todo s2 (left ++ [c]) (H2.kept (by rw [h2]; exact hX) hXl hxt)
        exact ⟨res, s', h6, (hE.trans hE2 H1.wf).trans h7 h5, h8, h9.trans (H2.hd.trans H.hd.symm), h10⟩
end
/-- What holds of a solver between steps. -/
structure Ok (s : St) : Prop where
  wf : Wf s
  wt : Wt s (watched s)
  pi : PiAll s
theorem spread_ok : ∀ (k : Nat) (s : St), Ok s → (s.vars.length : Int) < k + s.head → ∃ res s', spreadF k s = some (res, s') ∧ Ext s s' ∧ Wf s' ∧ Wt s' (watched s') ∧ (res = none → PiAll s' ∧ s'.head = s'.trail.length) ∧ ∀ c, res = some c → PiLow s' ∧ Conf s' c
  | 0, s, H, hk => by
    have := H.wf.head
    have := H.wf.tlen
    omega
  | k + 1, s, H, hk => by
    unfold spreadF
    by_cases hh : s.head < (s.trail.length : Int)
    · rw [if_pos hh]
      obtain ⟨h0, _⟩ := H.wf.head
      obtain ⟨h, hhd⟩ : ∃ h : Nat, s.head = h := ⟨s.head.toNat, by omega⟩
      obtain ⟨n, hn⟩ := get_some (l := s.trail) (i := h) (by omega)
      have hn' : nth s.trail s.head = some n := by rw [hhd, nth_nat]; exact hn
      rw [hn']
      simp only
      have hlim : ∀ l ∈ s.limits, l ≤ (h : Int) := fun l hl => by have := (H.wf.lim l hl).2; omega
      have W : WakeI { s with head := s.head + 1 } n h [] (watched s n) := by
        have wf := H.wf
        refine ⟨⟨wf.hp, wf.siz, wf.csz, wf.val, wf.mem, wf.nd, wf.free, fun l hl => ?_, wf.limo, ?_, wf.cls, wf.lev, wf.rea, wf.dec⟩, by simp [hhd], hn, hlim, ⟨fun k d => ?_, fun k => ?_⟩, fun d y a b r' hy hyl u o huo j hj htj hXc => ?_⟩
        · have := wf.lim l hl
          exact ⟨this.1, by show l ≤ s.head + 1; omega⟩
        · exact ⟨by show 0 ≤ s.head + 1; omega, by show s.head + 1 ≤ (s.trail.length : Int); omega⟩
        · have e : (if k = n then [] ++ watched s n else watched { s with head := s.head + 1 } k) = watched s k := by
            by_cases e : k = n
            · rw [if_pos e, e]; rfl
            · rw [if_neg e]; rfl
          rw [e]
          exact H.wt.mem k d
        · have e : (if k = n then [] ++ watched s n else watched { s with head := s.head + 1 } k) = watched s k := by
            by_cases e : k = n
            · rw [if_pos e, e]; rfl
            · rw [if_neg e]; rfl
          rw [e]
          exact H.wt.nd k
        · by_cases hjh : j = h
          · exfalso
            rcases hXc with h1 | h1
            · exact h1 hjh
            · refine h1 ((H.wt.mem n d).2 ⟨y, a, b, r', hy, hyl, ?_⟩)
              rw [hjh, hn] at htj
              cases htj
              rcases huo with ⟨h2, _⟩ | ⟨h2, _⟩
              · left; rw [h2]
              · right; rw [h2]
          · have hj' : (j : Int) < s.head + 1 := hj
            exact H.pi d y a b r' hy hyl u o huo j (by omega) htj trivial
      obtain ⟨res, s1, h1, h2, h3, h4, h5, h6, h7⟩ := wake_ok n h (watched s n) _ [] W
      have hE : Ext s s1 := by
        have := h2
        exact ⟨this.trail, this.limits, this.heap, this.place, this.learnt, this.conflicts, this.added, this.bump, this.broken, this.vlen, this.old, this.new, this.clen, this.cls, this.score, by have h9 := this.head; simp only at h9; omega⟩
      rw [h1]
      cases res with
      | some c =>
        simp only
        exact ⟨some c, s1, rfl, hE, h3, h5, fun e => (by cases e), fun d hd => by cases hd; exact h7 c rfl⟩
      | none =>
        simp only
        have e : s1.head = s.head + 1 := h4
        obtain ⟨res, s2, h8, h9, h10, h11, h12, h13⟩ := spread_ok k s1 ⟨h3, h5, h6 rfl⟩ (by rw [hE.vlen, e]; omega)
        exact ⟨res, s2, h8, hE.trans h9 h3, h10, h11, h12, h13⟩
    · rw [if_neg hh]
      exact ⟨none, s, rfl, Ext.refl s, H.wf, H.wt, fun _ => ⟨H.pi, by have := H.wf.head; omega⟩, fun c e => (by cases e)⟩
end Go.Sat
/- Going back to a level, as plain data. -/
namespace Go.Sat
/-- Levels begin behind literals, but for the first one. -/
structure Lm (s : St) : Prop where
  one : ∀ (j : Nat) l, 1 ≤ j → s.limits[j]? = some l → 1 ≤ l
  some' : s.limits ≠ [] → s.trail ≠ []
structure Unset (s : St) (l : List Int) (s' : St) : Prop where
  eq : s' = { s with vars := s'.vars, heap := s'.heap, place := s'.place }
  hp : Hps s'
  len : s'.vars.length = s.vars.length
  mem : ∀ u, inH s u → inH s' u
  new : ∀ n ∈ l, inH s' n.natAbs
  var : ∀ (v : Nat) a, s'.vars[v]? = some a → ∃ b, s.vars[v]? = some b ∧ ((v ∈ l.map Int.natAbs ∧ a = { b with lit := 0 }) ∨ (v ∉ l.map Int.natAbs ∧ a = b))
theorem unset_ok : ∀ (l : List Int) (s : St), Hps s → s.vars.length ≤ 1048577 → (∀ n ∈ l, 1 ≤ n.natAbs ∧ n.natAbs < s.vars.length) → ∃ s', unsetL s l = some s' ∧ Unset s l s'
  | [], s, H, _, _ => ⟨s, rfl, rfl, H, rfl, fun _ h => h, fun n hn => (by cases hn), fun v a h => ⟨a, h, .inr ⟨by simp, rfl⟩⟩⟩
  | n :: r, s, H, hs, hl => by
    obtain ⟨n1, n2⟩ := hl n List.mem_cons_self
    obtain ⟨a, ha⟩ := get_some n2
    unfold unsetL
    rw [sml_iff.2 (by omega), ofF_eq, nth_nat, ha]
    simp only [Bool.true_eq_false, if_false]
    rw [setN_ok _ _ (by omega) (by simpa using n2)]
    simp only [Option.bind_some]
    have H1 : Hps { s with vars := s.vars.set (n.natAbs : Int).toNat { a with lit := 0 } } := ⟨by simpa using H.len, by simpa using H.pos, by simpa using H.at', H.inv⟩
    obtain ⟨s1, h1, h2, h3⟩ := push_ok H1 (by simpa using hs) (v := n.natAbs) ⟨n1, by simpa using n2⟩
    rw [h1]
    simp only [Option.bind_some]
    have e1 : s1.vars = s.vars.set n.natAbs { a with lit := 0 } := by rw [h2.eq]; simp
    obtain ⟨s2, h4, h5⟩ := unset_ok r s1 h2.hp (by rw [e1]; simpa using hs) (fun m hm => by
      have := hl m (List.mem_cons_of_mem _ hm)
      rw [e1]; simpa using this)
    refine ⟨s2, h4, by rw [h5.eq, h2.eq], h5.hp, by rw [h5.len, e1]; simp, fun u hu => h5.mem u (h2.mem u hu), fun m hm => ?_, fun v b hb => ?_⟩
    · rcases List.mem_cons.1 hm with rfl | hm
      · exact h5.mem _ h3
      · exact h5.new m hm
    · obtain ⟨b1, h6, h7⟩ := h5.var v b hb
      rw [e1, set_get] at h6
      by_cases e : n.natAbs = v
      · rw [if_pos e, if_pos (by omega)] at h6
        cases h6
        refine ⟨a, by rw [← e]; exact ha, .inl ⟨by simp [e], ?_⟩⟩
        rcases h7 with ⟨_, h8⟩ | ⟨_, h8⟩
        · rw [h8]
        · exact h8
      · rw [if_neg e] at h6
        refine ⟨b1, h6, ?_⟩
        rcases h7 with ⟨h8, h9⟩ | ⟨h8, h9⟩
        · exact .inl ⟨by simp only [List.map_cons]; exact List.mem_cons_of_mem _ h8, h9⟩
        · exact .inr ⟨by simp only [List.map_cons, List.mem_cons]; exact fun h => h.elim (fun h => e h.symm) h8, h9⟩
section
variable {s s' : St}
theorem Wf.lim_at (h : Wf s) {i j : Nat} {l l' : Int} (hij : i ≤ j) (hi : s.limits[i]? = some l) (hj : s.limits[j]? = some l') : l ≤ l' := by
  rcases Nat.lt_or_eq_of_le hij with hl | rfl
  · have h1 := get_lt hi
    have h2 := get_lt hj
    have h3 := (List.pairwise_iff_getElem.1 h.limo) i j h1 h2 hl
    rw [List.getElem?_eq_getElem h1] at hi
    rw [List.getElem?_eq_getElem h2] at hj
    cases hi; cases hj
    exact h3
  · rw [hi] at hj; cases hj; exact Int.le_refl _
theorem mem_take {α : Type} {l : List α} {k : Nat} {x : α} (h : x ∈ l.take k) : ∃ i, i < k ∧ l[i]? = some x := by
  obtain ⟨i, hi⟩ := List.mem_iff_getElem?.1 h
  have h1 := get_lt hi
  rw [List.length_take] at h1
  rw [List.getElem?_take_of_lt (by omega)] at hi
  exact ⟨i, by omega, hi⟩
theorem mem_drop {α : Type} {l : List α} {k : Nat} {x : α} (h : x ∈ l.drop k) : ∃ i, k ≤ i ∧ l[i]? = some x := by
  obtain ⟨i, hi⟩ := List.mem_iff_getElem?.1 h
  rw [List.getElem?_drop] at hi
  exact ⟨k + i, by omega, hi⟩
/-- Before a level's beginning: no more levels than before it. -/
theorem Wf.lvl_take (h : Wf s) {L : Nat} {lim : Int} (hL : s.limits[L]? = some lim) {i : Nat} (hi : (i : Int) < lim) : lvlAt s i = (s.limits.take L).countP fun l => decide (l ≤ (i : Int)) := by
  unfold lvlAt
  conv => lhs; rw [← List.take_append_drop L s.limits]
  rw [List.countP_append]
  have : (s.limits.drop L).countP (fun l => decide (l ≤ (i : Int))) = 0 := by
    rw [List.countP_eq_zero]
    intro l hl
    obtain ⟨j, h1, h2⟩ := mem_drop hl
    have := h.lim_at h1 hL h2
    simp
    omega
  omega
theorem Wf.lvl_below (h : Wf s) {L : Nat} {lim : Int} (hL : s.limits[L]? = some lim) {i : Nat} (hi : (i : Int) < lim) : lvlAt s i ≤ L := by
  rw [h.lvl_take hL hi]
  exact Nat.le_trans List.countP_le_length (by rw [List.length_take]; omega)
theorem Wf.lvl_above (h : Wf s) {L : Nat} {lim : Int} (hL : s.limits[L]? = some lim) {i : Nat} (hi : lim ≤ (i : Int)) : L < lvlAt s i := by
  unfold lvlAt
  rw [← List.take_append_drop (L + 1) s.limits, List.countP_append]
  have : (s.limits.take (L + 1)).countP (fun l => decide (l ≤ (i : Int))) = (s.limits.take (L + 1)).length := by
    rw [List.countP_eq_length]
    intro l hl
    obtain ⟨j, h1, h2⟩ := mem_take hl
    have := h.lim_at (by omega) h2 hL
    simp; omega
  have h3 := get_lt hL
  rw [this, List.length_take]
  omega
/-- What going back to a level does. -/
structure Back (s : St) (L : Nat) (s' : St) : Prop where
  wf : Wf s'
  lm : Lm s'
  trail : ∃ m : Nat, s'.trail = s.trail.take m ∧ (L < s.limits.length → s'.head = m) ∧ ∀ i : Nat, i < s.trail.length → (i < m ↔ lvlAt s i ≤ L)
  limits : s'.limits = s.limits.take L
  cls : s'.cls = s.cls
  watches : s'.watches = s.watches
  learnt : s'.learnt = s.learnt
  conflicts : s'.conflicts = s.conflicts
  added : s'.added = s.added
  bump : s'.bump = s.bump
  broken : s'.broken = s.broken
  vlen : s'.vars.length = s.vars.length
  var : ∀ n ∈ s'.trail, s'.vars[n.natAbs]? = s.vars[n.natAbs]?
  score : ∀ v : Nat, (s'.vars[v]?).map (·.score) = (s.vars[v]?).map (·.score)
  lvl : ∀ i, i < s'.trail.length → lvlAt s' i = lvlAt s i
  pi : PiLow s ∨ PiAll s → L < s.limits.length → PiAll s'
  same : s.limits.length ≤ L → s' = s
theorem back_ok (H : Wf s) (M : Lm s) (L : Nat) : ∃ s', backF s L = some s' ∧ Back s L s' := by
  unfold backF
  by_cases hl : levelF s ≤ (L : Int)
  · rw [if_pos hl]
    have hl' : s.limits.length ≤ L := by unfold levelF at hl; omega
    have hlv : ∀ i, lvlAt s i ≤ L := fun i => Nat.le_trans (lvl_le s i) hl'
    exact ⟨s, rfl, H, M, ⟨s.trail.length, by rw [List.take_length], fun h => by omega, fun i hi => ⟨fun _ => hlv i, fun _ => hi⟩⟩, by rw [List.take_of_length_le hl'], rfl, rfl, rfl, rfl, rfl, rfl, rfl, rfl, fun _ _ => rfl, fun _ => rfl, fun _ _ => rfl, fun _ h => by omega, fun _ => rfl⟩
  · rw [if_neg hl]
    have hl' : L < s.limits.length := by unfold levelF at hl; omega
    obtain ⟨lim, hlim⟩ := get_some hl'
    obtain ⟨l0, l1⟩ := H.lim lim (List.mem_of_getElem? hlim)
    obtain ⟨m, rfl⟩ : ∃ m : Nat, lim = m := ⟨lim.toNat, by omega⟩
    have hh := H.head
    have hne : s.trail.length ≠ 0 := fun e => M.some' (fun e2 => by rw [e2] at hl'; simp at hl') (List.eq_nil_of_length_eq_zero e)
    rw [nth_nat, hlim]
    simp only
    rw [if_neg (by omega), show ((m : Int)).toNat = m from by omega, show ((L : Int)).toNat = L from by omega]
    have hnd := H.nd
    have hdr : ∀ n ∈ s.trail.drop m, 1 ≤ n.natAbs ∧ n.natAbs < s.vars.length := fun n hn => H.trail_lt (List.mem_of_mem_drop hn)
    obtain ⟨s1, h1, U⟩ := unset_ok (s.trail.drop m) s H.hp H.siz hdr
    rw [h1]
    simp only [Option.map_some]
    have et : s1.trail = s.trail := by rw [U.eq]
    have el : s1.limits = s.limits := by rw [U.eq]
    have ec : s1.cls = s.cls := by rw [U.eq]
    have hml : m ≤ s.trail.length := by omega
    -- a literal before m is none of those behind
    have hkeep : ∀ n ∈ s.trail.take m, n.natAbs ∉ (s.trail.drop m).map Int.natAbs := fun n hn hm => by
      obtain ⟨n', hn', e⟩ := List.mem_map.1 hm
      obtain ⟨i, h2, h3⟩ := mem_take hn
      obtain ⟨j, h4, h5⟩ := mem_drop hn'
      have := H.nd_inj h5 h3 e
      omega
    have hget : ∀ (v : Nat), v < s.vars.length → ∃ a b, s1.vars[v]? = some a ∧ s.vars[v]? = some b ∧ ((v ∈ (s.trail.drop m).map Int.natAbs ∧ a = { b with lit := 0 }) ∨ (v ∉ (s.trail.drop m).map Int.natAbs ∧ a = b)) := fun v hv => by
      obtain ⟨a, ha⟩ := get_some (l := s1.vars) (i := v) (by rw [U.len]; exact hv)
      obtain ⟨b, hb, h2⟩ := U.var v a ha
      exact ⟨a, b, ha, hb, h2⟩
    have hvar : ∀ n ∈ s.trail.take m, s1.vars[n.natAbs]? = s.vars[n.natAbs]? := fun n hn => by
      obtain ⟨a, b, h2, h3, h4⟩ := hget n.natAbs (H.trail_lt (List.mem_of_mem_take hn)).2
      rcases h4 with ⟨h4, _⟩ | ⟨_, h4⟩
      · exact absurd h4 (hkeep n hn)
      · rw [h2, h3, h4]
    have hlv : ∀ i : Nat, i < s.trail.length → (i < m ↔ lvlAt s i ≤ L) := fun i hi => by
      constructor
      · intro h2; exact H.lvl_below hlim (by omega)
      · intro h2
        by_cases h3 : i < m
        · exact h3
        · have := H.lvl_above hlim (i := i) (by omega)
          omega
    obtain ⟨s', hs'⟩ : ∃ s' : St, s' = { s1 with trail := s1.trail.take m, limits := s1.limits.take L, head := (m : Int) } := ⟨_, rfl⟩
    have t' : s'.trail = s.trail.take m := by rw [hs', ← et]
    have li' : s'.limits = s.limits.take L := by rw [hs', ← el]
    have v' : s'.vars = s1.vars := by rw [hs']
    have c' : s'.cls = s.cls := by rw [hs', ← ec]
    have hlvs : ∀ i, i < m → lvlAt s' i = lvlAt s i := fun i hi => by
      rw [H.lvl_take hlim (by omega)]
      unfold lvlAt
      rw [li']
    have hsp : ∀ (i : Nat) n, s'.trail[i]? = some n → i < m ∧ s.trail[i]? = some n := fun i n hn => by
      rw [t'] at hn
      have h2 := get_lt hn
      rw [List.length_take] at h2
      rw [List.getElem?_take_of_lt (by omega)] at hn
      exact ⟨by omega, hn⟩
    have hsp2 : ∀ (i : Nat) n, i < m → s.trail[i]? = some n → s'.trail[i]? = some n := fun i n hi hn => by rw [t', List.getElem?_take_of_lt hi]; exact hn
    have htk : ∀ (i : Nat) n, s'.trail[i]? = some n → s'.vars[n.natAbs]? = s.vars[n.natAbs]? := fun i n hn => by
      rw [v']
      exact hvar n (by rw [← t']; exact List.mem_of_getElem? hn)
    have W : Wf s' := by
      refine ⟨by rw [hs']; exact ⟨U.hp.len, U.hp.pos, U.hp.at', U.hp.inv⟩, by rw [v', U.len]; exact H.siz, by rw [c']; exact H.csz, fun v a ha => ?_, fun n hn => ?_, ?_, fun v a hv ha h0 => ?_, fun l hl2 => ?_, ?_, ⟨by rw [hs']; show (0 : Int) ≤ (m : Int); omega, by rw [t', hs', List.length_take]; show (m : Int) ≤ _; omega⟩, fun c x hx => ?_, fun i n a hi ha => ?_, fun i n a c hi ha hr => ?_, fun i n a hi ha hr => ?_⟩
      · rw [v'] at ha
        obtain ⟨b, hb, h2⟩ := U.var v a ha
        rcases h2 with ⟨_, h3⟩ | ⟨h2, h3⟩
        · left; rw [h3]
        · subst h3
          rcases H.val v a hb with h4 | ⟨h4, h5⟩
          · exact .inl h4
          · refine .inr ⟨h4, ?_⟩
            rw [t']
            rw [← List.take_append_drop m s.trail] at h5
            rcases List.mem_append.1 h5 with h5 | h5
            · exact h5
            · exact absurd (List.mem_map.2 ⟨_, h5, h4⟩) h2
      · rw [t'] at hn
        obtain ⟨h2, a, h3, h4⟩ := H.mem n (List.mem_of_mem_take hn)
        exact ⟨h2, a, by rw [v', hvar n hn]; exact h3, h4⟩
      · rw [t', List.map_take]
        exact H.nd.sublist (List.take_sublist _ _)
      · rw [v'] at ha
        have hih : ∀ u, inH s1 u → inH s' u := fun u hu => by rw [hs']; exact hu
        obtain ⟨b, hb, h2⟩ := U.var v a ha
        rcases h2 with ⟨h2, _⟩ | ⟨h2, h3⟩
        · obtain ⟨n, hn, e⟩ := List.mem_map.1 h2
          rw [← e]
          exact hih _ (U.new n hn)
        · subst h3
          exact hih _ (U.mem v (H.free v a hv hb h0))
      · rw [li'] at hl2
        obtain ⟨j, h2, h3⟩ := mem_take hl2
        have h4 := H.lim l (List.mem_of_mem_take hl2)
        have h5 := H.lim_at (by omega) h3 hlim
        exact ⟨h4.1, by rw [hs']; exact h5⟩
      · rw [li']
        exact H.limo.sublist (List.take_sublist _ _)
      · rw [c'] at hx
        rw [v', U.len]
        exact H.cls c x hx
      · rw [htk i n hi] at ha
        obtain ⟨h2, h3⟩ := hsp i n hi
        rw [hlvs i h2]
        exact H.lev i n a h3 ha
      · rw [htk i n hi] at ha
        obtain ⟨h2, h3⟩ := hsp i n hi
        obtain ⟨h4, h5⟩ := H.rea i n a c h3 ha hr
        exact ⟨fun h6 => h4 (List.mem_of_mem_take (by rw [← li']; exact h6)), h5.mono (fun j k hj hk => hsp2 j k (by omega) hk) fun x hx => ⟨x, by rw [c']; exact hx, fun _ => Iff.rfl⟩⟩
      · rw [htk i n hi] at ha
        obtain ⟨h2, h3⟩ := hsp i n hi
        rw [hlvs i h2]
        rcases H.dec i n a h3 ha hr with h4 | h4
        · left
          rw [li']
          obtain ⟨j, hj⟩ := List.mem_iff_getElem?.1 h4
          have hjL : j < L := by
            by_cases h5 : j < L
            · exact h5
            · have := H.lim_at (by omega : L ≤ j) hlim hj
              omega
          exact List.mem_iff_getElem?.2 ⟨j, by rw [List.getElem?_take_of_lt hjL]; exact hj⟩
        · exact .inr h4
    refine ⟨s', by rw [hs'], W, ⟨fun j l hj hjl => ?_, fun hne2 => ?_⟩, ⟨m, t', fun _ => by rw [hs'], hlv⟩, li', c', by rw [hs', U.eq], by rw [hs', U.eq], by rw [hs', U.eq], by rw [hs', U.eq], by rw [hs', U.eq], by rw [hs', U.eq], by rw [v', U.len], fun n hn => ?_, fun v => ?_, fun i hi => ?_, fun hp _ => ?_, fun h2 => by omega⟩
    · rw [li'] at hjl
      have h2 := get_lt hjl
      rw [List.length_take] at h2
      rw [List.getElem?_take_of_lt (by omega)] at hjl
      exact M.one j l hj hjl
    · intro e
      rw [t'] at e
      have h2 : L ≠ 0 := fun e2 => hne2 (by rw [li', e2]; rfl)
      have h3 := M.one L m (by omega) hlim
      have h4 := congrArg List.length e
      rw [List.length_take, List.length_nil] at h4
      omega
    · rw [v']; exact hvar n (by rw [← t']; exact hn)
    · rw [v']
      by_cases hv : v < s.vars.length
      · obtain ⟨a, b, h2, h3, h4⟩ := hget v hv
        rw [h2, h3]
        rcases h4 with ⟨_, h4⟩ | ⟨_, h4⟩ <;> rw [h4] <;> rfl
      · rw [List.getElem?_eq_none (by rw [U.len]; omega), List.getElem?_eq_none (by omega)]
    · rw [t', List.length_take] at hi
      exact hlvs i (by omega)
    · intro d y a b r hy hyl u o huo j hj htj _
      rw [c'] at hy
      obtain ⟨h2, h3⟩ := hsp j _ htj
      have hj2 : (j : Int) < s.head := by omega
      have h4 : ∃ i, s.trail[i]? = some o ∧ lvlAt s i ≤ lvlAt s j := by
        rcases hp with hp | hp
        · exact hp d y a b r hy hyl u o huo j hj2 h3 (by have := (hlv j (by omega)).1 h2; show lvlAt s j < s.limits.length; omega)
        · exact hp d y a b r hy hyl u o huo j hj2 h3 trivial
      obtain ⟨i, h5, h6⟩ := h4
      have h7 : i < m := (hlv i (get_lt h5)).2 (by have := (hlv j (by omega)).1 h2; omega)
      exact ⟨i, hsp2 i o h7 h5, by rw [hlvs i h7, hlvs j h2]; exact h6⟩
end
end Go.Sat
/- More variables; a level that begins; what is decided, as plain data. -/
namespace Go.Sat
/-- All but propagation. -/
structure Base (s : St) : Prop where
  wf : Wf s
  wt : Wt s (watched s)
  lm : Lm s
/-- All is propagated. -/
structure Full (s : St) : Prop where
  base : Base s
  pi : PiAll s
  hd : s.head = s.trail.length
theorem Full.ok {s : St} (h : Full s) : Ok s := ⟨h.base.wf, h.base.wt, h.pi⟩
section
variable {s s' : St}
theorem Head2.of_cls {s s' : St} (e : s'.cls = s.cls) {c : Nat} {k : Int} : Head2 s' c k ↔ Head2 s c k := by unfold Head2; rw [e]
theorem Wt.of_eq (h : Wt s (watched s)) (ec : s'.cls = s.cls) (ew : s'.watches = s.watches) : Wt s' (watched s') := by
  have e : watched s' = watched s := by funext k; unfold watched; rw [ew]
  rw [e]
  exact ⟨fun k c => (h.mem k c).trans (Head2.of_cls ec).symm, h.nd⟩
theorem PiX.of_eq {X : Nat → Nat → Prop} (h : PiX s X) (ec : s'.cls = s.cls) (et : s'.trail = s.trail) (el : s'.limits = s.limits) (eh : s'.head ≤ s.head) : PiX s' X := by
  intro d y a b r hy hyl u o huo j hj htj hX
  rw [ec] at hy
  rw [et] at htj
  obtain ⟨i, h1, h2⟩ := h d y a b r hy hyl u o huo j (by omega) htj hX
  refine ⟨i, by rw [et]; exact h1, ?_⟩
  unfold lvlAt at h2 ⊢
  rw [el]; exact h2
/-- Another heap. -/
theorem Wf.heap (H : Wf s) {h p : List Int} (hh : Hp h p s.vars.length) (hf : ∀ (v : Nat) a, 1 ≤ v → s.vars[v]? = some a → a.lit = 0 → inH { s with heap := h, place := p } v) : Wf { s with heap := h, place := p } :=
  ⟨hh, H.siz, H.csz, H.val, H.mem, H.nd, hf, H.lim, H.limo, H.head, H.cls, H.lev, H.rea, H.dec⟩
theorem Grown.wf (H : Wf s) (g : Grown s s') (hs : s'.vars.length ≤ 1048577) : Wf s' := by
  obtain ⟨m, e⟩ := g.eq
  have hl := g.len
  have ev : s'.vars = s.vars ++ List.replicate m noFact := by rw [e]
  have et : s'.trail = s.trail := by rw [e]
  have el : s'.limits = s.limits := by rw [e]
  have eh : s'.head = s.head := by rw [e]
  have ec : s'.cls = s.cls := by rw [e]
  have hold : ∀ (v : Nat), v < s.vars.length → s'.vars[v]? = s.vars[v]? := fun v hv => by rw [ev, List.getElem?_append_left hv]
  have hnew : ∀ (v : Nat) a, s.vars.length ≤ v → s'.vars[v]? = some a → a = noFact := fun v a hv ha => by
    rw [ev, List.getElem?_append_right hv] at ha
    have h1 := get_lt ha
    rw [List.length_replicate] at h1
    rw [List.getElem?_replicate, if_pos h1] at ha
    exact (Option.some.inj ha).symm
  have hlv : ∀ i, lvlAt s' i = lvlAt s i := fun i => by unfold lvlAt; rw [el]
  have htv : ∀ (i : Nat) n, s'.trail[i]? = some n → s.trail[i]? = some n ∧ s'.vars[n.natAbs]? = s.vars[n.natAbs]? := fun i n hn => by
    rw [et] at hn
    exact ⟨hn, hold _ (H.trail_lt (List.mem_of_getElem? hn)).2⟩
  refine ⟨g.hp, hs, by rw [ec]; exact H.csz, fun v a ha => ?_, fun n hn => ?_, by rw [et]; exact H.nd, fun v a hv ha h0 => ?_, by rw [el, eh]; exact H.lim, by rw [el]; exact H.limo, by rw [eh, et]; exact H.head, fun c x hx => ?_, fun i n a hi ha => ?_, fun i n a c hi ha hr => ?_, fun i n a hi ha hr => ?_⟩
  · rw [et]
    by_cases h1 : v < s.vars.length
    · rw [hold v h1] at ha; exact H.val v a ha
    · rw [hnew v a (by omega) ha]; exact .inl rfl
  · rw [et] at hn
    obtain ⟨h1, a, h2, h3⟩ := H.mem n hn
    exact ⟨h1, a, by rw [hold _ (get_lt h2)]; exact h2, h3⟩
  · by_cases h1 : v < s.vars.length
    · rw [hold v h1] at ha; exact g.mem v (H.free v a hv ha h0)
    · exact g.new v (by omega) (get_lt ha)
  · rw [ec] at hx
    have := H.cls c x hx
    exact ⟨this.two, fun n hn => ⟨(this.var n hn).1, by have := (this.var n hn).2; omega⟩, this.nd⟩
  · obtain ⟨h1, h2⟩ := htv i n hi
    rw [h2] at ha
    rw [hlv]; exact H.lev i n a h1 ha
  · obtain ⟨h1, h2⟩ := htv i n hi
    rw [h2] at ha
    obtain ⟨h3, h4⟩ := H.rea i n a c h1 ha hr
    exact ⟨by rw [el]; exact h3, h4.mono (fun j k _ hk => by rw [et]; exact hk) fun x hx => ⟨x, by rw [ec]; exact hx, fun _ => Iff.rfl⟩⟩
  · obtain ⟨h1, h2⟩ := htv i n hi
    rw [h2] at ha
    rw [el, hlv]; exact H.dec i n a h1 ha hr
theorem Grown.lm (M : Lm s) (g : Grown s s') : Lm s' := by
  obtain ⟨m, e⟩ := g.eq
  rw [e]
  exact ⟨M.one, M.some'⟩
theorem Grown.base (H : Base s) (g : Grown s s') (hs : s'.vars.length ≤ 1048577) : Base s' := by
  obtain ⟨m, e⟩ := g.eq
  exact ⟨g.wf H.wf hs, H.wt.of_eq (by rw [e]) (by rw [e]), g.lm H.lm⟩
theorem Grown.full (H : Full s) (g : Grown s s') (hs : s'.vars.length ≤ 1048577) : Full s' := by
  obtain ⟨m, e⟩ := g.eq
  exact ⟨g.base H.base hs, H.pi.of_eq (by rw [e]) (by rw [e]) (by rw [e]) (by rw [e]; exact Int.le_refl _), by rw [e]; exact H.hd⟩
/-- A level begins. -/
def lvlUp (s : St) : St := { s with limits := s.limits ++ [(s.trail.length : Int)] }
theorem lvlUp_at (s : St) {i : Nat} (hi : i < s.trail.length) : lvlAt (lvlUp s) i = lvlAt s i := by
  unfold lvlAt lvlUp
  simp only [List.countP_append]
  have : List.countP (fun l => decide (l ≤ (i : Int))) [(s.trail.length : Int)] = 0 := by
    rw [List.countP_eq_zero]; intro l hl; simp at hl; subst hl; simp; omega
  omega
theorem Full.wf_up (H : Full s) : Wf (lvlUp s) := by
  have W := H.base.wf
  have hin : ∀ i : Nat, i < s.trail.length → ((i : Int) ∈ (lvlUp s).limits ↔ (i : Int) ∈ s.limits) := fun i hi => by
    show (i : Int) ∈ s.limits ++ [(s.trail.length : Int)] ↔ _
    simp; omega
  refine ⟨W.hp, W.siz, W.csz, W.val, W.mem, W.nd, W.free, fun l hl => ?_, ?_, W.head, W.cls, fun i n a hi ha => ?_, fun i n a c hi ha hr => ?_, fun i n a hi ha hr => ?_⟩
  · rcases List.mem_append.1 hl with hl | hl
    · exact W.lim l hl
    · simp at hl
      subst hl
      exact ⟨by omega, by show (s.trail.length : Int) ≤ s.head; rw [H.hd]; exact Int.le_refl _⟩
  · show (s.limits ++ [(s.trail.length : Int)]).Pairwise (· ≤ ·)
    rw [List.pairwise_append]
    refine ⟨W.limo, by simp, fun a ha b hb => ?_⟩
    simp at hb
    subst hb
    have := W.lim a ha
    rw [H.hd] at this
    exact this.2
  · rw [lvlUp_at s (get_lt hi)]
    exact W.lev i n a hi ha
  · obtain ⟨h1, h2⟩ := W.rea i n a c hi ha hr
    exact ⟨fun h3 => h1 ((hin i (get_lt hi)).1 h3), h2⟩
  · rw [lvlUp_at s (get_lt hi), hin i (get_lt hi)]
    exact W.dec i n a hi ha hr
/-- A level begins because an assumption is true. -/
theorem Full.up (H : Full s) (ht : s.trail ≠ []) : Full (lvlUp s) := by
  refine ⟨⟨H.wf_up, H.base.wt.of_eq rfl rfl, ⟨fun j l hj hl => ?_, fun _ => ht⟩⟩, fun d y a b r hy hyl u o huo j hj htj hX => ?_, H.hd⟩
  · by_cases h1 : j < s.limits.length
    · have h2 : (lvlUp s).limits[j]? = s.limits[j]? := List.getElem?_append_left h1
      rw [h2] at hl
      exact H.base.lm.one j l hj hl
    · have h2 : (lvlUp s).limits[j]? = [(s.trail.length : Int)][j - s.limits.length]? := List.getElem?_append_right (by omega)
      rw [h2] at hl
      have h3 := get_lt hl
      simp at h3
      have h4 : j - s.limits.length = 0 := by omega
      rw [h4] at hl
      cases hl
      have : s.trail.length ≠ 0 := fun e => ht (List.eq_nil_of_length_eq_zero e)
      omega
  · obtain ⟨i, h1, h2⟩ := H.pi d y a b r hy hyl u o huo j hj htj trivial
    exact ⟨i, h1, by rw [lvlUp_at s (get_lt h1), lvlUp_at s (get_lt htj)]; exact h2⟩
/-- What is decided: the literal's set at a new level. -/
structure Decided (s : St) (n : Int) (s' : St) : Prop where
  ok : Ok s'
  lm : Lm s'
  trail : s'.trail = s.trail ++ [n]
  limits : s'.limits = s.limits ++ [(s.trail.length : Int)]
  head : s'.head = s.head
  cls : s'.cls = s.cls
  learnt : s'.learnt = s.learnt
  conflicts : s'.conflicts = s.conflicts
  added : s'.added = s.added
  bump : s'.bump = s.bump
  broken : s'.broken = s.broken
  vlen : s'.vars.length = s.vars.length
  old : ∀ m ∈ s.trail, s'.vars[m.natAbs]? = s.vars[m.natAbs]?
  new : ∃ a, s'.vars[n.natAbs]? = some a ∧ a.reason = none
  score : ∀ v : Nat, (s'.vars[v]?).map (·.score) = (s.vars[v]?).map (·.score)
theorem setF_heap (s : St) (n : Int) (why : Option Nat) (h p : List Int) : setF { s with heap := h, place := p } n why = (setF s n why).map fun t => { t with heap := h, place := p } := by
  unfold setF setF0
  by_cases hg : (smlB n && roomB s.trail.length) = true
  · rw [if_pos hg, if_pos hg]
    cases h1 : nth s.vars (ofF n) with
    | none => rfl
    | some v =>
      simp only
      show Option.map _ (setN s.vars (ofF n) _) = Option.map _ (Option.map _ _)
      rw [Option.map_map]
      rfl
  · rw [if_neg hg, if_neg hg]; rfl
theorem Full.decide (H : Full s) {n : Int} {h p : List Int} (h0 : n ≠ 0) (hn : n.natAbs < s.vars.length) (hu : n ∉ s.trail ∧ -n ∉ s.trail)
    (hh : Hp h p s.vars.length) (hf : ∀ (v : Nat) a, 1 ≤ v → v ≠ n.natAbs → s.vars[v]? = some a → a.lit = 0 → inH { s with heap := h, place := p } v) :
    ∃ s', setF { lvlUp s with heap := h, place := p } n none = some s' ∧ Decided s n s' := by
  have W := H.wf_up
  obtain ⟨t, a, b, h1, h2, h3, h4, h5⟩ := W.set (why := none) h0 hn hu (fun c e => by cases e) (fun _ => .inl (by show (s.trail.length : Int) ∈ s.limits ++ [(s.trail.length : Int)]; simp))
  rw [setF_heap, h1]
  have hg : ∀ v : Nat, t.vars[v]? = if n.natAbs = v then some b else s.vars[v]? := fun v => by
    rw [h2]
    simp only
    rw [set_get]
    by_cases e : n.natAbs = v
    · rw [if_pos e, if_pos e, if_pos (by have : (lvlUp s).vars = s.vars := rfl; rw [this]; omega)]
    · rw [if_neg e, if_neg e]; rfl
  have htl : t.vars.length = s.vars.length := by rw [h2]; simp [lvlUp]
  have hold : ∀ m ∈ s.trail, ¬ n.natAbs = m.natAbs := fun m hm e => by
    have : m = n ∨ m = -n := by omega
    rcases this with rfl | rfl
    · exact hu.1 hm
    · exact hu.2 hm
  have hb0 : b.lit = n := by rw [h4]
  have W2 : Wf { t with heap := h, place := p } := by
    refine h5.heap (by rw [htl]; exact hh) fun v f hv hf2 hl => ?_
    rw [hg] at hf2
    by_cases e : n.natAbs = v
    · rw [if_pos e] at hf2
      cases hf2
      omega
    · rw [if_neg e] at hf2
      have := hf v f hv (fun e2 => e e2.symm) hf2 hl
      exact this
  have tt : t.trail = s.trail ++ [n] := by rw [h2]; rfl
  have tl : t.limits = s.limits ++ [(s.trail.length : Int)] := by rw [h2]; rfl
  have th : t.head = s.head := by rw [h2]; rfl
  have tc : t.cls = s.cls := by rw [h2]; rfl
  refine ⟨_, rfl, ⟨W2, H.base.wt.of_eq tc (by show t.watches = _; rw [h2]; rfl), fun d y a' b' r hy hyl u o huo j hj htj hX => ?_⟩, ⟨fun j l hj hl => ?_, fun _ => by show t.trail ≠ []; rw [tt]; simp⟩, tt, tl, th, tc, by show t.learnt = _; rw [h2]; rfl, by show t.conflicts = _; rw [h2]; rfl, by show t.added = _; rw [h2]; rfl, by show t.bump = _; rw [h2]; rfl, by show t.broken = _; rw [h2]; rfl, htl, fun m hm => ?_, ⟨b, ?_, by rw [h4]⟩, fun v => ?_⟩
  · have hy' : s.cls[d]? = some y := by rw [← tc]; exact hy
    have hj' : (j : Int) < s.head := by rw [← th]; exact hj
    have hjl : j < s.trail.length := by have := H.hd; omega
    have htj' : (s.trail ++ [n])[j]? = some (-u) := by rw [← tt]; exact htj
    rw [List.getElem?_append_left hjl] at htj'
    obtain ⟨i, h6, h7⟩ := H.pi d y a' b' r hy' hyl u o huo j hj' htj' trivial
    refine ⟨i, ?_, ?_⟩
    · show t.trail[i]? = _
      rw [tt, List.getElem?_append_left (get_lt h6)]; exact h6
    · have e : ∀ i, lvlAt { t with heap := h, place := p } i = lvlAt (lvlUp s) i := fun i => by unfold lvlAt; show List.countP _ t.limits = _; rw [tl]; rfl
      rw [e, e, lvlUp_at s (get_lt h6), lvlUp_at s hjl]
      exact h7
  · have hl2 : (s.limits ++ [(s.trail.length : Int)])[j]? = some l := by rw [← tl]; exact hl
    by_cases h1 : j < s.limits.length
    · rw [List.getElem?_append_left h1] at hl2
      exact H.base.lm.one j l hj hl2
    · rw [List.getElem?_append_right (by omega)] at hl2
      have h6 := get_lt hl2
      simp at h6
      have h7 : j - s.limits.length = 0 := by omega
      rw [h7] at hl2
      cases hl2
      have h8 : s.limits ≠ [] := fun e => by rw [e] at h7; simp at h7; omega
      have : s.trail.length ≠ 0 := fun e => H.base.lm.some' h8 (List.eq_nil_of_length_eq_zero e)
      omega
  · show t.vars[m.natAbs]? = _
    rw [hg, if_neg (hold m hm)]
  · show t.vars[n.natAbs]? = _
    rw [hg, if_pos rfl]
  · show (t.vars[v]?).map _ = _
    rw [hg]
    by_cases e : n.natAbs = v
    · rw [if_pos e, ← e]
      have h3' : s.vars[n.natAbs]? = some a := h3
      rw [h3', h4]; rfl
    · rw [if_neg e]
/-- The next one in the heap that is neither true nor false, or there is none. -/
theorem choose_ok : ∀ (k : Nat) (s : St), Full s → s.heap.length < k →
    (∃ s', chooseF k s = some (0, s') ∧ Full s' ∧ s' = { s with heap := s'.heap, place := s'.place } ∧ ∀ v : Nat, 1 ≤ v → v < s.vars.length → ∃ a, s.vars[v]? = some a ∧ a.lit ≠ 0) ∨
    ∃ (v : Nat) (s' : St), chooseF k s = some ((v : Int), s') ∧ 1 ≤ v ∧ v < s.vars.length ∧ (v : Int) ∉ s.trail ∧ -(v : Int) ∉ s.trail ∧ s' = { s with heap := s'.heap, place := s'.place } ∧ Hp s'.heap s'.place s.vars.length ∧ ∀ (u : Nat) a, 1 ≤ u → u ≠ v → s.vars[u]? = some a → a.lit = 0 → inH s' u
  | 0, _, _, h => by omega
  | k + 1, s, H, hk => by
    have W := H.base.wf
    unfold chooseF
    by_cases h0 : s.heap.length = 0
    · rw [if_pos h0]
      refine .inl ⟨s, rfl, H, rfl, fun v hv hl => ?_⟩
      obtain ⟨a, ha⟩ := get_some hl
      refine ⟨a, ha, fun e => ?_⟩
      obtain ⟨p, h1, h2⟩ := W.free v a hv ha e
      rcases W.hp.inv v p h1 with h3 | h3
      · omega
      · have := get_lt h3; omega
    · rw [if_neg h0]
      obtain ⟨v, s1, h1, h2, h3, h4⟩ := pop_ok W.hp W.siz h0
      rw [h1]
      simp only
      obtain ⟨a, ha⟩ := get_some h3
      have ev : s1.vars = s.vars := by rw [h4.eq]
      rw [nth_nat, ev, ha]
      simp only
      have hp1 : Hp s1.heap s1.place s.vars.length := by have := h4.hp; unfold Hps at this; rw [ev] at this; exact this
      by_cases hl : a.lit = 0
      · rw [if_pos hl]
        have hno : ∀ m : Int, m.natAbs = v → m ∉ s.trail := fun m hm hmt => by
          obtain ⟨h5, b, h6, h7⟩ := W.mem m hmt
          rw [hm, ha] at h6
          cases h6
          omega
        exact .inr ⟨v, s1, rfl, h2, h3, hno _ (by omega), hno _ (by omega), h4.eq, hp1, fun u b hu huv hb hbl => h4.mem u huv (W.free u b hu hb hbl)⟩
      · rw [if_neg hl]
        have W1 : Wf s1 := by
          rw [h4.eq]
          refine W.heap hp1 fun u b hu hb hbl => ?_
          have huv : u ≠ v := fun e => by rw [e, ha] at hb; cases hb; exact hl hbl
          exact h4.mem u huv (W.free u b hu hb hbl)
        have H1 : Full s1 := ⟨⟨W1, H.base.wt.of_eq (by rw [h4.eq]) (by rw [h4.eq]), by rw [h4.eq]; exact ⟨H.base.lm.one, H.base.lm.some'⟩⟩, H.pi.of_eq (by rw [h4.eq]) (by rw [h4.eq]) (by rw [h4.eq]) (by rw [h4.eq]; exact Int.le_refl _), by rw [h4.eq]; exact H.hd⟩
        have et : s1.trail = s.trail := by rw [h4.eq]
        rcases choose_ok k s1 H1 (by have := h4.len; omega) with ⟨s2, h5, h6, h7, h8⟩ | ⟨u, s2, h5, h6, h7, h8, h9, h10, h11, h12⟩
        · exact .inl ⟨s2, h5, h6, by rw [h7, h4.eq], by rw [← ev]; exact h8⟩
        · exact .inr ⟨u, s2, h5, h6, by rw [← ev]; exact h7, by rw [← et]; exact h8, by rw [← et]; exact h9, by rw [h10, h4.eq], by rw [← ev]; exact h11, by rw [← ev]; exact h12⟩
end
end Go.Sat
/- Rising rows; why an assumption can't be; what is decided where some is assumed, as plain data. -/
namespace Go.Sat
theorem ins_mem (x : Int) : ∀ (l : List Int) (y : Int), y ∈ insertF x l ↔ y = x ∨ y ∈ l
  | [], y => by simp [insertF]
  | a :: r, y => by
    unfold insertF
    split
    · simp
    · split
      · rename_i h1 h2; subst h2; simp
      · simp only [List.mem_cons, ins_mem x r y]
        constructor
        · rintro (h | h | h)
          · exact .inr (.inl h)
          · exact .inl h
          · exact .inr (.inr h)
        · rintro (h | h | h)
          · exact .inr (.inl h)
          · exact .inl h
          · exact .inr (.inr h)
theorem ins_sorted (x : Int) : ∀ (l : List Int), l.Pairwise (· < ·) → (insertF x l).Pairwise (· < ·)
  | [], _ => by simp [insertF]
  | a :: r, h => by
    unfold insertF
    obtain ⟨h1, h2⟩ := List.pairwise_cons.1 h
    split
    · rename_i h3
      exact List.pairwise_cons.2 ⟨fun y hy => by
        rcases List.mem_cons.1 hy with rfl | hy
        · exact h3
        · have := h1 y hy; omega, h⟩
    · split
      · exact h
      · rename_i h3 h4
        refine List.pairwise_cons.2 ⟨fun y hy => ?_, ins_sorted x r h2⟩
        rcases (ins_mem x r y).1 hy with rfl | hy
        · omega
        · exact h1 y hy
theorem srt_mem : ∀ (l : List Int) (y : Int), y ∈ sortedF l ↔ y ∈ l
  | [], y => by simp [sortedF]
  | a :: r, y => by unfold sortedF; rw [ins_mem, srt_mem r y]; simp
theorem srt_sorted : ∀ (l : List Int), (sortedF l).Pairwise (· < ·)
  | [] => by simp [sortedF]
  | a :: r => by unfold sortedF; exact ins_sorted a _ (srt_sorted r)
theorem srt_nodup (l : List Int) : (sortedF l).Nodup := (srt_sorted l).imp fun h => by omega
section
variable {s : St}
/-- Down along the trail: only what is assumed comes out. -/
theorem coreL_ok (H : Wf s) (assume : List Int) (hcl : ∀ n, n < s.vars.length → n ≤ 1048577) : ∀ (l : List Int) (why out : List Int), (∀ m ∈ l, m ∈ s.trail) → out.length + l.length ≤ 1099511627776 → ∃ o, coreL s assume why out l = some o ∧ ∀ m ∈ o, m ∈ out ∨ m ∈ assume
  | [], why, out, _, _ => ⟨out, rfl, fun m hm => .inl hm⟩
  | m :: r, why, out, hl, hs => by
    have hm := hl m List.mem_cons_self
    have hr : ∀ m' ∈ r, m' ∈ s.trail := fun m' h => hl m' (List.mem_cons_of_mem _ h)
    obtain ⟨h0, a, ha, _⟩ := H.mem m hm
    obtain ⟨i, hi⟩ := List.mem_iff_getElem?.1 hm
    have hsz := H.siz
    unfold coreL
    have hg : (smlB m && roomB out.length) = true := by
      rw [sml_iff.2 (by have := (H.trail_lt hm).2; omega)]
      have : roomB out.length = true := by unfold roomB; simp at hs ⊢; omega
      rw [this]; rfl
    rw [hg, ofF_eq, nth_nat, ha]
    simp only [Bool.true_eq_false, if_false]
    have hs2 : out.length + r.length + 1 ≤ 1099511627776 := by simp only [List.length_cons] at hs; omega
    by_cases hw : (m.natAbs : Int) ∈ why
    · rw [if_pos hw]
      cases hre : a.reason with
      | none =>
        simp only
        obtain ⟨o, h1, h2⟩ := coreL_ok H assume hcl r why (if m ∈ assume then out ++ [m] else out) hr (by
          split
          · simp only [List.length_append, List.length_cons, List.length_nil]; omega
          · omega)
        refine ⟨o, h1, fun x hx => ?_⟩
        rcases h2 x hx with h3 | h3
        · by_cases hma : m ∈ assume
          · rw [if_pos hma] at h3
            rcases List.mem_append.1 h3 with h3 | h3
            · exact .inl h3
            · simp at h3; subst h3; exact .inr hma
          · rw [if_neg hma] at h3; exact .inl h3
        · exact .inr h3
      | some c =>
        simp only
        obtain ⟨_, x, hx, _⟩ := H.rea i m a c hi ha hre
        rw [hx]
        simp only
        have hall : x.lits.all smlB = true := by
          rw [List.all_eq_true]
          intro y hy
          exact sml_iff.2 (by have := ((H.cls c x hx).var y hy).2; omega)
        rw [if_pos hall]
        exact coreL_ok H assume hcl r _ out hr (by omega)
    · rw [if_neg hw]
      exact coreL_ok H assume hcl r why out hr (by omega)
theorem core_ok (H : Wf s) (assume : List Int) (n : Int) (hn : n.natAbs < s.vars.length) (ha : n ∈ assume) : ∃ o, coreF s n assume = some o ∧ o.Nodup ∧ ∀ m ∈ o, m ∈ assume := by
  have hsz := H.siz
  unfold coreF
  rw [sml_iff.2 (by omega)]
  simp only [Bool.true_eq_false, if_false]
  cases hl : s.limits.head? with
  | none =>
    simp only
    exact ⟨_, rfl, srt_nodup _, fun m hm => by rw [srt_mem] at hm; simp at hm; rw [hm]; exact ha⟩
  | some b =>
    simp only
    have hb : b ∈ s.limits := List.mem_of_mem_head? (by rw [hl]; rfl)
    have := (H.lim b hb).1
    rw [if_neg (by omega)]
    have htl := H.tlen
    obtain ⟨o, h1, h2⟩ := coreL_ok H assume (fun n hn => by omega) (s.trail.drop b.toNat).reverse [ofF n] [n] (fun m hm => List.mem_of_mem_drop (List.mem_reverse.1 hm)) (by simp; omega)
    rw [h1]
    simp only [Option.bind_some]
    have hol : ∀ (l why out : List Int) (o : List Int), coreL s assume why out l = some o → o.length ≤ out.length + l.length := by
      intro l
      induction l with
      | nil => intro why out o h; unfold coreL at h; cases h; simp
      | cons m r ih =>
        intro why out o h
        unfold coreL at h
        split at h
        · cases h
        · split at h
          · split at h
            · cases h
            · split at h
              · split at h
                · cases h
                · split at h
                  · have := ih _ _ _ h; simp; omega
                  · cases h
              · have := ih _ _ _ h
                split at this <;> simp at this ⊢ <;> omega
          · have := ih _ _ _ h; simp; omega
    have h3 := hol _ _ _ _ h1
    have : roomB o.length = true := by unfold roomB; simp at h3 ⊢; omega
    rw [if_pos this]
    refine ⟨_, rfl, srt_nodup _, fun m hm => ?_⟩
    rw [srt_mem] at hm
    rcases h2 m hm with h4 | h4
    · simp at h4; rw [h4]; exact ha
    · exact h4
end
/-- What is assumed is true as far as the levels go; what was decided there is assumed. -/
structure AsmI (assume : List Int) (s : St) : Prop where
  tr : ∀ (j : Nat) n, j < s.limits.length → assume[j]? = some n → ∃ i, s.trail[i]? = some n ∧ lvlAt s i ≤ j + 1
  dec : ∀ (i : Nat) n, s.trail[i]? = some n → (i : Int) ∈ s.limits → lvlAt s i ≤ assume.length → n ∈ assume
theorem AsmI.zero {assume : List Int} {s : St} (h : s.limits = []) : AsmI assume s := ⟨fun j n hj => by rw [h] at hj; simp at hj, fun i n _ hi => by rw [h] at hi; cases hi⟩
theorem AsmI.ext {assume : List Int} {s s' : St} (A : AsmI assume s) (E : Ext s s') (W : Wf s') : AsmI assume s' := by
  refine ⟨fun j n hj hn => ?_, fun i n hi hl hlv => ?_⟩
  · obtain ⟨i, h1, h2⟩ := A.tr j n (by rw [← E.limits]; exact hj) hn
    exact ⟨i, E.at' h1, by rw [E.lvl]; exact h2⟩
  · by_cases h1 : i < s.trail.length
    · obtain ⟨m, hm⟩ := get_some h1
      have h2 := E.at' hm
      rw [hi] at h2
      cases h2
      exact A.dec i n hm (by rw [← E.limits]; exact hl) (by rw [← E.lvl]; exact hlv)
    · obtain ⟨_, a, ha, _⟩ := W.mem n (List.mem_of_getElem? hi)
      have h2 := E.new i n a (by omega) hi ha
      cases hr : a.reason with
      | none => exact absurd hr h2
      | some c => exact absurd hl (W.rea i n a c hi ha hr).1
/-- Nothing but levels and the heap has turned. -/
structure LimExt (s s' : St) : Prop where
  eq : s' = { s with limits := s'.limits, heap := s'.heap, place := s'.place }
  pre : ∃ r, s'.limits = s.limits ++ r
theorem LimExt.refl (s : St) : LimExt s s := ⟨rfl, [], by simp⟩
inductive DecideR (assume : List Int) (s : St) : Option ((Int × Bool) × St) → Prop
  | no (n : Int) (t : St) (hF : Full t) (hA : AsmI assume t) (hE : LimExt s t) (hn : n ∈ assume) (ht : -n ∈ t.trail) (hl : t.limits.length < assume.length) : DecideR assume s (some ((n, false), t))
  | set (n : Int) (t : St) (h p : List Int) (hF : Full t) (hA : AsmI assume t) (hE : LimExt s t) (h0 : n ≠ 0) (hn : n.natAbs < t.vars.length) (hu : n ∉ t.trail ∧ -n ∉ t.trail) (hl : t.limits.length ≤ max s.limits.length assume.length)
      (hh : Hp h p t.vars.length) (hf : ∀ (v : Nat) a, 1 ≤ v → v ≠ n.natAbs → t.vars[v]? = some a → a.lit = 0 → inH { t with heap := h, place := p } v) (ha : t.limits.length < assume.length → assume[t.limits.length]? = some n) : DecideR assume s (some ((n, true), { t with heap := h, place := p }))
  | all (t : St) (hF : Full t) (hA : AsmI assume t) (hE : LimExt s t) (hl : assume.length ≤ t.limits.length) (hv : ∀ v : Nat, 1 ≤ v → v < t.vars.length → ∃ a, t.vars[v]? = some a ∧ a.lit ≠ 0) (hm : t.limits.length ≤ max s.limits.length assume.length) : DecideR assume s (some ((0, true), t))
theorem AsmI.up {assume : List Int} {s : St} (A : AsmI assume s) {n : Int} (hn : assume[s.limits.length]? = some n) (ht : n ∈ s.trail) : AsmI assume (lvlUp s) := by
  refine ⟨fun j m hj hm => ?_, fun i m hi hl hlv => ?_⟩
  · have hj' : j < s.limits.length + 1 := by have : (lvlUp s).limits.length = s.limits.length + 1 := by simp [lvlUp]
                                             omega
    by_cases h1 : j < s.limits.length
    · obtain ⟨i, h2, h3⟩ := A.tr j m h1 hm
      exact ⟨i, h2, by rw [lvlUp_at s (get_lt h2)]; exact h3⟩
    · have h2 : j = s.limits.length := by omega
      subst h2
      rw [hn] at hm
      cases hm
      obtain ⟨i, hi⟩ := List.mem_iff_getElem?.1 ht
      exact ⟨i, hi, by rw [lvlUp_at s (get_lt hi)]; have := lvl_le s i; omega⟩
  · have h1 := get_lt hi
    have h1' : i < s.trail.length := h1
    rw [lvlUp_at s h1'] at hlv
    have h2 : (i : Int) ∈ s.limits ++ [(s.trail.length : Int)] := hl
    have h3 : (i : Int) ∈ s.limits := by
      rcases List.mem_append.1 h2 with h2 | h2
      · exact h2
      · simp at h2; omega
    exact A.dec i m hi h3 hlv
theorem decide_ok (assume : List Int) : ∀ (k : Nat) (s : St), Full s → AsmI assume s → (∀ n ∈ assume, n ≠ 0 ∧ n.natAbs < s.vars.length) → assume.length < k + s.limits.length → 0 < k → assume.length ≤ 1099511627776 → DecideR assume s (decideL k s assume)
  | 0, _, _, _, _, _, h, _ => by omega
  | k + 1, s, H, A, hr, hk, _, has => by
    have W := H.base.wf
    unfold decideL
    by_cases hl : levelF s < (assume.length : Int)
    · rw [if_pos hl]
      have hl' : s.limits.length < assume.length := by unfold levelF at hl; omega
      obtain ⟨n, hn⟩ := get_some hl'
      obtain ⟨n0, n1⟩ := hr n (List.mem_of_getElem? hn)
      rw [hn]
      simp only
      rcases W.value n0 n1 with ⟨ev, hv, _⟩ | ⟨ev, hv, _⟩ | ⟨ev, hv, hv2⟩
      · rw [ev]
        simp only [show ¬ ((1 : Int) = -1) from by decide, show ¬ ((1 : Int) = 0) from by decide, if_false]
        have : roomB s.limits.length = true := by unfold roomB; simp; omega
        rw [this]
        simp only [Bool.true_eq_false, if_false]
        have hne : s.trail ≠ [] := fun e => by rw [e] at hv; cases hv
        have H1 := H.up hne
        have A1 := A.up hn hv
        have hlen : (lvlUp s).limits.length = s.limits.length + 1 := by simp [lvlUp]
        have hrec := decide_ok assume k (lvlUp s) H1 A1 hr (by rw [hlen]; omega) (by omega) has
        have hX : ∀ {t : St}, LimExt (lvlUp s) t → LimExt s t := fun h => ⟨by rw [h.eq]; rfl, by
          obtain ⟨r, e⟩ := h.pre
          exact ⟨(s.trail.length : Int) :: r, by rw [e]; simp [lvlUp]⟩⟩
        show DecideR assume s (decideL k (lvlUp s) assume)
        revert hrec
        generalize decideL k (lvlUp s) assume = r
        intro hrec
        cases hrec with
        | no n t hF hA hE hn ht hl => exact .no n t hF hA (hX hE) hn ht hl
        | set n t h p hF hA hE h0 hn hu hl hh hf ha => exact .set n t h p hF hA (hX hE) h0 hn hu (by omega) hh hf ha
        | all t hF hA hE hl hv hm => exact .all t hF hA (hX hE) hl hv (by omega)
      · rw [ev]
        simp only [if_true]
        exact .no n s H A (LimExt.refl s) (List.mem_of_getElem? hn) hv hl'
      · rw [ev]
        simp only [show ¬ ((0 : Int) = -1) from by decide, if_false, if_true]
        exact .set n s s.heap s.place H A (LimExt.refl s) n0 n1 ⟨hv, hv2⟩ (by omega) W.hp (fun v a hv _ ha h0 => W.free v a hv ha h0) fun _ => hn
    · rw [if_neg hl]
      have hl' : assume.length ≤ s.limits.length := by unfold levelF at hl; omega
      rcases choose_ok (s.heap.length + 1) s H (by omega) with ⟨s', h1, h2, h3, h4⟩ | ⟨v, s', h1, h2, h3, h4, h5, h6, h7, h8⟩
      · rw [h1]
        simp only [show ¬ ((0 : Int) < 0) from by decide, if_false]
        have el : s'.limits = s.limits := by rw [h3]
        exact .all s' h2 ⟨fun j n hj hn => by
          obtain ⟨i, h5, h6⟩ := A.tr j n (by rw [← el]; exact hj) hn
          exact ⟨i, by rw [h3]; exact h5, by unfold lvlAt at h6 ⊢; rw [el]; exact h6⟩, fun i n hi hl2 hlv => A.dec i n (by rw [h3] at hi; exact hi) (by rw [← el]; exact hl2) (by unfold lvlAt at hlv ⊢; rw [← el]; exact hlv)⟩ ⟨by rw [h3], [], by rw [el]; simp⟩ (by rw [el]; exact hl') (fun v hv hvl => by
          have ev : s'.vars = s.vars := by rw [h3]
          rw [ev] at hvl ⊢
          exact h4 v hv hvl) (by rw [el]; omega)
      · rw [h1]
        simp only
        rw [if_pos (by omega)]
        have ev : s'.vars = s.vars := by rw [h6]
        obtain ⟨a, ha⟩ := get_some h3
        rw [nth_nat, ev, ha]
        simp only
        rw [sml_iff.2 (by have := W.siz; omega)]
        simp only [Bool.true_eq_false, if_false]
        rw [h6]
        refine .set (if a.phase = (v : Int) then (v : Int) else -(v : Int)) s s'.heap s'.place H A (LimExt.refl s) (by split <;> omega) (by split <;> omega) ?_ (by omega) h7 (fun u b hu huv hb hbl => ?_) fun h => by omega
        · split
          · exact ⟨h4, h5⟩
          · exact ⟨h5, by simpa using h4⟩
        · have := h8 u b hu (by split at huv <;> omega) hb hbl
          exact this
end Go.Sat
