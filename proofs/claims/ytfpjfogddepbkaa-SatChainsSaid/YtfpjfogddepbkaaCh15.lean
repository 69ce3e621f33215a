/- Going back to a level, as plain data. -/
import Derived.Test.YtfpjfogddepbkaaCh14
set_option linter.unusedSimpArgs false
set_option linter.unusedVariables false
namespace Go.Sat
/-- Levels begin behind literals, but for the first one. -/
structure Lm (s : St) : Prop where
  one : ∀ (j : Nat) l, 1 ≤ j → s.limits[j]? = some l → 1 ≤ l
  some' : s.limits ≠ [] → s.trail ≠ []
structure Unset (s : St) (l : List Int) (s' : St) : Prop where
  eq : s' = { s with vars := s'.vars, heap := s'.heap, place := s'.place }
  hp : Hps s'
  len : s'.vars.length = s.vars.length
  mem : ∀ u, inH s u → inH s' u
  new : ∀ n ∈ l, inH s' n.natAbs
  var : ∀ (v : Nat) a, s'.vars[v]? = some a → ∃ b, s.vars[v]? = some b ∧ ((v ∈ l.map Int.natAbs ∧ a = { b with lit := 0 }) ∨ (v ∉ l.map Int.natAbs ∧ a = b))
theorem unset_ok : ∀ (l : List Int) (s : St), Hps s → s.vars.length ≤ 1048577 → (∀ n ∈ l, 1 ≤ n.natAbs ∧ n.natAbs < s.vars.length) → ∃ s', unsetL s l = some s' ∧ Unset s l s'
  | [], s, H, _, _ => ⟨s, rfl, rfl, H, rfl, fun _ h => h, fun n hn => (by cases hn), fun v a h => ⟨a, h, .inr ⟨by simp, rfl⟩⟩⟩
  | n :: r, s, H, hs, hl => by
    obtain ⟨n1, n2⟩ := hl n List.mem_cons_self
    obtain ⟨a, ha⟩ := get_some n2
    unfold unsetL
    rw [sml_iff.2 (by omega), ofF_eq, nth_nat, ha]
    simp only [Bool.true_eq_false, if_false]
    rw [setN_ok _ _ (by omega) (by simpa using n2)]
    simp only [Option.bind_some]
    have H1 : Hps { s with vars := s.vars.set (n.natAbs : Int).toNat { a with lit := 0 } } := ⟨by simpa using H.len, by simpa using H.pos, by simpa using H.at', H.inv⟩
    obtain ⟨s1, h1, h2, h3⟩ := push_ok H1 (by simpa using hs) (v := n.natAbs) ⟨n1, by simpa using n2⟩
    rw [h1]
    simp only [Option.bind_some]
    have e1 : s1.vars = s.vars.set n.natAbs { a with lit := 0 } := by rw [h2.eq]; simp
    obtain ⟨s2, h4, h5⟩ := unset_ok r s1 h2.hp (by rw [e1]; simpa using hs) (fun m hm => by
      have := hl m (List.mem_cons_of_mem _ hm)
      rw [e1]; simpa using this)
    refine ⟨s2, h4, by rw [h5.eq, h2.eq], h5.hp, by rw [h5.len, e1]; simp, fun u hu => h5.mem u (h2.mem u hu), fun m hm => ?_, fun v b hb => ?_⟩
    · rcases List.mem_cons.1 hm with rfl | hm
      · exact h5.mem _ h3
      · exact h5.new m hm
    · obtain ⟨b1, h6, h7⟩ := h5.var v b hb
      rw [e1, set_get] at h6
      by_cases e : n.natAbs = v
      · rw [if_pos e, if_pos (by omega)] at h6
        cases h6
        refine ⟨a, by rw [← e]; exact ha, .inl ⟨by simp [e], ?_⟩⟩
        rcases h7 with ⟨_, h8⟩ | ⟨_, h8⟩
        · rw [h8]
        · exact h8
      · rw [if_neg e] at h6
        refine ⟨b1, h6, ?_⟩
        rcases h7 with ⟨h8, h9⟩ | ⟨h8, h9⟩
        · exact .inl ⟨by simp only [List.map_cons]; exact List.mem_cons_of_mem _ h8, h9⟩
        · exact .inr ⟨by simp only [List.map_cons, List.mem_cons]; exact fun h => h.elim (fun h => e h.symm) h8, h9⟩
section
variable {s s' : St}
theorem Wf.lim_at (h : Wf s) {i j : Nat} {l l' : Int} (hij : i ≤ j) (hi : s.limits[i]? = some l) (hj : s.limits[j]? = some l') : l ≤ l' := by
  rcases Nat.lt_or_eq_of_le hij with hl | rfl
  · have h1 := get_lt hi
    have h2 := get_lt hj
    have h3 := (List.pairwise_iff_getElem.1 h.limo) i j h1 h2 hl
    rw [List.getElem?_eq_getElem h1] at hi
    rw [List.getElem?_eq_getElem h2] at hj
    cases hi; cases hj
    exact h3
  · rw [hi] at hj; cases hj; exact Int.le_refl _
theorem mem_take {α : Type} {l : List α} {k : Nat} {x : α} (h : x ∈ l.take k) : ∃ i, i < k ∧ l[i]? = some x := by
  obtain ⟨i, hi⟩ := List.mem_iff_getElem?.1 h
  have h1 := get_lt hi
  rw [List.length_take] at h1
  rw [List.getElem?_take_of_lt (by omega)] at hi
  exact ⟨i, by omega, hi⟩
theorem mem_drop {α : Type} {l : List α} {k : Nat} {x : α} (h : x ∈ l.drop k) : ∃ i, k ≤ i ∧ l[i]? = some x := by
  obtain ⟨i, hi⟩ := List.mem_iff_getElem?.1 h
  rw [List.getElem?_drop] at hi
  exact ⟨k + i, by omega, hi⟩
/-- Before a level's beginning: no more levels than before it. -/
theorem Wf.lvl_take (h : Wf s) {L : Nat} {lim : Int} (hL : s.limits[L]? = some lim) {i : Nat} (hi : (i : Int) < lim) : lvlAt s i = (s.limits.take L).countP fun l => decide (l ≤ (i : Int)) := by
  unfold lvlAt
  conv => lhs; rw [← List.take_append_drop L s.limits]
  rw [List.countP_append]
  have : (s.limits.drop L).countP (fun l => decide (l ≤ (i : Int))) = 0 := by
    rw [List.countP_eq_zero]
    intro l hl
    obtain ⟨j, h1, h2⟩ := mem_drop hl
    have := h.lim_at h1 hL h2
    simp
    omega
  omega
theorem Wf.lvl_below (h : Wf s) {L : Nat} {lim : Int} (hL : s.limits[L]? = some lim) {i : Nat} (hi : (i : Int) < lim) : lvlAt s i ≤ L := by
  rw [h.lvl_take hL hi]
  exact Nat.le_trans List.countP_le_length (by rw [List.length_take]; omega)
theorem Wf.lvl_above (h : Wf s) {L : Nat} {lim : Int} (hL : s.limits[L]? = some lim) {i : Nat} (hi : lim ≤ (i : Int)) : L < lvlAt s i := by
  unfold lvlAt
  rw [← List.take_append_drop (L + 1) s.limits, List.countP_append]
  have : (s.limits.take (L + 1)).countP (fun l => decide (l ≤ (i : Int))) = (s.limits.take (L + 1)).length := by
    rw [List.countP_eq_length]
    intro l hl
    obtain ⟨j, h1, h2⟩ := mem_take hl
    have := h.lim_at (by omega) h2 hL
    simp; omega
  have h3 := get_lt hL
  rw [this, List.length_take]
  omega
/-- What going back to a level does. -/
structure Back (s : St) (L : Nat) (s' : St) : Prop where
  wf : Wf s'
  lm : Lm s'
  trail : ∃ m : Nat, s'.trail = s.trail.take m ∧ (L < s.limits.length → s'.head = m) ∧ ∀ i : Nat, i < s.trail.length → (i < m ↔ lvlAt s i ≤ L)
  limits : s'.limits = s.limits.take L
  cls : s'.cls = s.cls
  watches : s'.watches = s.watches
  learnt : s'.learnt = s.learnt
  conflicts : s'.conflicts = s.conflicts
  added : s'.added = s.added
  bump : s'.bump = s.bump
  broken : s'.broken = s.broken
  vlen : s'.vars.length = s.vars.length
  var : ∀ n ∈ s'.trail, s'.vars[n.natAbs]? = s.vars[n.natAbs]?
  score : ∀ v : Nat, (s'.vars[v]?).map (·.score) = (s.vars[v]?).map (·.score)
  lvl : ∀ i, i < s'.trail.length → lvlAt s' i = lvlAt s i
  pi : PiLow s ∨ PiAll s → L < s.limits.length → PiAll s'
  same : s.limits.length ≤ L → s' = s
theorem back_ok (H : Wf s) (M : Lm s) (L : Nat) : ∃ s', backF s L = some s' ∧ Back s L s' := by
  unfold backF
  by_cases hl : levelF s ≤ (L : Int)
  · rw [if_pos hl]
    have hl' : s.limits.length ≤ L := by unfold levelF at hl; omega
    have hlv : ∀ i, lvlAt s i ≤ L := fun i => Nat.le_trans (lvl_le s i) hl'
    exact ⟨s, rfl, H, M, ⟨s.trail.length, by rw [List.take_length], fun h => by omega, fun i hi => ⟨fun _ => hlv i, fun _ => hi⟩⟩, by rw [List.take_of_length_le hl'], rfl, rfl, rfl, rfl, rfl, rfl, rfl, rfl, fun _ _ => rfl, fun _ => rfl, fun _ _ => rfl, fun _ h => by omega, fun _ => rfl⟩
  · rw [if_neg hl]
    have hl' : L < s.limits.length := by unfold levelF at hl; omega
    obtain ⟨lim, hlim⟩ := get_some hl'
    obtain ⟨l0, l1⟩ := H.lim lim (List.mem_of_getElem? hlim)
    obtain ⟨m, rfl⟩ : ∃ m : Nat, lim = m := ⟨lim.toNat, by omega⟩
    have hh := H.head
    have hne : s.trail.length ≠ 0 := fun e => M.some' (fun e2 => by rw [e2] at hl'; simp at hl') (List.eq_nil_of_length_eq_zero e)
    rw [nth_nat, hlim]
    simp only
    rw [if_neg (by omega), show ((m : Int)).toNat = m from by omega, show ((L : Int)).toNat = L from by omega]
    have hnd := H.nd
    have hdr : ∀ n ∈ s.trail.drop m, 1 ≤ n.natAbs ∧ n.natAbs < s.vars.length := fun n hn => H.trail_lt (List.mem_of_mem_drop hn)
    obtain ⟨s1, h1, U⟩ := unset_ok (s.trail.drop m) s H.hp H.siz hdr
    rw [h1]
    simp only [Option.map_some]
    have et : s1.trail = s.trail := by rw [U.eq]
    have el : s1.limits = s.limits := by rw [U.eq]
    have ec : s1.cls = s.cls := by rw [U.eq]
    have hml : m ≤ s.trail.length := by omega
    -- a literal before m is none of those behind
    have hkeep : ∀ n ∈ s.trail.take m, n.natAbs ∉ (s.trail.drop m).map Int.natAbs := fun n hn hm => by
      obtain ⟨n', hn', e⟩ := List.mem_map.1 hm
      obtain ⟨i, h2, h3⟩ := mem_take hn
      obtain ⟨j, h4, h5⟩ := mem_drop hn'
      have := H.nd_inj h5 h3 e
      omega
    have hget : ∀ (v : Nat), v < s.vars.length → ∃ a b, s1.vars[v]? = some a ∧ s.vars[v]? = some b ∧ ((v ∈ (s.trail.drop m).map Int.natAbs ∧ a = { b with lit := 0 }) ∨ (v ∉ (s.trail.drop m).map Int.natAbs ∧ a = b)) := fun v hv => by
      obtain ⟨a, ha⟩ := get_some (l := s1.vars) (i := v) (by rw [U.len]; exact hv)
      obtain ⟨b, hb, h2⟩ := U.var v a ha
      exact ⟨a, b, ha, hb, h2⟩
    have hvar : ∀ n ∈ s.trail.take m, s1.vars[n.natAbs]? = s.vars[n.natAbs]? := fun n hn => by
      obtain ⟨a, b, h2, h3, h4⟩ := hget n.natAbs (H.trail_lt (List.mem_of_mem_take hn)).2
      rcases h4 with ⟨h4, _⟩ | ⟨_, h4⟩
      · exact absurd h4 (hkeep n hn)
      · rw [h2, h3, h4]
    have hlv : ∀ i : Nat, i < s.trail.length → (i < m ↔ lvlAt s i ≤ L) := fun i hi => by
      constructor
      · intro h2; exact H.lvl_below hlim (by omega)
      · intro h2
        by_cases h3 : i < m
        · exact h3
        · have := H.lvl_above hlim (i := i) (by omega)
          omega
    obtain ⟨s', hs'⟩ : ∃ s' : St, s' = { s1 with trail := s1.trail.take m, limits := s1.limits.take L, head := (m : Int) } := ⟨_, rfl⟩
    have t' : s'.trail = s.trail.take m := by rw [hs', ← et]
    have li' : s'.limits = s.limits.take L := by rw [hs', ← el]
    have v' : s'.vars = s1.vars := by rw [hs']
    have c' : s'.cls = s.cls := by rw [hs', ← ec]
    have hlvs : ∀ i, i < m → lvlAt s' i = lvlAt s i := fun i hi => by
      rw [H.lvl_take hlim (by omega)]
      unfold lvlAt
      rw [li']
    have hsp : ∀ (i : Nat) n, s'.trail[i]? = some n → i < m ∧ s.trail[i]? = some n := fun i n hn => by
      rw [t'] at hn
      have h2 := get_lt hn
      rw [List.length_take] at h2
      rw [List.getElem?_take_of_lt (by omega)] at hn
      exact ⟨by omega, hn⟩
    have hsp2 : ∀ (i : Nat) n, i < m → s.trail[i]? = some n → s'.trail[i]? = some n := fun i n hi hn => by rw [t', List.getElem?_take_of_lt hi]; exact hn
    have htk : ∀ (i : Nat) n, s'.trail[i]? = some n → s'.vars[n.natAbs]? = s.vars[n.natAbs]? := fun i n hn => by
      rw [v']
      exact hvar n (by rw [← t']; exact List.mem_of_getElem? hn)
    have W : Wf s' := by
      refine ⟨by rw [hs']; exact ⟨U.hp.len, U.hp.pos, U.hp.at', U.hp.inv⟩, by rw [v', U.len]; exact H.siz, by rw [c']; exact H.csz, fun v a ha => ?_, fun n hn => ?_, ?_, fun v a hv ha h0 => ?_, fun l hl2 => ?_, ?_, ⟨by rw [hs']; show (0 : Int) ≤ (m : Int); omega, by rw [t', hs', List.length_take]; show (m : Int) ≤ _; omega⟩, fun c x hx => ?_, fun i n a hi ha => ?_, fun i n a c hi ha hr => ?_, fun i n a hi ha hr => ?_⟩
      · rw [v'] at ha
        obtain ⟨b, hb, h2⟩ := U.var v a ha
        rcases h2 with ⟨_, h3⟩ | ⟨h2, h3⟩
        · left; rw [h3]
        · subst h3
          rcases H.val v a hb with h4 | ⟨h4, h5⟩
          · exact .inl h4
          · refine .inr ⟨h4, ?_⟩
            rw [t']
            rw [← List.take_append_drop m s.trail] at h5
            rcases List.mem_append.1 h5 with h5 | h5
            · exact h5
            · exact absurd (List.mem_map.2 ⟨_, h5, h4⟩) h2
      · rw [t'] at hn
        obtain ⟨h2, a, h3, h4⟩ := H.mem n (List.mem_of_mem_take hn)
        exact ⟨h2, a, by rw [v', hvar n hn]; exact h3, h4⟩
      · rw [t', List.map_take]
        exact H.nd.sublist (List.take_sublist _ _)
      · rw [v'] at ha
        have hih : ∀ u, inH s1 u → inH s' u := fun u hu => by rw [hs']; exact hu
        obtain ⟨b, hb, h2⟩ := U.var v a ha
        rcases h2 with ⟨h2, _⟩ | ⟨h2, h3⟩
        · obtain ⟨n, hn, e⟩ := List.mem_map.1 h2
          rw [← e]
          exact hih _ (U.new n hn)
        · subst h3
          exact hih _ (U.mem v (H.free v a hv hb h0))
      · rw [li'] at hl2
        obtain ⟨j, h2, h3⟩ := mem_take hl2
        have h4 := H.lim l (List.mem_of_mem_take hl2)
        have h5 := H.lim_at (by omega) h3 hlim
        exact ⟨h4.1, by rw [hs']; exact h5⟩
      · rw [li']
        exact H.limo.sublist (List.take_sublist _ _)
      · rw [c'] at hx
        rw [v', U.len]
        exact H.cls c x hx
      · rw [htk i n hi] at ha
        obtain ⟨h2, h3⟩ := hsp i n hi
        rw [hlvs i h2]
        exact H.lev i n a h3 ha
      · rw [htk i n hi] at ha
        obtain ⟨h2, h3⟩ := hsp i n hi
        obtain ⟨h4, h5⟩ := H.rea i n a c h3 ha hr
        exact ⟨fun h6 => h4 (List.mem_of_mem_take (by rw [← li']; exact h6)), h5.mono (fun j k hj hk => hsp2 j k (by omega) hk) fun x hx => ⟨x, by rw [c']; exact hx, fun _ => Iff.rfl⟩⟩
      · rw [htk i n hi] at ha
        obtain ⟨h2, h3⟩ := hsp i n hi
        rw [hlvs i h2]
        rcases H.dec i n a h3 ha hr with h4 | h4
        · left
          rw [li']
          obtain ⟨j, hj⟩ := List.mem_iff_getElem?.1 h4
          have hjL : j < L := by
            by_cases h5 : j < L
            · exact h5
            · have := H.lim_at (by omega : L ≤ j) hlim hj
              omega
          exact List.mem_iff_getElem?.2 ⟨j, by rw [List.getElem?_take_of_lt hjL]; exact hj⟩
        · exact .inr h4
    refine ⟨s', by rw [hs'], W, ⟨fun j l hj hjl => ?_, fun hne2 => ?_⟩, ⟨m, t', fun _ => by rw [hs'], hlv⟩, li', c', by rw [hs', U.eq], by rw [hs', U.eq], by rw [hs', U.eq], by rw [hs', U.eq], by rw [hs', U.eq], by rw [hs', U.eq], by rw [v', U.len], fun n hn => ?_, fun v => ?_, fun i hi => ?_, fun hp _ => ?_, fun h2 => by omega⟩
    · rw [li'] at hjl
      have h2 := get_lt hjl
      rw [List.length_take] at h2
      rw [List.getElem?_take_of_lt (by omega)] at hjl
      exact M.one j l hj hjl
    · intro e
      rw [t'] at e
      have h2 : L ≠ 0 := fun e2 => hne2 (by rw [li', e2]; rfl)
      have h3 := M.one L m (by omega) hlim
      have h4 := congrArg List.length e
      rw [List.length_take, List.length_nil] at h4
      omega
    · rw [v']; exact hvar n (by rw [← t']; exact hn)
    · rw [v']
      by_cases hv : v < s.vars.length
      · obtain ⟨a, b, h2, h3, h4⟩ := hget v hv
        rw [h2, h3]
        rcases h4 with ⟨_, h4⟩ | ⟨_, h4⟩ <;> rw [h4] <;> rfl
      · rw [List.getElem?_eq_none (by rw [U.len]; omega), List.getElem?_eq_none (by omega)]
    · rw [t', List.length_take] at hi
      exact hlvs i (by omega)
    · intro d y a b r hy hyl u o huo j hj htj _
      rw [c'] at hy
      obtain ⟨h2, h3⟩ := hsp j _ htj
      have hj2 : (j : Int) < s.head := by omega
      have h4 : ∃ i, s.trail[i]? = some o ∧ lvlAt s i ≤ lvlAt s j := by
        rcases hp with hp | hp
        · exact hp d y a b r hy hyl u o huo j hj2 h3 (by have := (hlv j (by omega)).1 h2; show lvlAt s j < s.limits.length; omega)
        · exact hp d y a b r hy hyl u o huo j hj2 h3 trivial
      obtain ⟨i, h5, h6⟩ := h4
      have h7 : i < m := (hlv i (get_lt h5)).2 (by have := (hlv j (by omega)).1 h2; omega)
      exact ⟨i, hsp2 i o h7 h5, by rw [hlvs i h7, hlvs j h2]; exact h6⟩
end
end Go.Sat
/- More variables; a level that begins; what is decided, as plain data. -/
namespace Go.Sat
/-- All but propagation. -/
structure Base (s : St) : Prop where
  wf : Wf s
  wt : Wt s (watched s)
  lm : Lm s
/-- All is propagated. -/
structure Full (s : St) : Prop where
  base : Base s
  pi : PiAll s
  hd : s.head = s.trail.length
theorem Full.ok {s : St} (h : Full s) : Ok s := ⟨h.base.wf, h.base.wt, h.pi⟩
section
variable {s s' : St}
theorem Head2.of_cls {s s' : St} (e : s'.cls = s.cls) {c : Nat} {k : Int} : Head2 s' c k ↔ Head2 s c k := by unfold Head2; rw [e]
theorem Wt.of_eq (h : Wt s (watched s)) (ec : s'.cls = s.cls) (ew : s'.watches = s.watches) : Wt s' (watched s') := by
  have e : watched s' = watched s := by funext k; unfold watched; rw [ew]
  rw [e]
  exact ⟨fun k c => (h.mem k c).trans (Head2.of_cls ec).symm, h.nd⟩
theorem PiX.of_eq {X : Nat → Nat → Prop} (h : PiX s X) (ec : s'.cls = s.cls) (et : s'.trail = s.trail) (el : s'.limits = s.limits) (eh : s'.head ≤ s.head) : PiX s' X := by
  intro d y a b r hy hyl u o huo j hj htj hX
  rw [ec] at hy
  rw [et] at htj
  obtain ⟨i, h1, h2⟩ := h d y a b r hy hyl u o huo j (by omega) htj hX
  refine ⟨i, by rw [et]; exact h1, ?_⟩
  unfold lvlAt at h2 ⊢
  rw [el]; exact h2
/-- Another heap. -/
theorem Wf.heap (H : Wf s) {h p : List Int} (hh : Hp h p s.vars.length) (hf : ∀ (v : Nat) a, 1 ≤ v → s.vars[v]? = some a → a.lit = 0 → inH { s with heap := h, place := p } v) : Wf { s with heap := h, place := p } :=
  ⟨hh, H.siz, H.csz, H.val, H.mem, H.nd, hf, H.lim, H.limo, H.head, H.cls, H.lev, H.rea, H.dec⟩
theorem Grown.wf (H : Wf s) (g : Grown s s') (hs : s'.vars.length ≤ 1048577) : Wf s' := by
  obtain ⟨m, e⟩ := g.eq
  have hl := g.len
  have ev : s'.vars = s.vars ++ List.replicate m noFact := by rw [e]
  have et : s'.trail = s.trail := by rw [e]
  have el : s'.limits = s.limits := by rw [e]
  have eh : s'.head = s.head := by rw [e]
  have ec : s'.cls = s.cls := by rw [e]
  have hold : ∀ (v : Nat), v < s.vars.length → s'.vars[v]? = s.vars[v]? := fun v hv => by rw [ev, List.getElem?_append_left hv]
  have hnew : ∀ (v : Nat) a, s.vars.length ≤ v → s'.vars[v]? = some a → a = noFact := fun v a hv ha => by
    rw [ev, List.getElem?_append_right hv] at ha
    have h1 := get_lt ha
    rw [List.length_replicate] at h1
    rw [List.getElem?_replicate, if_pos h1] at ha
    exact (Option.some.inj ha).symm
  have hlv : ∀ i, lvlAt s' i = lvlAt s i := fun i => by unfold lvlAt; rw [el]
  have htv : ∀ (i : Nat) n, s'.trail[i]? = some n → s.trail[i]? = some n ∧ s'.vars[n.natAbs]? = s.vars[n.natAbs]? := fun i n hn => by
    rw [et] at hn
    exact ⟨hn, hold _ (H.trail_lt (List.mem_of_getElem? hn)).2⟩
  refine ⟨g.hp, hs, by rw [ec]; exact H.csz, fun v a ha => ?_, fun n hn => ?_, by rw [et]; exact H.nd, fun v a hv ha h0 => ?_, by rw [el, eh]; exact H.lim, by rw [el]; exact H.limo, by rw [eh, et]; exact H.head, fun c x hx => ?_, fun i n a hi ha => ?_, fun i n a c hi ha hr => ?_, fun i n a hi ha hr => ?_⟩
  · rw [et]
    by_cases h1 : v < s.vars.length
    · rw [hold v h1] at ha; exact H.val v a ha
    · rw [hnew v a (by omega) ha]; exact .inl rfl
  · rw [et] at hn
    obtain ⟨h1, a, h2, h3⟩ := H.mem n hn
    exact ⟨h1, a, by rw [hold _ (get_lt h2)]; exact h2, h3⟩
  · by_cases h1 : v < s.vars.length
    · rw [hold v h1] at ha; exact g.mem v (H.free v a hv ha h0)
    · exact g.new v (by omega) (get_lt ha)
  · rw [ec] at hx
    have := H.cls c x hx
    exact ⟨this.two, fun n hn => ⟨(this.var n hn).1, by have := (this.var n hn).2; omega⟩, this.nd⟩
  · obtain ⟨h1, h2⟩ := htv i n hi
    rw [h2] at ha
    rw [hlv]; exact H.lev i n a h1 ha
  · obtain ⟨h1, h2⟩ := htv i n hi
    rw [h2] at ha
    obtain ⟨h3, h4⟩ := H.rea i n a c h1 ha hr
    exact ⟨by rw [el]; exact h3, h4.mono (fun j k _ hk => by rw [et]; exact hk) fun x hx => ⟨x, by rw [ec]; exact hx, fun _ => Iff.rfl⟩⟩
  · obtain ⟨h1, h2⟩ := htv i n hi
    rw [h2] at ha
    rw [el, hlv]; exact H.dec i n a h1 ha hr
theorem Grown.lm (M : Lm s) (g : Grown s s') : Lm s' := by
  obtain ⟨m, e⟩ := g.eq
  rw [e]
  exact ⟨M.one, M.some'⟩
theorem Grown.base (H : Base s) (g : Grown s s') (hs : s'.vars.length ≤ 1048577) : Base s' := by
  obtain ⟨m, e⟩ := g.eq
  exact ⟨g.wf H.wf hs, H.wt.of_eq (by rw [e]) (by rw [e]), g.lm H.lm⟩
theorem Grown.full (H : Full s) (g : Grown s s') (hs : s'.vars.length ≤ 1048577) : Full s' := by
  obtain ⟨m, e⟩ := g.eq
  exact ⟨g.base H.base hs, H.pi.of_eq (by rw [e]) (by rw [e]) (by rw [e]) (by rw [e]; exact Int.le_refl _), by rw [e]; exact H.hd⟩
/-- A level begins. -/
def lvlUp (s : St) : St := { s with limits := s.limits ++ [(s.trail.length : Int)] }
theorem lvlUp_at (s : St) {i : Nat} (hi : i < s.trail.length) : lvlAt (lvlUp s) i = lvlAt s i := by
  unfold lvlAt lvlUp
  simp only [List.countP_append]
  have : List.countP (fun l => decide (l ≤ (i : Int))) [(s.trail.length : Int)] = 0 := by
    rw [List.countP_eq_zero]; intro l hl; simp at hl; subst hl; simp; omega
  omega
theorem Full.wf_up (H : Full s) : Wf (lvlUp s) := by
  have W := H.base.wf
  have hin : ∀ i : Nat, i < s.trail.length → ((i : Int) ∈ (lvlUp s).limits ↔ (i : Int) ∈ s.limits) := fun i hi => by
    show (i : Int) ∈ s.limits ++ [(s.trail.length : Int)] ↔ _
    simp; omega
  refine ⟨W.hp, W.siz, W.csz, W.val, W.mem, W.nd, W.free, fun l hl => ?_, ?_, W.head, W.cls, fun i n a hi ha => ?_, fun i n a c hi ha hr => ?_, fun i n a hi ha hr => ?_⟩
  · rcases List.mem_append.1 hl with hl | hl
    · exact W.lim l hl
    · simp at hl
      subst hl
      exact ⟨by omega, by show (s.trail.length : Int) ≤ s.head; rw [H.hd]; exact Int.le_refl _⟩
  · show (s.limits ++ [(s.trail.length : Int)]).Pairwise (· ≤ ·)
    rw [List.pairwise_append]
    refine ⟨W.limo, by simp, fun a ha b hb => ?_⟩
    simp at hb
    subst hb
    have := W.lim a ha
    rw [H.hd] at this
    exact this.2
  · rw [lvlUp_at s (get_lt hi)]
    exact W.lev i n a hi ha
  · obtain ⟨h1, h2⟩ := W.rea i n a c hi ha hr
    exact ⟨fun h3 => h1 ((hin i (get_lt hi)).1 h3), h2⟩
  · rw [lvlUp_at s (get_lt hi), hin i (get_lt hi)]
    exact W.dec i n a hi ha hr
/-- A level begins because an assumption is true. -/
theorem Full.up (H : Full s) (ht : s.trail ≠ []) : Full (lvlUp s) := by
  refine ⟨⟨H.wf_up, H.base.wt.of_eq rfl rfl, ⟨fun j l hj hl => ?_, fun _ => ht⟩⟩, fun d y a b r hy hyl u o huo j hj htj hX => ?_, H.hd⟩
  · by_cases h1 : j < s.limits.length
    · have h2 : (lvlUp s).limits[j]? = s.limits[j]? := List.getElem?_append_left h1
      rw [h2] at hl
      exact H.base.lm.one j l hj hl
    · have h2 : (lvlUp s).limits[j]? = [(s.trail.length : Int)][j - s.limits.length]? := List.getElem?_append_right (by omega)
      rw [h2] at hl
      have h3 := get_lt hl
      simp at h3
      have h4 : j - s.limits.length = 0 := by omega
      rw [h4] at hl
      cases hl
      have : s.trail.length ≠ 0 := fun e => ht (List.eq_nil_of_length_eq_zero e)
      omega
  · obtain ⟨i, h1, h2⟩ := H.pi d y a b r hy hyl u o huo j hj htj trivial
    exact ⟨i, h1, by rw [lvlUp_at s (get_lt h1), lvlUp_at s (get_lt htj)]; exact h2⟩
/-- What is decided: the literal's set at a new level. -/
structure Decided (s : St) (n : Int) (s' : St) : Prop where
  ok : Ok s'
  lm : Lm s'
  trail : s'.trail = s.trail ++ [n]
  limits : s'.limits = s.limits ++ [(s.trail.length : Int)]
  head : s'.head = s.head
  cls : s'.cls = s.cls
  learnt : s'.learnt = s.learnt
  conflicts : s'.conflicts = s.conflicts
  added : s'.added = s.added
  bump : s'.bump = s.bump
  broken : s'.broken = s.broken
  vlen : s'.vars.length = s.vars.length
  old : ∀ m ∈ s.trail, s'.vars[m.natAbs]? = s.vars[m.natAbs]?
  new : ∃ a, s'.vars[n.natAbs]? = some a ∧ a.reason = none
  score : ∀ v : Nat, (s'.vars[v]?).map (·.score) = (s.vars[v]?).map (·.score)
theorem setF_heap (s : St) (n : Int) (why : Option Nat) (h p : List Int) : setF { s with heap := h, place := p } n why = (setF s n why).map fun t => { t with heap := h, place := p } := by
  unfold setF setF0
  by_cases hg : (smlB n && roomB s.trail.length) = true
  · rw [if_pos hg, if_pos hg]
    cases h1 : nth s.vars (ofF n) with
    | none => rfl
    | some v =>
      simp only
      show Option.map _ (setN s.vars (ofF n) _) = Option.map _ (Option.map _ _)
      rw [Option.map_map]
      rfl
  · rw [if_neg hg, if_neg hg]; rfl
theorem Full.decide (H : Full s) {n : Int} {h p : List Int} (h0 : n ≠ 0) (hn : n.natAbs < s.vars.length) (hu : n ∉ s.trail ∧ -n ∉ s.trail)
    (hh : Hp h p s.vars.length) (hf : ∀ (v : Nat) a, 1 ≤ v → v ≠ n.natAbs → s.vars[v]? = some a → a.lit = 0 → inH { s with heap := h, place := p } v) :
    ∃ s', setF { lvlUp s with heap := h, place := p } n none = some s' ∧ Decided s n s' := by
  have W := H.wf_up
  obtain ⟨t, a, b, h1, h2, h3, h4, h5⟩ := W.set (why := none) h0 hn hu (fun c e => by cases e) (fun _ => .inl (by show (s.trail.length : Int) ∈ s.limits ++ [(s.trail.length : Int)]; simp))
  rw [setF_heap, h1]
  have hg : ∀ v : Nat, t.vars[v]? = if n.natAbs = v then some b else s.vars[v]? := fun v => by
    rw [h2]
    simp only
    rw [set_get]
    by_cases e : n.natAbs = v
    · rw [if_pos e, if_pos e, if_pos (by have : (lvlUp s).vars = s.vars := rfl; rw [this]; omega)]
    · rw [if_neg e, if_neg e]; rfl
  have htl : t.vars.length = s.vars.length := by rw [h2]; simp [lvlUp]
  have hold : ∀ m ∈ s.trail, ¬ n.natAbs = m.natAbs := fun m hm e => by
    have : m = n ∨ m = -n := by omega
    rcases this with rfl | rfl
    · exact hu.1 hm
    · exact hu.2 hm
  have hb0 : b.lit = n := by rw [h4]
  have W2 : Wf { t with heap := h, place := p } := by
    refine h5.heap (by rw [htl]; exact hh) fun v f hv hf2 hl => ?_
    rw [hg] at hf2
    by_cases e : n.natAbs = v
    · rw [if_pos e] at hf2
      cases hf2
      omega
    · rw [if_neg e] at hf2
      have := hf v f hv (fun e2 => e e2.symm) hf2 hl
      exact this
  have tt : t.trail = s.trail ++ [n] := by rw [h2]; rfl
  have tl : t.limits = s.limits ++ [(s.trail.length : Int)] := by rw [h2]; rfl
  have th : t.head = s.head := by rw [h2]; rfl
  have tc : t.cls = s.cls := by rw [h2]; rfl
  refine ⟨_, rfl, ⟨W2, H.base.wt.of_eq tc (by show t.watches = _; rw [h2]; rfl), fun d y a' b' r hy hyl u o huo j hj htj hX => ?_⟩, ⟨fun j l hj hl => ?_, fun _ => by show t.trail ≠ []; rw [tt]; simp⟩, tt, tl, th, tc, by show t.learnt = _; rw [h2]; rfl, by show t.conflicts = _; rw [h2]; rfl, by show t.added = _; rw [h2]; rfl, by show t.bump = _; rw [h2]; rfl, by show t.broken = _; rw [h2]; rfl, htl, fun m hm => ?_, ⟨b, ?_, by rw [h4]⟩, fun v => ?_⟩
  · have hy' : s.cls[d]? = some y := by rw [← tc]; exact hy
    have hj' : (j : Int) < s.head := by rw [← th]; exact hj
    have hjl : j < s.trail.length := by have := H.hd; omega
    have htj' : (s.trail ++ [n])[j]? = some (-u) := by rw [← tt]; exact htj
    rw [List.getElem?_append_left hjl] at htj'
    obtain ⟨i, h6, h7⟩ := H.pi d y a' b' r hy' hyl u o huo j hj' htj' trivial
    refine ⟨i, ?_, ?_⟩
    · show t.trail[i]? = _
      rw [tt, List.getElem?_append_left (get_lt h6)]; exact h6
    · have e : ∀ i, lvlAt { t with heap := h, place := p } i = lvlAt (lvlUp s) i := fun i => by unfold lvlAt; show List.countP _ t.limits = _; rw [tl]; rfl
      rw [e, e, lvlUp_at s (get_lt h6), lvlUp_at s hjl]
      exact h7
  · have hl2 : (s.limits ++ [(s.trail.length : Int)])[j]? = some l := by rw [← tl]; exact hl
    by_cases h1 : j < s.limits.length
    · rw [List.getElem?_append_left h1] at hl2
      exact H.base.lm.one j l hj hl2
    · rw [List.getElem?_append_right (by omega)] at hl2
      have h6 := get_lt hl2
      simp at h6
      have h7 : j - s.limits.length = 0 := by omega
      rw [h7] at hl2
      cases hl2
      have h8 : s.limits ≠ [] := fun e => by rw [e] at h7; simp at h7; omega
      have : s.trail.length ≠ 0 := fun e => H.base.lm.some' h8 (List.eq_nil_of_length_eq_zero e)
      omega
  · show t.vars[m.natAbs]? = _
    rw [hg, if_neg (hold m hm)]
  · show t.vars[n.natAbs]? = _
    rw [hg, if_pos rfl]
  · show (t.vars[v]?).map _ = _
    rw [hg]
    by_cases e : n.natAbs = v
    · rw [if_pos e, ← e]
      have h3' : s.vars[n.natAbs]? = some a := h3
      rw [h3', h4]; rfl
    · rw [if_neg e]
/-- The next one in the heap that is neither true nor false, or there is none. -/
theorem choose_ok : ∀ (k : Nat) (s : St), Full s → s.heap.length < k →
    (∃ s', chooseF k s = some (0, s') ∧ Full s' ∧ s' = { s with heap := s'.heap, place := s'.place } ∧ ∀ v : Nat, 1 ≤ v → v < s.vars.length → ∃ a, s.vars[v]? = some a ∧ a.lit ≠ 0) ∨
    ∃ (v : Nat) (s' : St), chooseF k s = some ((v : Int), s') ∧ 1 ≤ v ∧ v < s.vars.length ∧ (v : Int) ∉ s.trail ∧ -(v : Int) ∉ s.trail ∧ s' = { s with heap := s'.heap, place := s'.place } ∧ Hp s'.heap s'.place s.vars.length ∧ ∀ (u : Nat) a, 1 ≤ u → u ≠ v → s.vars[u]? = some a → a.lit = 0 → inH s' u
  | 0, _, _, h => by omega
  | k + 1, s, H, hk => by
    have W := H.base.wf
    unfold chooseF
    by_cases h0 : s.heap.length = 0
    · rw [if_pos h0]
      refine .inl ⟨s, rfl, H, rfl, fun v hv hl => ?_⟩
      obtain ⟨a, ha⟩ := get_some hl
      refine ⟨a, ha, fun e => ?_⟩
      obtain ⟨p, h1, h2⟩ := W.free v a hv ha e
      rcases W.hp.inv v p h1 with h3 | h3
      · omega
      · have := get_lt h3; omega
    · rw [if_neg h0]
      obtain ⟨v, s1, h1, h2, h3, h4⟩ := pop_ok W.hp W.siz h0
      rw [h1]
      simp only
      obtain ⟨a, ha⟩ := get_some h3
      have ev : s1.vars = s.vars := by rw [h4.eq]
      rw [nth_nat, ev, ha]
      simp only
      have hp1 : Hp s1.heap s1.place s.vars.length := by have := h4.hp; unfold Hps at this; rw [ev] at this; exact this
      by_cases hl : a.lit = 0
      · rw [if_pos hl]
        have hno : ∀ m : Int, m.natAbs = v → m ∉ s.trail := fun m hm hmt => by
          obtain ⟨h5, b, h6, h7⟩ := W.mem m hmt
          rw [hm, ha] at h6
          cases h6
          omega
        exact .inr ⟨v, s1, rfl, h2, h3, hno _ (by omega), hno _ (by omega), h4.eq, hp1, fun u b hu huv hb hbl => h4.mem u huv (W.free u b hu hb hbl)⟩
      · rw [if_neg hl]
        have W1 : Wf s1 := by
          rw [h4.eq]
          refine W.heap hp1 fun u b hu hb hbl => ?_
          have huv : u ≠ v := fun e => by rw [e, ha] at hb; cases hb; exact hl hbl
          exact h4.mem u huv (W.free u b hu hb hbl)
        have H1 : Full s1 := ⟨⟨W1, H.base.wt.of_eq (by rw [h4.eq]) (by rw [h4.eq]), by rw [h4.eq]; exact ⟨H.base.lm.one, H.base.lm.some'⟩⟩, H.pi.of_eq (by rw [h4.eq]) (by rw [h4.eq]) (by rw [h4.eq]) (by rw [h4.eq]; exact Int.le_refl _), by rw [h4.eq]; exact H.hd⟩
        have et : s1.trail = s.trail := by rw [h4.eq]
        rcases choose_ok k s1 H1 (by have := h4.len; omega) with ⟨s2, h5, h6, h7, h8⟩ | ⟨u, s2, h5, h6, h7, h8, h9, h10, h11, h12⟩
        · exact .inl ⟨s2, h5, h6, by rw [h7, h4.eq], by rw [← ev]; exact h8⟩
        · exact .inr ⟨u, s2, h5, h6, by rw [← ev]; exact h7, by rw [← et]; exact h8, by rw [← et]; exact h9, by rw [h10, h4.eq], by rw [← ev]; exact h11, by rw [← ev]; exact h12⟩
end
end Go.Sat
/- Rising rows; why an assumption can't be; what is decided where some is assumed, as plain data. -/
namespace Go.Sat
theorem ins_mem (x : Int) : ∀ (l : List Int) (y : Int), y ∈ insertF x l ↔ y = x ∨ y ∈ l
  | [], y => by simp [insertF]
  | a :: r, y => by
    unfold insertF
    split
    · simp
    · split
      · rename_i h1 h2; subst h2; simp
      · simp only [List.mem_cons, ins_mem x r y]
        constructor
        · rintro (h | h | h)
          · exact .inr (.inl h)
          · exact .inl h
          · exact .inr (.inr h)
        · rintro (h | h | h)
          · exact .inr (.inl h)
          · exact .inl h
          · exact .inr (.inr h)
theorem ins_sorted (x : Int) : ∀ (l : List Int), l.Pairwise (· < ·) → (insertF x l).Pairwise (· < ·)
  | [], _ => by simp [insertF]
  | a :: r, h => by
    unfold insertF
    obtain ⟨h1, h2⟩ := List.pairwise_cons.1 h
    split
    · rename_i h3
      exact List.pairwise_cons.2 ⟨fun y hy => by
        rcases List.mem_cons.1 hy with rfl | hy
        · exact h3
        · have := h1 y hy; omega, h⟩
    · split
      · exact h
      · rename_i h3 h4
        refine List.pairwise_cons.2 ⟨fun y hy => ?_, ins_sorted x r h2⟩
        rcases (ins_mem x r y).1 hy with rfl | hy
        · omega
        · exact h1 y hy
theorem srt_mem : ∀ (l : List Int) (y : Int), y ∈ sortedF l ↔ y ∈ l
  | [], y => by simp [sortedF]
  | a :: r, y => by unfold sortedF; rw [ins_mem, srt_mem r y]; simp
theorem srt_sorted : ∀ (l : List Int), (sortedF l).Pairwise (· < ·)
  | [] => by simp [sortedF]
  | a :: r => by unfold sortedF; exact ins_sorted a _ (srt_sorted r)
theorem srt_nodup (l : List Int) : (sortedF l).Nodup := (srt_sorted l).imp fun h => by omega
section
variable {s : St}
/-- Down along the trail: only what is assumed comes out. -/
theorem coreL_ok (H : Wf s) (assume : List Int) (hcl : ∀ n, n < s.vars.length → n ≤ 1048577) : ∀ (l : List Int) (why out : List Int), (∀ m ∈ l, m ∈ s.trail) → out.length + l.length ≤ 1099511627776 → ∃ o, coreL s assume why out l = some o ∧ ∀ m ∈ o, m ∈ out ∨ m ∈ assume
  | [], why, out, _, _ => ⟨out, rfl, fun m hm => .inl hm⟩
  | m :: r, why, out, hl, hs => by
    have hm := hl m List.mem_cons_self
    have hr : ∀ m' ∈ r, m' ∈ s.trail := fun m' h => hl m' (List.mem_cons_of_mem _ h)
    obtain ⟨h0, a, ha, _⟩ := H.mem m hm
    obtain ⟨i, hi⟩ := List.mem_iff_getElem?.1 hm
    have hsz := H.siz
    unfold coreL
    have hg : (smlB m && roomB out.length) = true := by
      rw [sml_iff.2 (by have := (H.trail_lt hm).2; omega)]
      have : roomB out.length = true := by unfold roomB; simp at hs ⊢; omega
      rw [this]; rfl
    rw [hg, ofF_eq, nth_nat, ha]
    simp only [Bool.true_eq_false, if_false]
    have hs2 : out.length + r.length + 1 ≤ 1099511627776 := by simp only [List.length_cons] at hs; omega
    by_cases hw : (m.natAbs : Int) ∈ why
    · rw [if_pos hw]
      cases hre : a.reason with
      | none =>
        simp only
        obtain ⟨o, h1, h2⟩ := coreL_ok H assume hcl r why (if m ∈ assume then out ++ [m] else out) hr (by
          split
          · simp only [List.length_append, List.length_cons, List.length_nil]; omega
          · omega)
        refine ⟨o, h1, fun x hx => ?_⟩
        rcases h2 x hx with h3 | h3
        · by_cases hma : m ∈ assume
          · rw [if_pos hma] at h3
            rcases List.mem_append.1 h3 with h3 | h3
            · exact .inl h3
            · simp at h3; subst h3; exact .inr hma
          · rw [if_neg hma] at h3; exact .inl h3
        · exact .inr h3
      | some c =>
        simp only
        obtain ⟨_, x, hx, _⟩ := H.rea i m a c hi ha hre
        rw [hx]
        simp only
        have hall : x.lits.all smlB = true := by
          rw [List.all_eq_true]
          intro y hy
          exact sml_iff.2 (by have := ((H.cls c x hx).var y hy).2; omega)
        rw [if_pos hall]
        exact coreL_ok H assume hcl r _ out hr (by omega)
    · rw [if_neg hw]
      exact coreL_ok H assume hcl r why out hr (by omega)
theorem core_ok (H : Wf s) (assume : List Int) (n : Int) (hn : n.natAbs < s.vars.length) (ha : n ∈ assume) : ∃ o, coreF s n assume = some o ∧ o.Nodup ∧ ∀ m ∈ o, m ∈ assume := by
  have hsz := H.siz
  unfold coreF
  rw [sml_iff.2 (by omega)]
  simp only [Bool.true_eq_false, if_false]
  cases hl : s.limits.head? with
  | none =>
    simp only
    exact ⟨_, rfl, srt_nodup _, fun m hm => by rw [srt_mem] at hm; simp at hm; rw [hm]; exact ha⟩
  | some b =>
    simp only
    have hb : b ∈ s.limits := List.mem_of_mem_head? (by rw [hl]; rfl)
    have := (H.lim b hb).1
    rw [if_neg (by omega)]
    have htl := H.tlen
    obtain ⟨o, h1, h2⟩ := coreL_ok H assume (fun n hn => by omega) (s.trail.drop b.toNat).reverse [ofF n] [n] (fun m hm => List.mem_of_mem_drop (List.mem_reverse.1 hm)) (by simp; omega)
    rw [h1]
    simp only [Option.bind_some]
    have hol : ∀ (l why out : List Int) (o : List Int), coreL s assume why out l = some o → o.length ≤ out.length + l.length := by
      intro l
      induction l with
      | nil => intro why out o h; unfold coreL at h; cases h; simp
      | cons m r ih =>
        intro why out o h
        unfold coreL at h
        split at h
        · cases h
        · split at h
          · split at h
            · cases h
            · split at h
              · split at h
                · cases h
                · split at h
                  · have := ih _ _ _ h; simp; omega
                  · cases h
              · have := ih _ _ _ h
                split at this <;> simp at this ⊢ <;> omega
          · have := ih _ _ _ h; simp; omega
    have h3 := hol _ _ _ _ h1
    have : roomB o.length = true := by unfold roomB; simp at h3 ⊢; omega
    rw [if_pos this]
    refine ⟨_, rfl, srt_nodup _, fun m hm => ?_⟩
    rw [srt_mem] at hm
    rcases h2 m hm with h4 | h4
    · simp at h4; rw [h4]; exact ha
    · exact h4
end
/-- What is assumed is true as far as the levels go; what was decided there is assumed. -/
structure AsmI (assume : List Int) (s : St) : Prop where
  tr : ∀ (j : Nat) n, j < s.limits.length → assume[j]? = some n → ∃ i, s.trail[i]? = some n ∧ lvlAt s i ≤ j + 1
  dec : ∀ (i : Nat) n, s.trail[i]? = some n → (i : Int) ∈ s.limits → lvlAt s i ≤ assume.length → n ∈ assume
theorem AsmI.zero {assume : List Int} {s : St} (h : s.limits = []) : AsmI assume s := ⟨fun j n hj => by rw [h] at hj; simp at hj, fun i n _ hi => by rw [h] at hi; cases hi⟩
theorem AsmI.ext {assume : List Int} {s s' : St} (A : AsmI assume s) (E : Ext s s') (W : Wf s') : AsmI assume s' := by
  refine ⟨fun j n hj hn => ?_, fun i n hi hl hlv => ?_⟩
  · obtain ⟨i, h1, h2⟩ := A.tr j n (by rw [← E.limits]; exact hj) hn
    exact ⟨i, E.at' h1, by rw [E.lvl]; exact h2⟩
  · by_cases h1 : i < s.trail.length
    · obtain ⟨m, hm⟩ := get_some h1
      have h2 := E.at' hm
      rw [hi] at h2
      cases h2
      exact A.dec i n hm (by rw [← E.limits]; exact hl) (by rw [← E.lvl]; exact hlv)
    · obtain ⟨_, a, ha, _⟩ := W.mem n (List.mem_of_getElem? hi)
      have h2 := E.new i n a (by omega) hi ha
      cases hr : a.reason with
      | none => exact absurd hr h2
      | some c => exact absurd hl (W.rea i n a c hi ha hr).1
/-- Nothing but levels and the heap has turned. -/
structure LimExt (s s' : St) : Prop where
  eq : s' = { s with limits := s'.limits, heap := s'.heap, place := s'.place }
  pre : ∃ r, s'.limits = s.limits ++ r
theorem LimExt.refl (s : St) : LimExt s s := ⟨rfl, [], by simp⟩
inductive DecideR (assume : List Int) (s : St) : Option ((Int × Bool) × St) → Prop
  | no (n : Int) (t : St) (hF : Full t) (hA : AsmI assume t) (hE : LimExt s t) (hn : n ∈ assume) (ht : -n ∈ t.trail) (hl : t.limits.length < assume.length) : DecideR assume s (some ((n, false), t))
  | set (n : Int) (t : St) (h p : List Int) (hF : Full t) (hA : AsmI assume t) (hE : LimExt s t) (h0 : n ≠ 0) (hn : n.natAbs < t.vars.length) (hu : n ∉ t.trail ∧ -n ∉ t.trail) (hl : t.limits.length ≤ max s.limits.length assume.length)
      (hh : Hp h p t.vars.length) (hf : ∀ (v : Nat) a, 1 ≤ v → v ≠ n.natAbs → t.vars[v]? = some a → a.lit = 0 → inH { t with heap := h, place := p } v) (ha : t.limits.length < assume.length → assume[t.limits.length]? = some n) : DecideR assume s (some ((n, true), { t with heap := h, place := p }))
  | all (t : St) (hF : Full t) (hA : AsmI assume t) (hE : LimExt s t) (hl : assume.length ≤ t.limits.length) (hv : ∀ v : Nat, 1 ≤ v → v < t.vars.length → ∃ a, t.vars[v]? = some a ∧ a.lit ≠ 0) : DecideR assume s (some ((0, true), t))
theorem AsmI.up {assume : List Int} {s : St} (A : AsmI assume s) {n : Int} (hn : assume[s.limits.length]? = some n) (ht : n ∈ s.trail) : AsmI assume (lvlUp s) := by
  refine ⟨fun j m hj hm => ?_, fun i m hi hl hlv => ?_⟩
  · have hj' : j < s.limits.length + 1 := by have : (lvlUp s).limits.length = s.limits.length + 1 := by simp [lvlUp]
                                             omega
    by_cases h1 : j < s.limits.length
    · obtain ⟨i, h2, h3⟩ := A.tr j m h1 hm
      exact ⟨i, h2, by rw [lvlUp_at s (get_lt h2)]; exact h3⟩
    · have h2 : j = s.limits.length := by omega
      subst h2
      rw [hn] at hm
      cases hm
      obtain ⟨i, hi⟩ := List.mem_iff_getElem?.1 ht
      exact ⟨i, hi, by rw [lvlUp_at s (get_lt hi)]; have := lvl_le s i; omega⟩
  · have h1 := get_lt hi
    have h1' : i < s.trail.length := h1
    rw [lvlUp_at s h1'] at hlv
    have h2 : (i : Int) ∈ s.limits ++ [(s.trail.length : Int)] := hl
    have h3 : (i : Int) ∈ s.limits := by
      rcases List.mem_append.1 h2 with h2 | h2
      · exact h2
      · simp at h2; omega
    exact A.dec i m hi h3 hlv
theorem decide_ok (assume : List Int) : ∀ (k : Nat) (s : St), Full s → AsmI assume s → (∀ n ∈ assume, n ≠ 0 ∧ n.natAbs < s.vars.length) → assume.length < k + s.limits.length → 0 < k → assume.length ≤ 1099511627776 → DecideR assume s (decideL k s assume)
  | 0, _, _, _, _, _, h, _ => by omega
  | k + 1, s, H, A, hr, hk, _, has => by
    have W := H.base.wf
    unfold decideL
    by_cases hl : levelF s < (assume.length : Int)
    · rw [if_pos hl]
      have hl' : s.limits.length < assume.length := by unfold levelF at hl; omega
      obtain ⟨n, hn⟩ := get_some hl'
      obtain ⟨n0, n1⟩ := hr n (List.mem_of_getElem? hn)
      rw [hn]
      simp only
      rcases W.value n0 n1 with ⟨ev, hv, _⟩ | ⟨ev, hv, _⟩ | ⟨ev, hv, hv2⟩
      · rw [ev]
        simp only [show ¬ ((1 : Int) = -1) from by decide, show ¬ ((1 : Int) = 0) from by decide, if_false]
        have : roomB s.limits.length = true := by unfold roomB; simp; omega
        rw [this]
        simp only [Bool.true_eq_false, if_false]
        have hne : s.trail ≠ [] := fun e => by rw [e] at hv; cases hv
        have H1 := H.up hne
        have A1 := A.up hn hv
        have hlen : (lvlUp s).limits.length = s.limits.length + 1 := by simp [lvlUp]
        have hrec := decide_ok assume k (lvlUp s) H1 A1 hr (by rw [hlen]; omega) (by omega) has
        have hX : ∀ {t : St}, LimExt (lvlUp s) t → LimExt s t := fun h => ⟨by rw [h.eq]; rfl, by
          obtain ⟨r, e⟩ := h.pre
          exact ⟨(s.trail.length : Int) :: r, by rw [e]; simp [lvlUp]⟩⟩
        show DecideR assume s (decideL k (lvlUp s) assume)
        revert hrec
        generalize decideL k (lvlUp s) assume = r
        intro hrec
        cases hrec with
        | no n t hF hA hE hn ht hl => exact .no n t hF hA (hX hE) hn ht hl
        | set n t h p hF hA hE h0 hn hu hl hh hf ha => exact .set n t h p hF hA (hX hE) h0 hn hu (by omega) hh hf ha
        | all t hF hA hE hl hv => exact .all t hF hA (hX hE) hl hv
      · rw [ev]
        simp only [if_true]
        exact .no n s H A (LimExt.refl s) (List.mem_of_getElem? hn) hv hl'
      · rw [ev]
        simp only [show ¬ ((0 : Int) = -1) from by decide, if_false, if_true]
        exact .set n s s.heap s.place H A (LimExt.refl s) n0 n1 ⟨hv, hv2⟩ (by omega) W.hp (fun v a hv _ ha h0 => W.free v a hv ha h0) fun _ => hn
    · rw [if_neg hl]
      have hl' : assume.length ≤ s.limits.length := by unfold levelF at hl; omega
      rcases choose_ok (s.heap.length + 1) s H (by omega) with ⟨s', h1, h2, h3, h4⟩ | ⟨v, s', h1, h2, h3, h4, h5, h6, h7, h8⟩
      · rw [h1]
        simp only [show ¬ ((0 : Int) < 0) from by decide, if_false]
        have el : s'.limits = s.limits := by rw [h3]
        exact .all s' h2 ⟨fun j n hj hn => by
          obtain ⟨i, h5, h6⟩ := A.tr j n (by rw [← el]; exact hj) hn
          exact ⟨i, by rw [h3]; exact h5, by unfold lvlAt at h6 ⊢; rw [el]; exact h6⟩, fun i n hi hl2 hlv => A.dec i n (by rw [h3] at hi; exact hi) (by rw [← el]; exact hl2) (by unfold lvlAt at hlv ⊢; rw [← el]; exact hlv)⟩ ⟨by rw [h3], [], by rw [el]; simp⟩ (by rw [el]; exact hl') (fun v hv hvl => by
          have ev : s'.vars = s.vars := by rw [h3]
          rw [ev] at hvl ⊢
          exact h4 v hv hvl)
      · rw [h1]
        simp only
        rw [if_pos (by omega)]
        have ev : s'.vars = s.vars := by rw [h6]
        obtain ⟨a, ha⟩ := get_some h3
        rw [nth_nat, ev, ha]
        simp only
        rw [sml_iff.2 (by have := W.siz; omega)]
        simp only [Bool.true_eq_false, if_false]
        rw [h6]
        refine .set (if a.phase = (v : Int) then (v : Int) else -(v : Int)) s s'.heap s'.place H A (LimExt.refl s) (by split <;> omega) (by split <;> omega) ?_ (by omega) h7 (fun u b hu huv hb hbl => ?_) fun h => by omega
        · split
          · exact ⟨h4, h5⟩
          · exact ⟨h5, by simpa using h4⟩
        · have := h8 u b hu (by split at huv <;> omega) hb hbl
          exact this
end Go.Sat
/- The search where no conflict can arise, as plain data: it ends, and its answer is right. -/
namespace Go.Sat
/-- A literal is true. -/
def litT (A : Nat → Bool) (n : Int) : Prop := if 0 < n then A n.natAbs = true else A n.natAbs = false
theorem litT_neg {A : Nat → Bool} {n : Int} (h : n ≠ 0) : litT A (-n) ↔ ¬ litT A n := by
  unfold litT
  have e : (-n).natAbs = n.natAbs := by omega
  rw [e]
  by_cases h1 : 0 < n
  · rw [if_pos h1, if_neg (by omega)]; simp
  · rw [if_neg h1, if_pos (by omega)]; simp
def SatA (A : Nat → Bool) (s : St) : Prop := ∀ (c : Nat) x, s.cls[c]? = some x → ∃ m ∈ x.lits, litT A m
/-- The clauses are the same ones, each in some order. -/
structure CR (s s' : St) : Prop where
  len : s'.cls.length = s.cls.length
  perm : ∀ (c : Nat) x, s.cls[c]? = some x → ∃ x', s'.cls[c]? = some x' ∧ x'.lits.Perm x.lits
theorem CR.refl (s : St) : CR s s := ⟨rfl, fun c x h => ⟨x, h, List.Perm.refl _⟩⟩
theorem CR.trans {s s1 s2 : St} (h : CR s s1) (k : CR s1 s2) : CR s s2 := ⟨k.len.trans h.len, fun c x hx => by
  obtain ⟨x1, h1, h2⟩ := h.perm c x hx
  obtain ⟨x2, h3, h4⟩ := k.perm c x1 h1
  exact ⟨x2, h3, h4.trans h2⟩⟩
theorem CR.of_eq {s s' : St} (h : s'.cls = s.cls) : CR s s' := ⟨by rw [h], fun c x hx => ⟨x, by rw [h]; exact hx, List.Perm.refl _⟩⟩
theorem Ext.cr {s s' : St} (h : Ext s s') : CR s s' := ⟨h.clen, fun c x hx => by
  obtain ⟨x', h1, h2, _⟩ := h.cls c x hx
  exact ⟨x', h1, h2⟩⟩
theorem CR.back {s s' : St} (h : CR s s') {c : Nat} {x' : Cl} (hx : s'.cls[c]? = some x') : ∃ x, s.cls[c]? = some x ∧ x'.lits.Perm x.lits := by
  obtain ⟨x, hx2⟩ := get_some (l := s.cls) (i := c) (by rw [← h.len]; exact get_lt hx)
  obtain ⟨x2, h1, h2⟩ := h.perm c x hx2
  rw [hx] at h1
  cases h1
  exact ⟨x, hx2, h2⟩
theorem CR.sat {s s' : St} (h : CR s s') {A : Nat → Bool} (hA : SatA A s) : SatA A s' := fun c x hx => by
  obtain ⟨y, h1, h2⟩ := h.back hx
  obtain ⟨m, h3, h4⟩ := hA c y h1
  exact ⟨m, h2.mem_iff.2 h3, h4⟩
/-- What's propagated agrees with any way in which the clauses hold. -/
theorem Ext.agree {s s' : St} (E : Ext s s') (W : Wf s') {A : Nat → Bool} (hA : SatA A s) (ht : ∀ m ∈ s.trail, litT A m) : ∀ m ∈ s'.trail, litT A m := by
  have hA' := E.cr.sat hA
  have key : ∀ (k i : Nat) m, i < k → s'.trail[i]? = some m → litT A m := by
    intro k
    induction k with
    | zero => intro i m hi; omega
    | succ k ih =>
      intro i m hi hm
      by_cases h1 : i < s.trail.length
      · obtain ⟨m', hm'⟩ := get_some h1
        have h2 := E.at' hm'
        rw [hm] at h2
        cases h2
        exact ht m (List.mem_of_getElem? hm')
      · obtain ⟨h0, a, ha, _⟩ := W.mem m (List.mem_of_getElem? hm)
        have h2 := E.new i m a (by omega) hm ha
        cases hr : a.reason with
        | none => exact absurd hr h2
        | some c =>
          obtain ⟨_, x, hx, _, h4⟩ := W.rea i m a c hm ha hr
          obtain ⟨y, hy, hyt⟩ := hA' c x hx
          rcases h4 y hy with rfl | ⟨j, hj, hjt⟩
          · exact hyt
          · have h5 := ih j (-y) (by omega) hjt
            have hy0 := (W.cls c x hx).var y hy
            exact absurd hyt ((litT_neg hy0.1).1 h5)
  intro m hm
  obtain ⟨i, hi⟩ := List.mem_iff_getElem?.1 hm
  exact key (i + 1) i m (by omega) hi
/-- A clause that can't hold, where one holds. -/
theorem Conf.not_sat {s : St} {c : Nat} {A : Nat → Bool} (h : Conf s c) (W : Wf s) (hA : SatA A s) (ht : ∀ m ∈ s.trail, litT A m) : False := by
  obtain ⟨x, hx, h1⟩ := h
  obtain ⟨m, hm, hmt⟩ := hA c x hx
  have h2 := ht (-m) (h1 m hm)
  exact (litT_neg ((W.cls c x hx).var m hm).1).1 h2 hmt
/-- The literal that's decided, and what is assumed. -/
theorem AsmI.decide {assume : List Int} {s s' : St} {n : Int} (A : AsmI assume s) (D : Decided s n s') (hn : s.limits.length < assume.length → assume[s.limits.length]? = some n) : AsmI assume s' := by
  have hlv : ∀ i, i < s.trail.length → lvlAt s' i = lvlAt s i := fun i hi => by
    rw [← lvlUp_at s hi]; unfold lvlAt lvlUp; rw [D.limits]
  have htop : lvlAt s' s.trail.length = s.limits.length + 1 := by
    have h1 := D.ok.wf.lvl_top (i := s.trail.length) fun l hl => by
      rw [D.limits] at hl
      rcases List.mem_append.1 hl with hl | hl
      · have := (D.ok.wf.lim l (by rw [D.limits]; exact List.mem_append_left _ hl)).2
        have h2 := D.ok.wf.lim (s.trail.length : Int) (by rw [D.limits]; simp)
        have h3 := D.ok.wf.limo
        rw [D.limits, List.pairwise_append] at h3
        have := h3.2.2 l hl (s.trail.length : Int) (by simp)
        exact this
      · simp at hl; omega
    rw [h1, D.limits]; simp
  have hold : ∀ (i : Nat) m, s.trail[i]? = some m → s'.trail[i]? = some m := fun i m hm => by rw [D.trail, List.getElem?_append_left (get_lt hm)]; exact hm
  refine ⟨fun j m hj hm => ?_, fun i m hi hl hv => ?_⟩
  · rw [D.limits] at hj
    simp at hj
    by_cases h1 : j < s.limits.length
    · obtain ⟨i, h2, h3⟩ := A.tr j m h1 hm
      exact ⟨i, hold i m h2, by rw [hlv i (get_lt h2)]; exact h3⟩
    · have h2 : j = s.limits.length := by omega
      subst h2
      have h3 := hn (get_lt hm)
      rw [hm] at h3
      cases h3
      exact ⟨s.trail.length, by rw [D.trail, List.getElem?_append_right (Nat.le_refl _)]; simp, by rw [htop]; exact Nat.le_refl _⟩
  · rw [D.trail] at hi
    by_cases h1 : i < s.trail.length
    · rw [List.getElem?_append_left h1] at hi
      rw [hlv i h1] at hv
      rw [D.limits] at hl
      rcases List.mem_append.1 hl with hl | hl
      · exact A.dec i m hi hl hv
      · simp at hl; omega
    · rw [List.getElem?_append_right (by omega)] at hi
      have h2 := get_lt hi
      simp at h2
      have h3 : i = s.trail.length := by omega
      subst h3
      simp at hi
      subst hi
      rw [htop] at hv
      exact List.mem_of_getElem? (hn (by omega))
/-- Each literal on the trail is behind the first level's beginning. -/
def NoZero (s : St) : Prop := ∀ i, i < s.trail.length → 1 ≤ lvlAt s i
/-- What a search leaves as it was. -/
structure Left' (s s' : St) : Prop where
  cr : CR s s'
  vlen : s'.vars.length = s.vars.length
  learnt : s'.learnt = s.learnt
  conflicts : s'.conflicts = s.conflicts
  added : s'.added = s.added
  bump : s'.bump = s.bump
  broken : s'.broken = s.broken
theorem Left'.refl (s : St) : Left' s s := ⟨CR.refl s, rfl, rfl, rfl, rfl, rfl, rfl⟩
theorem Left'.trans {s s1 s2 : St} (h : Left' s s1) (k : Left' s1 s2) : Left' s s2 := ⟨h.cr.trans k.cr, k.vlen.trans h.vlen, k.learnt.trans h.learnt, k.conflicts.trans h.conflicts, k.added.trans h.added, k.bump.trans h.bump, k.broken.trans h.broken⟩
theorem Ext.left {s s' : St} (h : Ext s s') : Left' s s' := ⟨h.cr, h.vlen, h.learnt, h.conflicts, h.added, h.bump, h.broken⟩
theorem LimExt.left {s s' : St} (h : LimExt s s') : Left' s s' := by
  have e := h.eq
  exact ⟨CR.of_eq (by rw [e]), by rw [e], by rw [e], by rw [e], by rw [e], by rw [e], by rw [e]⟩
theorem Decided.left {s s' : St} {n : Int} (h : Decided s n s') : Left' s s' := ⟨CR.of_eq h.cls, h.vlen, h.learnt, h.conflicts, h.added, h.bump, h.broken⟩
/-- What an answer says of the solver behind it. -/
structure AnsOk (assume : List Int) (s : St) (a : Ans) : Prop where
  full : Full s
  asm : AsmI assume s
  yes : a.sat = true → assume.length ≤ s.limits.length ∧ a.model = modelF s ∧ a.core = [] ∧ ∀ v : Nat, 1 ≤ v → v < s.vars.length → ∃ f, s.vars[v]? = some f ∧ f.lit ≠ 0
  no : a.sat = false → (∃ n ∈ assume, -n ∈ s.trail) ∧ s.limits.length < assume.length ∧ a.core.Nodup ∧ ∀ m ∈ a.core, m ∈ assume
theorem NoZero.ext {s s' : St} (h : NoZero s) (E : Ext s s') (W : Wf s') (hl : s.head = s.trail.length ∧ s' = s ∨ s.limits ≠ []) (hlim : ∀ l ∈ s.limits, l ≤ (s.trail.length : Int)) : NoZero s' := fun i hi => by
  rcases hl with ⟨_, rfl⟩ | hl
  · exact h i hi
  · by_cases h1 : i < s.trail.length
    · rw [E.lvl]; exact h i h1
    · have h2 := W.lvl_top (i := i) fun l hl2 => by
        rw [E.limits] at hl2
        have := hlim l hl2
        omega
      rw [h2, E.limits]
      cases hs : s.limits with
      | nil => exact absurd hs hl
      | cons a r => simp
/-- The search, where no conflict can arise. -/
theorem search_nc (assume : List Int) (s0 : St) (fuel : Nat) (hfu : s0.vars.length < fuel)
    (hr : ∀ n ∈ assume, n ≠ 0 ∧ n.natAbs < s0.vars.length) (has : assume.length ≤ 1000000)
    (hadd : 0 ≤ s0.added ∧ s0.added ≤ 1099511627776) (hlr : s0.learnt.length ≤ 2000) (hbr : s0.broken = false)
    (hNC : ∀ t, Full t → Left' s0 t → ∀ n : Int, n ≠ 0 → n.natAbs < t.vars.length → n ∉ t.trail → -n ∉ t.trail → ∃ A, SatA A t ∧ (∀ m ∈ t.trail, litT A m) ∧ litT A n) :
    ∀ (K : Nat) (s : St) (count : Int), Ok s → Lm s → AsmI assume s → Left' s0 s → s.vars.length < K + s.trail.length → s.limits.length ≤ assume.length + s.trail.length →
      (s.head = s.trail.length ∨ (s.limits ≠ [] ∧ ∃ A, SatA A s ∧ ∀ m ∈ s.trail, litT A m)) →
      ∃ a s', searchF fuel 0 assume K s count = some ((a, 0), s') ∧ Left' s0 s' ∧ AnsOk assume s' a ∧ (NoZero s → NoZero s')
  | 0, s, _, H, _, _, L, hK, _, _ => by
    have := H.wf.tlen
    omega
  | K + 1, s, count, H, M, A, L, hK, hlm, hor => by
    have hb : s.broken = false := L.broken.trans hbr
    unfold searchF
    rw [hb]
    simp only [Bool.false_eq_true, if_false]
    obtain ⟨res, s1, h1, E, W1, T1, hnone, hsome⟩ := spread_ok fuel s H (by rw [L.vlen]; have := H.wf.head.1; omega)
    rw [h1]
    have hres : res = none := by
      cases res with
      | none => rfl
      | some c =>
        exfalso
        rcases hor with hh | ⟨_, A', h2, h3⟩
        · have hsp : spreadF fuel s = some (none, s) := by
            cases fuel with
            | zero => omega
            | succ k => unfold spreadF; rw [if_neg (by omega)]
          rw [hsp] at h1
          cases h1
        · exact (hsome c rfl).2.not_sat W1 (E.cr.sat h2) (E.agree W1 h2 h3)
    subst hres
    simp only
    obtain ⟨P1, hd1⟩ := hnone rfl
    have L1 : Left' s0 s1 := L.trans E.left
    have M1 : Lm s1 := ⟨by rw [E.limits]; exact M.one, fun h => by
      rw [E.limits] at h
      obtain ⟨t, e⟩ := E.trail
      rw [e]
      intro e2
      exact M.some' h (List.append_eq_nil_iff.1 e2).1⟩
    have F1 : Full s1 := ⟨⟨W1, T1, M1⟩, P1, hd1⟩
    have A1 := A.ext E W1
    have hg : (decide (0 ≤ s1.added ∧ s1.added ≤ 1099511627776)) = true := by rw [L1.added]; simpa using hadd
    rw [hg]
    simp only [Bool.true_eq_false, if_false]
    rw [if_neg (by rw [L1.added, L1.learnt]; omega)]
    have htl : s.trail.length ≤ s1.trail.length := by obtain ⟨t, e⟩ := E.trail; rw [e]; simp
    have hlim : ∀ l ∈ s.limits, l ≤ (s.trail.length : Int) := fun l hl => by have := (H.wf.lim l hl).2; have := H.wf.head; omega
    have hZ1 : NoZero s → NoZero s1 := fun hz => by
      rcases hor with hh | ⟨hl, _⟩
      · have hsp : spreadF fuel s = some (none, s) := by
          cases fuel with
          | zero => omega
          | succ k => unfold spreadF; rw [if_neg (by omega)]
        rw [hsp] at h1
        cases h1
        exact hz
      · exact hz.ext E W1 (.inr hl) hlim
    have hdec := decide_ok assume (assume.length + 2) s1 F1 A1 (fun n hn => by rw [L1.vlen]; exact hr n hn) (by omega) (by omega) (by omega)
    revert hdec
    generalize decideL (assume.length + 2) s1 assume = r
    intro hdec
    have hlvE : ∀ {t : St}, LimExt s1 t → Full t → NoZero s1 → NoZero t := fun {t} hE hF hz i hi => by
      have et : t.trail = s1.trail := by rw [hE.eq]
      have h2 := hz i (by rw [← et]; exact hi)
      obtain ⟨r, e⟩ := hE.pre
      have : lvlAt s1 i ≤ lvlAt t i := by
        unfold lvlAt
        rw [e, List.countP_append]
        omega
      omega
    cases hdec with
    | no n t hF hA hE hn ht hl =>
      simp only
      have Lt := L1.trans hE.left
      obtain ⟨o, h2, h3, h4⟩ := core_ok hF.base.wf assume n (by rw [Lt.vlen]; exact (hr n hn).2) hn
      rw [h2]
      exact ⟨⟨false, [], o⟩, t, rfl, Lt, ⟨hF, hA, (fun e => by cases e), fun _ => ⟨⟨n, hn, ht⟩, hl, h3, h4⟩⟩, fun hz => hlvE hE hF (hZ1 hz)⟩
    | all t hF hA hE hl hv =>
      simp only [if_true]
      have Lt := L1.trans hE.left
      have : roomB t.vars.length = true := room_ok hF.base.wf.siz
      rw [if_pos this]
      exact ⟨⟨true, modelF t, []⟩, t, rfl, Lt, ⟨hF, hA, fun _ => ⟨hl, rfl, rfl, hv⟩, (fun e => by cases e)⟩, fun hz => hlvE hE hF (hZ1 hz)⟩
    | set n t h p hF hA hE h0 hn hu hl hh hf ha =>
      simp only
      rw [if_neg h0]
      have Lt := L1.trans hE.left
      have et : t.trail = s1.trail := by rw [hE.eq]
      have hlt : t.limits.length ≤ assume.length + s1.trail.length := by
        rw [E.limits] at hl
        omega
      have htn := hF.base.wf.tlen
      have hsz := hF.base.wf.siz
      have : roomB t.limits.length = true := by
        unfold roomB
        rw [et] at htn
        simp; omega
      rw [this]
      simp only [Bool.true_eq_false, if_false]
      obtain ⟨s2, h2, D⟩ := hF.decide (h := h) (p := p) h0 hn hu hh hf
      have e2 : setF { t with heap := h, place := p, limits := t.limits ++ [(t.trail.length : Int)] } n none = some s2 := h2
      rw [e2]
      simp only [Option.bind_some]
      have L2 := Lt.trans D.left
      obtain ⟨A', h5, h6, h7⟩ := hNC t hF Lt n h0 hn hu.1 hu.2
      have tl2 : s2.trail.length = t.trail.length + 1 := by rw [D.trail]; simp
      obtain ⟨a, s', h8, h9, h10, h11⟩ := search_nc assume s0 fuel hfu hr has hadd hlr hbr hNC K s2 count D.ok D.lm (hA.decide D ha) L2 (by rw [L2.vlen]; rw [L.vlen] at hK; rw [tl2, et]; omega) (by rw [D.limits, tl2]; simp; rw [et]; omega) (.inr ⟨by rw [D.limits]; simp, A', (CR.of_eq D.cls).sat h5, fun m hm => by
        rw [D.trail] at hm
        rcases List.mem_append.1 hm with hm | hm
        · exact h6 m hm
        · simp at hm; rw [hm]; exact h7⟩)
      refine ⟨a, s', h8, h9, h10, fun hz => h11 fun i hi => ?_⟩
      have hzt := hlvE hE hF (hZ1 hz)
      by_cases h12 : i < t.trail.length
      · have : lvlAt s2 i = lvlAt t i := by rw [← lvlUp_at t h12]; unfold lvlAt lvlUp; rw [D.limits]
        rw [this]; exact hzt i h12
      · have h13 := D.ok.wf.lvl_top (i := i) fun l hl => by
          have := (D.ok.wf.lim l hl).2
          have := D.head
          have := hF.hd
          omega
        rw [h13, D.limits]; simp
end Go.Sat
