/- A clause more, as plain data. -/
import Derived.Test.YtfpjfogddepbkaaCh15
set_option linter.unusedSimpArgs false
set_option linter.unusedVariables false
namespace Go.Sat
section
variable {s s' : St}
theorem Base.room (H : Base s) (k : Int) : (watched s k).length ≤ 1000000 := by
  have := nodup_bound s.cls.length (watched s k) (H.wt.nd k) fun d hd => by
    obtain ⟨x, _, _, _, h2, _⟩ := (H.wt.mem k d).1 hd
    exact get_lt h2
  have := H.wf.csz
  omega
/-- A new clause, watched. -/
theorem watch_new (H : Base s) (hc : s.cls.length < 1000000) {x : Cl} (ho : ClOk s.vars.length x.lits) : ∃ s', watchF { s with cls := s.cls ++ [x] } s.cls.length = some s' ∧ s' = { s with cls := s.cls ++ [x], watches := s'.watches } ∧ Base s' := by
  obtain ⟨a, b, r, hl⟩ : ∃ a b r, x.lits = a :: b :: r := by
    have := ho.two
    match h : x.lits with
    | [] => rw [h] at this; simp at this
    | [_] => rw [h] at this; simp at this
    | a :: b :: r => exact ⟨a, b, r, rfl⟩
  have hv := ho.var
  have hn := ho.nd
  rw [hl] at hv hn
  obtain ⟨a0, a1⟩ := hv a (by simp)
  obtain ⟨b0, b1⟩ := hv b (by simp)
  have hab : a.natAbs ≠ b.natAbs := by simp at hn; exact hn.1.1
  have hsz := H.wf.siz
  have hget : ∀ (d : Nat), (s.cls ++ [x])[d]? = if d = s.cls.length then some x else s.cls[d]? := fun d => by
    by_cases e : d = s.cls.length
    · subst e; simp
    · rw [if_neg e]
      by_cases h1 : d < s.cls.length
      · rw [List.getElem?_append_left h1]
      · rw [List.getElem?_eq_none (by simp; omega), List.getElem?_eq_none (by omega)]
  have hx : (s.cls ++ [x])[s.cls.length]? = some x := by rw [hget, if_pos rfl]
  unfold watchF
  simp only [hx, Option.map_some, hl]
  have r1 : roomB (watched s (-a)).length = true := by have := H.room (-a); unfold roomB; simp; omega
  have p1 : putW { s with cls := s.cls ++ [x] } (-a) s.cls.length = some { s with cls := s.cls ++ [x], watches := Mem.mput s.watches (-a) (watched s (-a) ++ [s.cls.length]) } := by
    unfold putW
    have e : watched { s with cls := s.cls ++ [x] } (-a) = watched s (-a) := rfl
    rw [e, sml_iff.2 (by omega), r1]; rfl
  rw [p1]
  simp only [Option.bind_some]
  have e2 : watched { s with cls := s.cls ++ [x], watches := Mem.mput s.watches (-a) (watched s (-a) ++ [s.cls.length]) } (-b) = watched s (-b) := by
    have := watched_put s (-a) (-b) (watched s (-a) ++ [s.cls.length])
    rw [if_neg (by omega)] at this
    exact this
  have r2 : roomB (watched s (-b)).length = true := by have := H.room (-b); unfold roomB; simp; omega
  obtain ⟨t, ht⟩ : ∃ t : St, t = { s with cls := s.cls ++ [x], watches := Mem.mput (Mem.mput s.watches (-a) (watched s (-a) ++ [s.cls.length])) (-b) (watched s (-b) ++ [s.cls.length]) } := ⟨_, rfl⟩
  have p2 : putW { s with cls := s.cls ++ [x], watches := Mem.mput s.watches (-a) (watched s (-a) ++ [s.cls.length]) } (-b) s.cls.length = some t := by
    unfold putW
    rw [e2, sml_iff.2 (by omega), r2, ht]; rfl
  have hnew : ∀ k, s.cls.length ∉ watched s k := fun k hk => by
    obtain ⟨y, _, _, _, h1, _⟩ := (H.wt.mem k _).1 hk
    have := get_lt h1; omega
  have hw : ∀ k, watched t k = if -b = k then watched s (-b) ++ [s.cls.length] else if -a = k then watched s (-a) ++ [s.cls.length] else watched s k := fun k => by
    have h1 := watched_put { s with cls := s.cls ++ [x], watches := Mem.mput s.watches (-a) (watched s (-a) ++ [s.cls.length]) } (-b) k (watched s (-b) ++ [s.cls.length])
    have h2 := watched_put s (-a) k (watched s (-a) ++ [s.cls.length])
    rw [ht]
    refine h1.trans ?_
    by_cases e : -b = k
    · rw [if_pos e, if_pos e]
    · rw [if_neg e, if_neg e]; exact h2
  have tc : t.cls = s.cls ++ [x] := by rw [ht]
  refine ⟨t, p2, by rw [ht], ⟨?_, ⟨fun k d => ?_, fun k => ?_⟩, by rw [ht]; exact ⟨H.lm.one, H.lm.some'⟩⟩⟩
  · have W := H.wf
    rw [ht]
    refine ⟨W.hp, W.siz, by show (s.cls ++ [x]).length ≤ _; simp; omega, W.val, W.mem, W.nd, W.free, W.lim, W.limo, W.head, fun c y hy => ?_, W.lev, fun i n f c hi hf hr => ?_, W.dec⟩
    · have hy' : (s.cls ++ [x])[c]? = some y := hy
      rw [hget] at hy'
      by_cases e : c = s.cls.length
      · rw [if_pos e] at hy'; cases hy'; exact ho
      · rw [if_neg e] at hy'; exact W.cls c y hy'
    · obtain ⟨h1, h2⟩ := W.rea i n f c hi hf hr
      refine ⟨h1, h2.mono (fun _ _ _ h => h) fun y hy => ⟨y, ?_, fun _ => Iff.rfl⟩⟩
      show (s.cls ++ [x])[c]? = _
      rw [hget, if_neg (by have := get_lt hy; omega)]; exact hy
  · rw [hw]
    by_cases e : d = s.cls.length
    · subst e
      have hh : Head2 t s.cls.length k ↔ (k = -a ∨ k = -b) := by
        constructor
        · rintro ⟨y, a', b', r', h1, h2, h3⟩
          rw [tc, hx] at h1
          cases h1
          rw [hl] at h2
          cases h2
          exact h3
        · intro h
          exact ⟨x, a, b, r, by rw [tc]; exact hx, hl, h⟩
      rw [hh]
      by_cases e1 : -b = k
      · rw [if_pos e1]
        constructor
        · intro _; exact .inr e1.symm
        · intro _; simp
      · rw [if_neg e1]
        by_cases e3 : -a = k
        · rw [if_pos e3]
          constructor
          · intro _; exact .inl e3.symm
          · intro _; simp
        · rw [if_neg e3]
          constructor
          · intro h; exact absurd h (hnew k)
          · rintro (h | h)
            · exact absurd h.symm e3
            · exact absurd h.symm e1
    · have hh : Head2 t d k ↔ Head2 s d k := by
        have : t.cls[d]? = s.cls[d]? := by rw [tc, hget, if_neg e]
        unfold Head2
        rw [this]
      rw [hh, ← H.wt.mem k d]
      by_cases e1 : -b = k
      · rw [if_pos e1, e1]; simp [e]
      · rw [if_neg e1]
        by_cases e3 : -a = k
        · rw [if_pos e3, e3]; simp [e]
        · rw [if_neg e3]
  · have hap : ∀ k, (watched s k ++ [s.cls.length]).Nodup := fun k => by
      refine List.nodup_append.2 ⟨H.wt.nd k, by simp, fun u hu v hv e => ?_⟩
      simp at hv
      rw [e, hv] at hu
      exact hnew k hu
    rw [hw]
    split
    · exact hap _
    · split
      · exact hap _
      · exact H.wt.nd k
/-- A clause that is new, neither of whose first two is false. -/
theorem PiAll.new {x : Cl} (h : PiAll s) (ec : s'.cls = s.cls ++ [x]) (et : s'.trail = s.trail) (el : s'.limits = s.limits) (eh : s'.head = s.head) (hx : ∀ a b r, x.lits = a :: b :: r → -a ∉ s.trail ∧ -b ∉ s.trail) : PiAll s' := by
  intro d y a b r hy hyl u o huo j hj htj _
  rw [ec] at hy
  rw [et] at htj
  by_cases h1 : d < s.cls.length
  · rw [List.getElem?_append_left h1] at hy
    obtain ⟨i, h2, h3⟩ := h d y a b r hy hyl u o huo j (by omega) htj trivial
    refine ⟨i, by rw [et]; exact h2, ?_⟩
    unfold lvlAt at h3 ⊢
    rw [el]; exact h3
  · rw [List.getElem?_append_right (by omega)] at hy
    have h2 := get_lt hy
    simp at h2
    have h3 : d - s.cls.length = 0 := by omega
    rw [h3] at hy
    simp at hy
    subst hy
    obtain ⟨h4, h5⟩ := hx a b r hyl
    have h6 := List.mem_of_getElem? htj
    rcases huo with ⟨rfl, _⟩ | ⟨rfl, _⟩
    · exact absurd h6 h4
    · exact absurd h6 h5
theorem clash_iff (l c : List Int) : clashF l c = true ↔ ∃ n ∈ l, n ≠ -n ∧ -n ∈ c := by
  induction l with
  | nil => simp [clashF]
  | cons a r ih => unfold clashF; simp [ih]
/-- Literals rising, each once, none with its other one: a clause's, if there are two of them. -/
theorem srt_ok {l : List Int} {nv : Nat} (h0 : ∀ n ∈ l, n ≠ 0 ∧ n.natAbs < nv) (hc : clashF (sortedF l) (sortedF l) = false) (p : Int → Bool) : (((sortedF l).filter p).map Int.natAbs).Nodup ∧ ∀ n ∈ (sortedF l).filter p, n ≠ 0 ∧ n.natAbs < nv := by
  have hno : ∀ n ∈ sortedF l, ∀ m ∈ sortedF l, n ≠ m → n.natAbs ≠ m.natAbs := fun n hn m hm hne e => by
    have h1 : m = -n := by omega
    have h2 := h0 n ((srt_mem l n).1 hn)
    have : clashF (sortedF l) (sortedF l) = true := (clash_iff _ _).2 ⟨n, hn, by omega, by rw [← h1]; exact hm⟩
    rw [hc] at this; cases this
  refine ⟨?_, fun n hn => h0 n ((srt_mem l n).1 (List.mem_filter.1 hn).1)⟩
  have hnd := (srt_nodup l).filter p
  unfold List.Nodup at hnd ⊢
  rw [List.pairwise_map]
  exact List.Pairwise.imp_of_mem (fun {n m} hn hm hne => hno n (List.mem_filter.1 hn).1 m (List.mem_filter.1 hm).1 hne) hnd
/-- What a clause more may do, where all before it is propagated. -/
inductive AddR (fuel : Nat) (s : St) (lits : List Int) : St → Prop
  | taut (hn : ∃ n ∈ lits, n ≠ 0 ∧ -n ∈ lits) : AddR fuel s lits s
  | sat (hn : ∃ n ∈ lits, n ∈ s.trail) : AddR fuel s lits s
  | empty (hn : ∀ n ∈ lits, -n ∈ s.trail) : AddR fuel s lits { s with broken := true }
  | unit (n : Int) (s3 : St) (hn : n ∈ lits) (h : ∀ m ∈ lits, m = n ∨ -m ∈ s.trail) (hu : n ∉ s.trail ∧ -n ∉ s.trail) (h3 : setF s n none = some s3) (H3 : Wf s3) (L3 : Left' s s3) (t3 : s3.trail = s.trail ++ [n]) (c3 : s3.cls = s.cls) (lim3 : s3.limits = s.limits) (w3 : s3.watches = s.watches) (hb : s3.broken = true) : AddR fuel s lits s3
  | spread (n : Int) (s3 s4 : St) (res : Option Nat) (hn : n ∈ lits) (h : ∀ m ∈ lits, m = n ∨ -m ∈ s.trail) (hu : n ∉ s.trail ∧ -n ∉ s.trail) (W3 : Wf s3) (t3 : s3.trail = s.trail ++ [n]) (c3 : s3.cls = s.cls) (l3 : Left' s s3) (lim3 : s3.limits = s.limits) (old3 : ∀ m ∈ s.trail, s3.vars[m.natAbs]? = s.vars[m.natAbs]?) (E : Ext s3 s4) (W4 : Wf s4) (T4 : Wt s4 (watched s4)) (hnone : res = none → PiAll s4 ∧ s4.head = s4.trail.length) (hsome : ∀ c, res = some c → Conf s4 c) : AddR fuel s lits { s4 with broken := res.isSome }
  | cls (o : List Int) (s' : St) (ho : ClOk s.vars.length o) (h : ∀ m, m ∈ o ↔ m ∈ lits ∧ -m ∉ s.trail) (hno : ∀ m ∈ lits, m ∉ s.trail) (e : s' = { s with cls := s.cls ++ [⟨o, false, 0⟩], watches := s'.watches }) (H : Base s') (hs : o.Sublist (sortedF lits)) : AddR fuel s lits s'
/-- A literal set at the bottom. -/
theorem Wf.set0 (H : Wf s) (hl : s.limits = []) {n : Int} (h0 : n ≠ 0) (hn : n.natAbs < s.vars.length) (hu : n ∉ s.trail ∧ -n ∉ s.trail) : ∃ s3, setF s n none = some s3 ∧ Wf s3 ∧ s3.trail = s.trail ++ [n] ∧ s3.cls = s.cls ∧ Left' s s3 ∧ s3.limits = s.limits ∧ s3.head = s.head ∧ s3.watches = s.watches ∧ ∀ m ∈ s.trail, s3.vars[m.natAbs]? = s.vars[m.natAbs]? := by
  obtain ⟨t, a, b, h1, h2, h3, h4, h5⟩ := H.set (why := none) h0 hn hu (fun c e => by cases e) (fun _ => .inr hl)
  refine ⟨t, h1, h5, by rw [h2], by rw [h2], ?_, by rw [h2], by rw [h2], by rw [h2], fun m hm => ?_⟩
  · rw [h2]; exact ⟨CR.of_eq rfl, by simp, rfl, rfl, rfl, rfl, rfl⟩
  · rw [h2]
    simp only
    rw [set_get, if_neg]
    intro e
    have : m = n ∨ m = -n := by omega
    rcases this with rfl | rfl
    · exact hu.1 hm
    · exact hu.2 hm
/-- The part of Add behind growing. -/
theorem add_core (fuel : Nat) (lits : List Int) (H : Base s) (hl : s.limits = []) (hF : s.broken = false → Full s) (hc : s.cls.length < 1000000) (h0 : ∀ n ∈ lits, n ≠ 0 ∧ n.natAbs < s.vars.length) (hfu : s.vars.length < fuel) :
    ∃ s', (match cleanF lits with
      | none => some s
      | some c =>
        if knownF s c = false then none else
        if c.any (litF s 1) then some s else
        match c.filter fun n => !litF s (-1) n with
        | [] => some { s with broken := true }
        | [n] =>
          match setF s n none with
          | none => none
          | some s3 => if s3.broken then some s3 else (spreadF fuel s3).map fun r => { r.2 with broken := r.1.isSome }
        | o => watchF { s with cls := s.cls ++ [⟨o, false, 0⟩] } s.cls.length) = some s' ∧ AddR fuel s lits s' := by
  have W := H.wf
  unfold cleanF
  by_cases hcl : clashF (sortedF lits) (sortedF lits) = true
  · rw [if_pos hcl]
    obtain ⟨n, h1, h2, h3⟩ := (clash_iff _ _).1 hcl
    exact ⟨s, rfl, .taut ⟨n, (srt_mem lits n).1 h1, (h0 n ((srt_mem lits n).1 h1)).1, (srt_mem lits _).1 h3⟩⟩
  · rw [if_neg hcl]
    simp only
    rw [Bool.not_eq_true] at hcl
    have hs0 : ∀ n ∈ sortedF lits, n ≠ 0 ∧ n.natAbs < s.vars.length := fun n hn => h0 n ((srt_mem lits n).1 hn)
    have hkn : knownF s (sortedF lits) = true := by
      unfold knownF
      rw [List.all_eq_true]
      intro n hn
      obtain ⟨a, b⟩ := hs0 n hn
      rcases W.value a b with ⟨e, _⟩ | ⟨e, _⟩ | ⟨e, _⟩ <;> rw [e] <;> rfl
    rw [hkn]
    simp only [Bool.true_eq_false, if_false]
    have hval : ∀ n ∈ sortedF lits, (litF s 1 n = true ↔ n ∈ s.trail) ∧ (litF s (-1) n = true ↔ -n ∈ s.trail) := fun n hn => by
      obtain ⟨a, b⟩ := hs0 n hn
      unfold litF
      rcases W.value a b with ⟨e, h1, h2⟩ | ⟨e, h1, h2⟩ | ⟨e, h1, h2⟩ <;> rw [e] <;> simp [h1, h2]
    by_cases hany : (sortedF lits).any (litF s 1) = true
    · rw [if_pos hany]
      obtain ⟨n, h1, h2⟩ := List.any_eq_true.1 hany
      exact ⟨s, rfl, .sat ⟨n, (srt_mem lits n).1 h1, (hval n h1).1.1 h2⟩⟩
    · rw [if_neg hany]
      have hno : ∀ m ∈ lits, m ∉ s.trail := fun m hm ht => hany (List.any_eq_true.2 ⟨m, (srt_mem lits m).2 hm, (hval m ((srt_mem lits m).2 hm)).1.2 ht⟩)
      have hmem : ∀ m, m ∈ (sortedF lits).filter (fun n => !litF s (-1) n) ↔ m ∈ lits ∧ -m ∉ s.trail := fun m => by
        rw [List.mem_filter, srt_mem]
        constructor
        · rintro ⟨h1, h2⟩
          refine ⟨h1, fun h3 => ?_⟩
          rw [(hval m ((srt_mem lits m).2 h1)).2.2 h3] at h2
          cases h2
        · rintro ⟨h1, h2⟩
          refine ⟨h1, ?_⟩
          cases h3 : litF s (-1) m with
          | false => rfl
          | true => exact absurd ((hval m ((srt_mem lits m).2 h1)).2.1 h3) h2
      obtain ⟨hnd, hvr⟩ := srt_ok h0 hcl fun n => !litF s (-1) n
      obtain ⟨o, ho⟩ : ∃ o, o = (sortedF lits).filter fun n => !litF s (-1) n := ⟨_, rfl⟩
      have hsub : o.Sublist (sortedF lits) := by rw [ho]; exact List.filter_sublist
      rw [← ho] at hmem hnd hvr ⊢
      clear ho
      match o, hmem, hnd, hvr, hsub with
      | [], hmem, _, _, _ =>
        refine ⟨_, rfl, .empty fun n hn => ?_⟩
        by_cases h1 : -n ∈ s.trail
        · exact h1
        · have := (hmem n).2 ⟨hn, h1⟩; cases this
      | [n], hmem, _, hvr, _ =>
        obtain ⟨n0, n1⟩ := hvr n (by simp)
        obtain ⟨hn1, hn2⟩ := (hmem n).1 (by simp)
        have hothers : ∀ m ∈ lits, m = n ∨ -m ∈ s.trail := fun m hm => by
          by_cases h1 : -m ∈ s.trail
          · exact .inr h1
          · have := (hmem m).2 ⟨hm, h1⟩
            simp at this
            exact .inl this
        obtain ⟨s3, h3, W3, t3, c3, L3, l3, hd3, w3, old3⟩ := W.set0 hl n0 n1 ⟨hno n hn1, hn2⟩
        simp only [h3]
        by_cases hb : s3.broken = true
        · rw [if_pos hb]
          exact ⟨s3, rfl, .unit n s3 hn1 hothers ⟨hno n hn1, hn2⟩ h3 W3 L3 t3 c3 l3 w3 hb⟩
        · rw [if_neg hb]
          have hbs : s.broken = false := by rw [← L3.broken]; simpa using hb
          have F := hF hbs
          have O3 : Ok s3 := ⟨W3, F.base.wt.of_eq c3 w3, fun d y a b r hy hyl u o huo j hj htj _ => by
            rw [c3] at hy
            rw [hd3] at hj
            have hjl : j < s.trail.length := by have := F.hd; omega
            rw [t3, List.getElem?_append_left hjl] at htj
            obtain ⟨i, h4, h5⟩ := F.pi d y a b r hy hyl u o huo j hj htj trivial
            refine ⟨i, by rw [t3, List.getElem?_append_left (get_lt h4)]; exact h4, ?_⟩
            unfold lvlAt at h5 ⊢
            rw [l3]; exact h5⟩
          obtain ⟨res, s4, h4, E, W4, T4, hnone, hsome⟩ := spread_ok fuel s3 O3 (by rw [L3.vlen]; have := W3.head.1; omega)
          rw [h4]
          simp only [Option.map_some]
          exact ⟨_, rfl, .spread n s3 s4 res hn1 hothers ⟨hno n hn1, hn2⟩ W3 t3 c3 L3 l3 old3 E W4 T4 hnone fun c e => (hsome c e).2⟩
      | a :: b :: r, hmem, hnd, hvr, hsub =>
        have hok : ClOk s.vars.length (a :: b :: r) := ⟨by simp, hvr, hnd⟩
        obtain ⟨s', h1, h2, h3⟩ := watch_new H hc (x := ⟨a :: b :: r, false, 0⟩) hok
        exact ⟨s', h1, .cls (a :: b :: r) s' hok hmem hno h2 h3 hsub⟩
end
end Go.Sat
/- Add and Solve, as plain data: they end; a solver of one clause at most. -/
namespace Go.Sat
/-- A solver between calls: whole; propagated, if it isn't broken. -/
structure Rest (s : St) : Prop where
  base : Base s
  full : s.broken = false → Full s
theorem take_head {s s1 : St} {L : Nat} (B : Back s L s1) (hl : L < s.limits.length) : s1.head = s1.trail.length := by
  obtain ⟨m, h1, h2, _⟩ := B.trail
  have h3 := B.wf.head.2
  rw [h2 hl] at h3 ⊢
  have h4 : s1.trail.length ≤ m := by rw [h1, List.length_take]; omega
  omega
/-- Back at the bottom. -/
theorem bottom {s : St} (H : Rest s) : ∃ s1, backF s 0 = some s1 ∧ Back s 0 s1 ∧ Rest s1 ∧ s1.limits = [] := by
  obtain ⟨s1, h1, B⟩ := back_ok H.base.wf H.base.lm 0
  have h1' : backF s 0 = some s1 := h1
  refine ⟨s1, h1', B, ⟨⟨B.wf, H.base.wt.of_eq B.cls B.watches, B.lm⟩, fun hb => ?_⟩, by rw [B.limits]; simp⟩
  have F := H.full (by rw [← B.broken]; exact hb)
  by_cases hl : 0 < s.limits.length
  · exact ⟨⟨B.wf, F.base.wt.of_eq B.cls B.watches, B.lm⟩, B.pi (.inr F.pi) hl, take_head B hl⟩
  · rw [B.same (by omega)]; exact F
theorem Grown.rest {s s' : St} (H : Rest s) (g : Grown s s') (hs : s'.vars.length ≤ 1048577) : Rest s' :=
  ⟨g.base H.base hs, fun hb => g.full (H.full (by obtain ⟨m, e⟩ := g.eq; rw [e] at hb; exact hb)) hs⟩
theorem Wf.same {s : St} (H : Wf s) (b : Bool) (a : Int) : Wf { s with broken := b, added := a } := ⟨H.hp, H.siz, H.csz, H.val, H.mem, H.nd, H.free, H.lim, H.limo, H.head, H.cls, H.lev, H.rea, H.dec⟩
theorem Base.same {s : St} (H : Base s) (b : Bool) (a : Int) : Base { s with broken := b, added := a } := ⟨H.wf.same b a, H.wt.of_eq rfl rfl, ⟨H.lm.one, H.lm.some'⟩⟩
theorem Full.same {s : St} (H : Full s) (b : Bool) (a : Int) : Full { s with broken := b, added := a } := ⟨H.base.same b a, H.pi.of_eq rfl rfl rfl (Int.le_refl _), H.hd⟩
/-- What Add leaves. -/
structure AddPost (s s' : St) : Prop where
  rest : Rest s'
  limits : s'.limits = []
  added : s'.added = s.added
  learnt : s'.learnt = s.learnt
  conflicts : s'.conflicts = s.conflicts
  bump : s'.bump = s.bump
  vlen : s'.vars.length = s.vars.length
  clen : s'.cls.length ≤ s.cls.length + 1
theorem AddR.post {fuel : Nat} {s s' : St} {lits : List Int} (h : AddR fuel s lits s') (H : Rest s) (hl : s.limits = []) : AddPost s s' := by
  cases h with
  | taut hn => exact ⟨H, hl, rfl, rfl, rfl, rfl, rfl, by omega⟩
  | sat hn => exact ⟨H, hl, rfl, rfl, rfl, rfl, rfl, by omega⟩
  | empty hn => exact ⟨⟨H.base.same true s.added, fun e => by cases e⟩, hl, rfl, rfl, rfl, rfl, rfl, by show s.cls.length ≤ _; omega⟩
  | unit n s3 hn h hu h3 H3 L3 t3 c3 lim3 w3 hb => exact ⟨⟨⟨H3, H.base.wt.of_eq c3 w3, ⟨fun j l hj hjl => by rw [lim3, hl] at hjl; simp at hjl, fun e => absurd (lim3.trans hl) e⟩⟩, fun e => by rw [hb] at e; cases e⟩, lim3.trans hl, L3.added, L3.learnt, L3.conflicts, L3.bump, L3.vlen, by rw [c3]; omega⟩
  | spread n s3 s4 res hn h hu W3 t3 c3 l3 lim3 old3 E W4 T4 hnone hsome =>
    have hl4 : s4.limits = [] := by rw [E.limits, lim3]; exact hl
    have B4 : Base s4 := ⟨W4, T4, ⟨fun j l hj hjl => by rw [hl4] at hjl; simp at hjl, fun e => absurd hl4 e⟩⟩
    refine ⟨⟨B4.same res.isSome s4.added, fun e => ?_⟩, hl4, E.added.trans l3.added, E.learnt.trans l3.learnt, E.conflicts.trans l3.conflicts, E.bump.trans l3.bump, E.vlen.trans l3.vlen, by show s4.cls.length ≤ _; rw [E.clen, c3]; omega⟩
    cases res with
    | some c => cases e
    | none =>
      obtain ⟨h1, h2⟩ := hnone rfl
      exact Full.same ⟨B4, h1, h2⟩ false s4.added
  | cls o s' ho h hno e H' hs =>
    refine ⟨⟨H', fun hb => ?_⟩, by rw [e]; exact hl, by rw [e], by rw [e], by rw [e], by rw [e], by rw [e], by rw [e]; simp⟩
    have F := H.full (by rw [e] at hb; exact hb)
    refine ⟨H', F.pi.new (x := ⟨o, false, 0⟩) (by rw [e]) (by rw [e]) (by rw [e]) (by rw [e]) fun a b r hab => ?_, by rw [e]; exact F.hd⟩
    have hab' : o = a :: b :: r := hab
    exact ⟨((h a).1 (by rw [hab']; simp)).2, ((h b).1 (by rw [hab']; simp)).2⟩
theorem add_ok (fuel : Nat) (s : St) (lits : List Int) (B : Nat) (H : Rest s) (hadd : 0 ≤ s.added ∧ s.added ≤ 1099511627776) (hc : s.cls.length < 1000000) (h0 : ∀ n ∈ lits, n ≠ 0 ∧ n.natAbs ≤ B) (hB : B ≤ 1048576) (hfu : max s.vars.length (B + 1) < fuel) :
    ∃ s1 s2 s', Back { s with added := s.added + 1 } 0 s1 ∧ Grown s1 s2 ∧ s2.vars.length ≤ max s.vars.length (B + 1) ∧ Rest s2 ∧ s2.limits = [] ∧ addF fuel s lits = some s' ∧ AddR fuel s2 lits s' := by
  have H1 : Rest { s with added := s.added + 1 } := ⟨H.base.same s.broken (s.added + 1), fun hb => (H.full hb).same s.broken (s.added + 1)⟩
  obtain ⟨s1, h1, B1, R1, l1⟩ := bottom H1
  have v1 : s1.vars.length = s.vars.length := B1.vlen
  obtain ⟨s2, h2, g, h3, h4⟩ := grows_ok B hB lits s1 (fun n hn => (h0 n hn).2) R1.base.wf.hp (by rw [v1]; exact H.base.wf.siz)
  have hsz2 : s2.vars.length ≤ 1048577 := by have := H.base.wf.siz; omega
  have R2 := g.rest R1 hsz2
  have l2 : s2.limits = [] := by obtain ⟨m, e⟩ := g.eq; rw [e]; exact l1
  have c2 : s2.cls.length < 1000000 := by obtain ⟨m, e⟩ := g.eq; rw [e]; show s1.cls.length < _; rw [B1.cls]; exact hc
  obtain ⟨s', h5, h6⟩ := add_core fuel lits R2.base l2 R2.full c2 (fun n hn => ⟨(h0 n hn).1, h3 n hn⟩) (by omega)
  refine ⟨s1, s2, s', B1, g, by omega, R2, l2, ?_, h6⟩
  unfold addF
  rw [show (decide (0 ≤ s.added ∧ s.added ≤ 1099511627776)) = true from by simpa using hadd]
  simp only [Bool.true_eq_false, if_false, h1, h2]
  exact h5
/-- A broken one says no. -/
theorem solve_broken (fuel : Nat) (s : St) (assume : List Int) (B : Nat) (H : Rest s) (hb : s.broken = true) (h0 : ∀ n ∈ assume, n.natAbs ≤ B) (hB : B ≤ 1048576) (hfu : 0 < fuel) : ∃ s', solveF fuel s 0 assume = some ((noAns, 0), s') ∧ Rest s' ∧ s'.broken = true := by
  obtain ⟨s1, h1, B1, R1, l1⟩ := bottom H
  obtain ⟨s2, h2, g, h3, h4⟩ := grows_ok B hB assume s1 h0 R1.base.wf.hp (by rw [B1.vlen]; exact H.base.wf.siz)
  have hb2 : s2.broken = true := by obtain ⟨m, e⟩ := g.eq; rw [e]; show s1.broken = true; rw [B1.broken]; exact hb
  refine ⟨s2, ?_, g.rest R1 (by have := H.base.wf.siz; have := B1.vlen; omega), hb2⟩
  unfold solveF
  simp only [h1, h2, Option.bind_some]
  obtain ⟨k, rfl⟩ : ∃ k, fuel = k + 1 := ⟨fuel - 1, by omega⟩
  unfold searchF
  rw [if_pos hb2]
/-- Solve, where no conflict can arise. -/
theorem solve_nc (fuel : Nat) (s : St) (assume : List Int) (B : Nat) (F : Full s) (hb : s.broken = false) (h0 : ∀ n ∈ assume, n ≠ 0 ∧ n.natAbs ≤ B) (hB : B ≤ 1048576) (has : assume.length ≤ 1000000) (hfu : max s.vars.length (B + 1) < fuel)
    (hadd : 0 ≤ s.added ∧ s.added ≤ 1099511627776) (hlr : s.learnt.length ≤ 2000)
    (hNC : ∀ t, Full t → CR s t → s.vars.length ≤ t.vars.length → t.vars.length ≤ max s.vars.length (B + 1) → ∀ n : Int, n ≠ 0 → n.natAbs < t.vars.length → n ∉ t.trail → -n ∉ t.trail → ∃ A, SatA A t ∧ (∀ m ∈ t.trail, litT A m) ∧ litT A n) :
    ∃ s1 s2 a s', Back s 0 s1 ∧ Grown s1 s2 ∧ solveF fuel s 0 assume = some ((a, 0), s') ∧ Left' s2 s' ∧ AnsOk assume s' a ∧ (NoZero s2 → NoZero s') ∧ s2.vars.length ≤ max s.vars.length (B + 1) ∧ s2.trail = s1.trail ∧ s2.broken = false := by
  obtain ⟨s1, h1, B1, R1, l1⟩ := bottom ⟨F.base, fun _ => F⟩
  obtain ⟨s2, h2, g, h3, h4⟩ := grows_ok B hB assume s1 (fun n hn => (h0 n hn).2) R1.base.wf.hp (by rw [B1.vlen]; exact F.base.wf.siz)
  have v1 := B1.vlen
  have hsz2 : s2.vars.length ≤ 1048577 := by have := F.base.wf.siz; omega
  have R2 := g.rest R1 hsz2
  obtain ⟨m, e⟩ := g.eq
  have hb2 : s2.broken = false := by rw [e]; show s1.broken = false; rw [B1.broken]; exact hb
  have F2 := R2.full hb2
  have l2 : s2.limits = [] := by rw [e]; exact l1
  have c2 : s2.cls = s.cls := by rw [e]; exact B1.cls
  obtain ⟨a, s', h5, h6, h7, h8⟩ := search_nc assume s2 fuel (by omega) (fun n hn => ⟨(h0 n hn).1, h3 n hn⟩) has
    (by rw [e]; show 0 ≤ s1.added ∧ s1.added ≤ _; rw [B1.added]; exact hadd) (by rw [e]; show s1.learnt.length ≤ _; rw [B1.learnt]; exact hlr) hb2
    (fun t hF hL n => hNC t hF ((CR.of_eq c2).trans hL.cr) (by rw [hL.vlen]; have := g.len; omega) (by rw [hL.vlen]; omega) n) fuel s2 0 F2.ok F2.base.lm (AsmI.zero l2) (Left'.refl s2) (by omega) (by rw [l2]; simp) (.inl F2.hd)
  refine ⟨s1, s2, a, s', B1, g, ?_, h6, h7, h8, by omega, by rw [e], hb2⟩
  unfold solveF
  simp only [h1, h2, Option.bind_some]
  exact h5
theorem new_full : Full Sat.new := by
  refine ⟨⟨⟨⟨rfl, by decide, fun i v h => by simp [Sat.new] at h, fun v p h => ?_⟩, by decide, by decide, fun v a h => ?_, fun n h => by simp [Sat.new] at h, by simp [Sat.new], fun v a hv h => ?_, fun l h => by simp [Sat.new] at h, by simp [Sat.new], by decide, fun c x h => by simp [Sat.new] at h, fun i n a h => by simp [Sat.new] at h, fun i n a c h => by simp [Sat.new] at h, fun i n a h => by simp [Sat.new] at h⟩, ⟨fun k c => ?_, fun k => by simp [watched, Sat.new, Mem.mget]⟩, ⟨fun j l _ h => by simp [Sat.new] at h, fun h => by simp [Sat.new] at h⟩⟩, fun c x a b r h => by simp [Sat.new] at h, rfl⟩
  · have h1 := get_lt h
    have e : v = 0 := by simp [Sat.new] at h1; exact h1
    subst e
    simp [Sat.new] at h
    exact .inl (by omega)
  · have h1 := get_lt h
    have e : v = 0 := by simp [Sat.new] at h1; exact h1
    subst e
    simp [Sat.new] at h
    subst h
    exact .inl rfl
  · have h1 := get_lt h
    simp [Sat.new] at h1
    omega
  · constructor
    · intro h; simp [watched, Sat.new, Mem.mget] at h
    · rintro ⟨x, a, b, r, h, _⟩; simp [Sat.new] at h
/-- A way that makes a list of literals true. -/
def wayOf (L : List Int) : Nat → Bool := fun v => decide ((v : Int) ∈ L)
theorem way_true {L : List Int} (h : ∀ m ∈ L, m ≠ 0 ∧ -m ∉ L) : ∀ m ∈ L, litT (wayOf L) m := fun m hm => by
  unfold litT wayOf
  obtain ⟨h0, h1⟩ := h m hm
  by_cases hp : 0 < m
  · rw [if_pos hp, show ((m.natAbs : Nat) : Int) = m from by omega]; simpa using hm
  · rw [if_neg hp, show ((m.natAbs : Nat) : Int) = -m from by omega]; simpa using h1
/-- One clause at most: no conflict can arise. -/
theorem one_nc (t : St) (F : Full t) (hc : t.cls.length ≤ 1) (n : Int) (h0 : n ≠ 0) (hn : n.natAbs < t.vars.length) (h1 : n ∉ t.trail) (h2 : -n ∉ t.trail) : ∃ A, SatA A t ∧ (∀ m ∈ t.trail, litT A m) ∧ litT A n := by
  have W := F.base.wf
  have hcons : ∀ z : Int, z ≠ 0 → z ≠ -n → -z ∉ t.trail → ∀ m ∈ t.trail ++ [n, z], m ≠ 0 ∧ -m ∉ t.trail ++ [n, z] := fun z z0 z1 z2 m hm => by
    simp only [List.mem_append, List.mem_cons, List.not_mem_nil, or_false] at hm ⊢
    rcases hm with hm | rfl | rfl
    · refine ⟨(W.mem m hm).1, fun h => ?_⟩
      rcases h with h | h | h
      · exact W.not_both hm h
      · rw [← h] at h2; exact h2 (by simpa using hm)
      · rw [← h] at z2; exact z2 (by simpa using hm)
    · refine ⟨h0, fun h => ?_⟩
      rcases h with h | h | h
      · exact h2 h
      · omega
      · exact z1 h.symm
    · refine ⟨z0, fun h => ?_⟩
      rcases h with h | h | h
      · exact z2 h
      · omega
      · omega
  have fin : ∀ z : Int, z ≠ 0 → z ≠ -n → -z ∉ t.trail → (∀ (c : Nat) (x : Cl), t.cls[c]? = some x → ∃ m ∈ x.lits, m ∈ t.trail ++ [n, z]) → ∃ A, SatA A t ∧ (∀ m ∈ t.trail, litT A m) ∧ litT A n := fun z z0 z1 z2 hs => by
    have hw := way_true (hcons z z0 z1 z2)
    exact ⟨wayOf (t.trail ++ [n, z]), fun c x hx => by
      obtain ⟨m, hm, hm2⟩ := hs c x hx
      exact ⟨m, hm, hw m hm2⟩, fun m hm => hw m (by simp [hm]), hw n (by simp)⟩
  by_cases hcl : t.cls = []
  · exact fin n h0 (by omega) h2 fun c x hx => by rw [hcl] at hx; simp at hx
  · obtain ⟨x, hx⟩ : ∃ x, t.cls = [x] := by
      match h : t.cls with
      | [] => exact absurd h hcl
      | [x] => exact ⟨x, rfl⟩
      | a :: b :: r => rw [h] at hc; simp at hc
    have hx0 : t.cls[0]? = some x := by rw [hx]; rfl
    have honly : ∀ (c : Nat) y, t.cls[c]? = some y → y = x := fun c y hy => by
      rw [hx] at hy
      have := get_lt hy
      simp at this
      subst this
      simpa using hy.symm
    by_cases hs : ∃ m ∈ x.lits, m ∈ t.trail
    · obtain ⟨m, hm, hm2⟩ := hs
      exact fin n h0 (by omega) h2 fun c y hy => ⟨m, by rw [honly c y hy]; exact hm, by simp [hm2]⟩
    · have C := W.cls 0 x hx0
      obtain ⟨a, b, r, hl⟩ : ∃ a b r, x.lits = a :: b :: r := by
        have := C.two
        match h : x.lits with
        | [] => rw [h] at this; simp at this
        | [_] => rw [h] at this; simp at this
        | a :: b :: r => exact ⟨a, b, r, rfl⟩
      have hfalse : ∀ u o, (u = a ∧ o = b) ∨ (u = b ∧ o = a) → -u ∉ t.trail := fun u o huo hu => by
        obtain ⟨j, hj⟩ := List.mem_iff_getElem?.1 hu
        obtain ⟨i, hi, _⟩ := F.pi 0 x a b r hx0 hl u o huo j (by have := get_lt hj; have := F.hd; omega) hj trivial
        exact hs ⟨o, by rw [hl]; rcases huo with ⟨_, rfl⟩ | ⟨_, rfl⟩ <;> simp, List.mem_of_getElem? hi⟩
      have hv := C.var
      have hd := C.nd
      rw [hl] at hv hd
      have hab : a.natAbs ≠ b.natAbs := by simp at hd; exact hd.1.1
      by_cases e : a = -n
      · exact fin b (hv b (by simp)).1 (by omega) (hfalse b a (.inr ⟨rfl, rfl⟩)) fun c y hy => ⟨b, by rw [honly c y hy, hl]; simp, by simp⟩
      · exact fin a (hv a (by simp)).1 e (hfalse a b (.inl ⟨rfl, rfl⟩)) fun c y hy => ⟨a, by rw [honly c y hy, hl]; simp, by simp⟩
/-- One clause, and what may be asked of it. -/
theorem refuses_run (c is : List Int) (hc : ∀ n ∈ c, n ≠ 0 ∧ n.natAbs ≤ 1000) (hi : ∀ n ∈ is, n ≠ 0 ∧ n.natAbs ≤ 1000) (hl : is.length ≤ 1000000) : ∃ s1, addF 2000 Sat.new c = some s1 ∧ ∃ a s2, solveF 2000 s1 0 is = some ((a, 0), s2) := by
  obtain ⟨t1, t2, s1, B1, g, hv, R2, l2, h1, h2⟩ := add_ok 2000 Sat.new c 1000 ⟨new_full.base, fun _ => new_full⟩ (by decide) (by decide) hc (by decide) (by decide)
  have hv' : t2.vars.length ≤ 1001 := hv
  have P := h2.post R2 l2
  obtain ⟨m, e⟩ := g.eq
  have ec : t2.cls = [] := by rw [e]; show t1.cls = []; rw [B1.cls]; rfl
  have ea : t2.added = 1 := by rw [e]; show t1.added = 1; rw [B1.added]; rfl
  have el : t2.learnt = [] := by rw [e]; show t1.learnt = []; rw [B1.learnt]; rfl
  have hcl : s1.cls.length ≤ 1 := by have := P.clen; rw [ec] at this; simpa using this
  refine ⟨s1, h1, ?_⟩
  by_cases hb : s1.broken = true
  · obtain ⟨s2, h3, _⟩ := solve_broken 2000 s1 is 1000 P.rest hb (fun n hn => (hi n hn).2) (by decide) (by decide)
    exact ⟨noAns, s2, h3⟩
  · have hb' : s1.broken = false := by simpa using hb
    obtain ⟨_, _, a, s2, _, _, h3, _⟩ := solve_nc 2000 s1 is 1000 (P.rest.full hb') hb' hi (by decide) hl (by rw [P.vlen]; omega) (by rw [P.added, ea]; decide) (by rw [P.learnt, el]; decide) fun t F hC _ _ n => one_nc t F (by rw [hC.len]; exact hcl) n
    exact ⟨a, s2, h3⟩
end Go.Sat
/- A chain of variables, as plain data: what the first one is, all are. -/
namespace Go.Sat
/-- A solver at the bottom with nothing set. -/
structure Idle (s : St) : Prop where
  full : Full s
  broken : s.broken = false
  limits : s.limits = []
  trail : s.trail = []
/-- A clause of two variables more. -/
theorem add_bin {s : St} (I : Idle s) (fuel : Nat) (a b : Int) (hadd : 0 ≤ s.added ∧ s.added ≤ 1099511627776) (hc : s.cls.length < 1000000) (a0 : a ≠ 0) (b0 : b ≠ 0) (hab : a.natAbs ≠ b.natAbs) (hB : max a.natAbs b.natAbs ≤ 1048576) (hfu : max s.vars.length (max a.natAbs b.natAbs + 1) < fuel) :
    ∃ s', addF fuel s [a, b] = some s' ∧ Idle s' ∧ s'.learnt = s.learnt ∧ s'.added = s.added + 1 ∧ s'.vars.length = max s.vars.length (max a.natAbs b.natAbs + 1) ∧ ∃ o, (o = [a, b] ∨ o = [b, a]) ∧ s'.cls = s.cls ++ [⟨o, false, 0⟩] := by
  obtain ⟨s1, s2, s', B1, g, hv, R2, l2, h1, h2⟩ := add_ok fuel s [a, b] (max a.natAbs b.natAbs) ⟨I.full.base, fun _ => I.full⟩ hadd hc (fun n hn => by
    simp at hn
    rcases hn with rfl | rfl
    · exact ⟨a0, by omega⟩
    · exact ⟨b0, by omega⟩) hB hfu
  have P := h2.post R2 l2
  obtain ⟨m, e⟩ := g.eq
  have et : s2.trail = [] := by
    rw [e]
    show s1.trail = []
    obtain ⟨m', h3, _⟩ := B1.trail
    rw [h3]
    show List.take m' s.trail = []
    rw [I.trail]; simp
  have eb : s2.broken = false := by rw [e]; show s1.broken = false; rw [B1.broken]; exact I.broken
  have ec : s2.cls = s.cls := by rw [e]; show s1.cls = _; rw [B1.cls]
  have el : s2.learnt = s.learnt := by rw [e]; show s1.learnt = _; rw [B1.learnt]
  have ea : s2.added = s.added + 1 := by rw [e]; show s1.added = _; rw [B1.added]
  have hsl : (sortedF [a, b]).length = 2 := by
    show (insertF a [b]).length = 2
    unfold insertF
    split
    · rfl
    · split
      · rename_i h
        rw [h] at hab
        exact absurd rfl hab
      · rfl
  have hmem2 : ∀ l : List Int, l.length = 2 → a ∈ l → b ∈ l → l = [a, b] ∨ l = [b, a] := fun l hl ha hb => by
    match l, hl with
    | [x, y], _ =>
      simp at ha hb
      rcases ha with rfl | rfl
      · rcases hb with rfl | rfl
        · exact absurd rfl hab
        · exact .inl rfl
      · rcases hb with rfl | rfl
        · exact .inr rfl
        · exact absurd rfl hab
  cases h2 with
  | taut hn =>
    obtain ⟨n, h3, h4, h5⟩ := hn
    simp at h3 h5
    exfalso; omega
  | sat hn =>
    obtain ⟨n, _, h4⟩ := hn
    rw [et] at h4; cases h4
  | empty hn =>
    have := hn a (by simp)
    rw [et] at this; cases this
  | unit n s3 hn h =>
    rw [et] at h
    have h3 := h a (by simp)
    have h4 := h b (by simp)
    simp at h3 h4
    rw [h3, h4] at hab; exact absurd rfl hab
  | spread n s3 s4 res hn h =>
    rw [et] at h
    have h3 := h a (by simp)
    have h4 := h b (by simp)
    simp at h3 h4
    rw [h3, h4] at hab; exact absurd rfl hab
  | cls o s' ho h hno e' H hs =>
    have hao : a ∈ o := (h a).2 ⟨by simp, by rw [et]; simp⟩
    have hbo : b ∈ o := (h b).2 ⟨by simp, by rw [et]; simp⟩
    have hol : o.length = 2 := by
      have := hs.length_le
      have := ho.two
      omega
    have hb' : s'.broken = false := by rw [e']; exact eb
    have hva := (ho.var a hao).2
    have hvb := (ho.var b hbo).2
    have hgl := g.len
    have hvl : s1.vars.length = s.vars.length := B1.vlen
    have hv2 := P.vlen
    refine ⟨s', h1, ⟨P.rest.full hb', hb', P.limits, by rw [e']; exact et⟩, P.learnt.trans el, P.added.trans ea, by omega, o, hmem2 o hol hao hbo, by rw [e', ← ec]⟩
/-- A chain's second literal: of a variable behind one. -/
def tF (sg : Nat → Bool) (j : Nat) : Int := if sg j then -((j : Int) + 1) else (j : Int) + 1
/-- What each variable is, where the first one is true. -/
def wayF (sg : Nat → Bool) : Nat → Bool
  | 0 => true
  | 1 => true
  | i + 2 => xor (wayF sg (i + 1)) (sg (i + 1))
def wantF (sg : Nat → Bool) (j : Nat) : Int := if wayF sg j then (j : Int) else -(j : Int)
theorem want_abs (sg : Nat → Bool) (j : Nat) : (wantF sg j).natAbs = j := by unfold wantF; split <;> omega
theorem tF_abs (sg : Nat → Bool) (j : Nat) : (tF sg j).natAbs = j + 1 := by unfold tF; split <;> omega
theorem want_next (sg : Nat → Bool) {j : Nat} (hj : 1 ≤ j) : wantF sg (j + 1) = if wayF sg j then tF sg j else -tF sg j := by
  obtain ⟨i, rfl⟩ : ∃ i, j = i + 1 := ⟨j - 1, by omega⟩
  unfold wantF tF
  simp only [wayF]
  by_cases h1 : wayF sg (i + 1) = true <;> by_cases h2 : sg (i + 1) = true <;> simp [h1, h2] <;> omega
def Pair (sg : Nat → Bool) (l : List Int) (j : Nat) : Prop := l = [-(j : Int), tF sg j] ∨ l = [tF sg j, -(j : Int)] ∨ l = [(j : Int), -tF sg j] ∨ l = [-tF sg j, (j : Int)]
/-- The chain up to some variable. -/
structure Chain (sg : Nat → Bool) (i : Nat) (s : St) : Prop where
  one : ∀ j, 1 ≤ j → j < i → ∃ (c : Nat) (x : Cl), s.cls[c]? = some x ∧ (x.lits = [-(j : Int), tF sg j] ∨ x.lits = [tF sg j, -(j : Int)])
  two : ∀ j, 1 ≤ j → j < i → ∃ (c : Nat) (x : Cl), s.cls[c]? = some x ∧ (x.lits = [(j : Int), -tF sg j] ∨ x.lits = [-tF sg j, (j : Int)])
  all : ∀ (c : Nat) (x : Cl), s.cls[c]? = some x → ∃ j, 1 ≤ j ∧ j < i ∧ Pair sg x.lits j
theorem perm_two {l : List Int} {a b : Int} (h : l.Perm [a, b]) : l = [a, b] ∨ l = [b, a] := by
  have hl := h.length_eq
  match l, hl with
  | [x, y], _ =>
    have hx : x = a ∨ x = b := by simpa using h.mem_iff.1 (List.mem_cons_self (a := x) (l := [y]))
    have ha : a = x ∨ a = y := by simpa using h.mem_iff.2 (List.mem_cons_self (a := a) (l := [b]))
    have hb : b = x ∨ b = y := by simpa using h.mem_iff.2 (List.mem_cons_of_mem a (List.mem_cons_self (a := b) (l := [])))
    have hy : y = a ∨ y = b := by simpa using h.mem_iff.1 (List.mem_cons_of_mem x (List.mem_cons_self (a := y) (l := [])))
    by_cases e : a = b
    · subst e
      left
      have h1 : x = a := by rcases hx with h | h <;> exact h
      have h2 : y = a := by rcases hy with h | h <;> exact h
      rw [h1, h2]
    · rcases ha with rfl | rfl
      · rcases hb with h1 | rfl
        · exact absurd h1.symm e
        · exact .inl rfl
      · rcases hb with rfl | h1
        · exact .inr rfl
        · exact absurd h1.symm e
theorem Chain.cr {sg : Nat → Bool} {i : Nat} {s t : St} (h : Chain sg i s) (hC : CR s t) : Chain sg i t := by
  refine ⟨fun j h1 h2 => ?_, fun j h1 h2 => ?_, fun c x hx => ?_⟩
  · obtain ⟨c, x, h3, h4⟩ := h.one j h1 h2
    obtain ⟨x', h5, h6⟩ := hC.perm c x h3
    refine ⟨c, x', h5, ?_⟩
    rcases h4 with h4 | h4 <;> rw [h4] at h6
    · exact perm_two h6
    · exact (perm_two h6).symm
  · obtain ⟨c, x, h3, h4⟩ := h.two j h1 h2
    obtain ⟨x', h5, h6⟩ := hC.perm c x h3
    refine ⟨c, x', h5, ?_⟩
    rcases h4 with h4 | h4 <;> rw [h4] at h6
    · exact perm_two h6
    · exact (perm_two h6).symm
  · obtain ⟨y, h3, h4⟩ := hC.back hx
    obtain ⟨j, h5, h6, h7⟩ := h.all c y h3
    refine ⟨j, h5, h6, ?_⟩
    unfold Pair
    rcases h7 with h7 | h7 | h7 | h7 <;> rw [h7] at h4 <;> rcases perm_two h4 with h8 | h8 <;> simp [h8]
/-- A clause of two: where the one is false, the other one is true. -/
theorem bin_prop {t : St} (F : Full t) {c : Nat} {x : Cl} {a b : Int} (hx : t.cls[c]? = some x) (hl : x.lits = [a, b] ∨ x.lits = [b, a]) (ha : -a ∈ t.trail) : b ∈ t.trail := by
  obtain ⟨j, hj⟩ := List.mem_iff_getElem?.1 ha
  have hjl : (j : Int) < t.head := by have := get_lt hj; have := F.hd; omega
  rcases hl with hl | hl
  · obtain ⟨i, h1, _⟩ := F.pi c x a b [] hx hl a b (.inl ⟨rfl, rfl⟩) j hjl hj trivial
    exact List.mem_of_getElem? h1
  · obtain ⟨i, h1, _⟩ := F.pi c x b a [] hx hl a b (.inr ⟨rfl, rfl⟩) j hjl hj trivial
    exact List.mem_of_getElem? h1
theorem Chain.up {sg : Nat → Bool} {i : Nat} {t : St} (h : Chain sg i t) (F : Full t) {j : Nat} (h1 : 1 ≤ j) (h2 : j < i) : ((j : Int) ∈ t.trail → tF sg j ∈ t.trail) ∧ (-(j : Int) ∈ t.trail → -tF sg j ∈ t.trail) ∧ (tF sg j ∈ t.trail → (j : Int) ∈ t.trail) ∧ (-tF sg j ∈ t.trail → -(j : Int) ∈ t.trail) := by
  obtain ⟨c, x, h3, h4⟩ := h.one j h1 h2
  obtain ⟨d, y, h5, h6⟩ := h.two j h1 h2
  exact ⟨fun hm => bin_prop F h3 h4 (by simpa using hm), fun hm => bin_prop F h5 h6 hm, fun hm => bin_prop F h5 (h6.symm) (by simpa using hm), fun hm => bin_prop F h3 (h4.symm) hm⟩
/-- Where the first one is true, all are what is wanted. -/
theorem Chain.want {sg : Nat → Bool} {i : Nat} {t : St} (h : Chain sg i t) (F : Full t) (h1 : (1 : Int) ∈ t.trail) : ∀ j, 1 ≤ j → j ≤ i → wantF sg j ∈ t.trail := by
  intro j
  induction j with
  | zero => intro h; omega
  | succ j ih =>
    intro _ hj
    by_cases h0 : j = 0
    · subst h0; exact h1
    · have h2 := ih (by omega) (by omega)
      obtain ⟨h3, h4, _⟩ := h.up F (j := j) (by omega) (by omega)
      rw [want_next sg (by omega)]
      unfold wantF at h2
      cases hw : wayF sg j with
      | true => rw [hw] at h2; exact h3 (by simpa using h2)
      | false => rw [hw] at h2; exact h4 (by simpa using h2)
theorem litT_abs {A : Nat → Bool} {j : Nat} (hj : 1 ≤ j) : (litT A (j : Int) ↔ A j = true) ∧ (litT A (-(j : Int)) ↔ A j = false) := by
  unfold litT
  constructor
  · rw [if_pos (by omega)]; simp
  · rw [if_neg (by omega), show (-(j : Int)).natAbs = j from by omega]
theorem litT_t {A : Nat → Bool} (sg : Nat → Bool) (j : Nat) : (litT A (tF sg j) ↔ A (j + 1) = !sg j) ∧ (litT A (-tF sg j) ↔ A (j + 1) = sg j) := by
  have h := litT_abs (A := A) (j := j + 1) (by omega)
  have e : ((j + 1 : Nat) : Int) = (j : Int) + 1 := by omega
  rw [e] at h
  unfold tF
  cases sg j with
  | false => simp only [Bool.false_eq_true, if_false, Bool.not_false]; exact h
  | true => simp only [if_true, Bool.not_true, Int.neg_neg]; exact ⟨h.2, h.1⟩
/-- No conflict arises in a chain. -/
theorem chain_nc {sg : Nat → Bool} {i : Nat} {t : St} (h : Chain sg i t) (F : Full t) (hi : 1 ≤ i) (hv : t.vars.length ≤ i + 1) (n : Int) (h0 : n ≠ 0) (hn : n.natAbs < t.vars.length) (h1 : n ∉ t.trail) (h2 : -n ∉ t.trail) : ∃ A, SatA A t ∧ (∀ m ∈ t.trail, litT A m) ∧ litT A n := by
  have W := F.base.wf
  by_cases ht : t.trail = []
  · have hsat : ∀ f : Bool, SatA (fun v => xor f (wayF sg v)) t := fun f c x hx => by
      obtain ⟨j, j1, j2, hp⟩ := h.all c x hx
      obtain ⟨a1, a2⟩ := litT_abs (A := fun v => xor f (wayF sg v)) (j := j) j1
      obtain ⟨b1, b2⟩ := litT_t (A := fun v => xor f (wayF sg v)) sg j
      have e : wayF sg (j + 1) = xor (wayF sg j) (sg j) := by
        obtain ⟨i', rfl⟩ : ∃ i', j = i' + 1 := ⟨j - 1, by omega⟩
        rfl
      simp only [e] at b1 b2
      have key : (litT (fun v => xor f (wayF sg v)) (-(j : Int)) ∨ litT (fun v => xor f (wayF sg v)) (tF sg j)) ∧ (litT (fun v => xor f (wayF sg v)) (j : Int) ∨ litT (fun v => xor f (wayF sg v)) (-tF sg j)) := by
        rw [a1, a2, b1, b2]
        cases f <;> cases wayF sg j <;> cases sg j <;> simp
      rcases hp with hp | hp | hp | hp <;> rw [hp]
      · rcases key.1 with k | k
        · exact ⟨_, by simp, k⟩
        · exact ⟨_, by simp, k⟩
      · rcases key.1 with k | k
        · exact ⟨_, by simp, k⟩
        · exact ⟨_, by simp, k⟩
      · rcases key.2 with k | k
        · exact ⟨_, by simp, k⟩
        · exact ⟨_, by simp, k⟩
      · rcases key.2 with k | k
        · exact ⟨_, by simp, k⟩
        · exact ⟨_, by simp, k⟩
    refine ⟨_, hsat (xor (wayF sg n.natAbs) (decide (0 < n))), fun m hm => by rw [ht] at hm; (cases hm), ?_⟩
    unfold litT
    by_cases hp : 0 < n
    · rw [if_pos hp]; simp only [hp]; cases wayF sg n.natAbs <;> rfl
    · rw [if_neg hp]; simp only [hp]; cases wayF sg n.natAbs <;> rfl
  · exfalso
    let asg : Nat → Prop := fun j => (j : Int) ∈ t.trail ∨ -(j : Int) ∈ t.trail
    have hup : ∀ j, 1 ≤ j → j < i → (asg j ↔ asg (j + 1)) := fun j j1 j2 => by
      obtain ⟨a1, a2, a3, a4⟩ := h.up F j1 j2
      have e : asg (j + 1) ↔ (tF sg j ∈ t.trail ∨ -tF sg j ∈ t.trail) := by
        show (((j + 1 : Nat) : Int) ∈ t.trail ∨ -((j + 1 : Nat) : Int) ∈ t.trail) ↔ _
        rw [show ((j + 1 : Nat) : Int) = (j : Int) + 1 from by omega]
        unfold tF
        cases sg j with
        | false => simp
        | true => simp only [if_true, Int.neg_neg]; exact Or.comm
      rw [e]
      constructor
      · rintro (k | k)
        · exact .inl (a1 k)
        · exact .inr (a2 k)
      · rintro (k | k)
        · exact .inl (a3 k)
        · exact .inr (a4 k)
    have hall : ∀ j, 1 ≤ j → j ≤ i → (asg j ↔ asg 1) := by
      intro j
      induction j with
      | zero => intro h; omega
      | succ j ih =>
        intro _ hj
        by_cases h00 : j = 0
        · subst h00; exact Iff.rfl
        · exact (hup j (by omega) (by omega)).symm.trans (ih (by omega) (by omega))
    obtain ⟨m, hm⟩ : ∃ m, m ∈ t.trail := by
      cases ht2 : t.trail with
      | nil => exact absurd ht2 ht
      | cons a r => exact ⟨a, by simp⟩
    have hmr := W.trail_lt hm
    have hma : asg m.natAbs := by
      show ((m.natAbs : Nat) : Int) ∈ t.trail ∨ _
      by_cases hp : 0 < m
      · left; rw [show ((m.natAbs : Nat) : Int) = m from by omega]; exact hm
      · right; rw [show -((m.natAbs : Nat) : Int) = m from by omega]; exact hm
    have hna : asg n.natAbs := (hall n.natAbs (by omega) (by omega)).2 ((hall m.natAbs (by omega) (by omega)).1 hma)
    have hna' : ((n.natAbs : Nat) : Int) ∈ t.trail ∨ -((n.natAbs : Nat) : Int) ∈ t.trail := hna
    by_cases hp : 0 < n
    · rw [show ((n.natAbs : Nat) : Int) = n from by omega] at hna'
      exact hna'.elim h1 h2
    · rw [show ((n.natAbs : Nat) : Int) = -n from by omega, Int.neg_neg] at hna'
      exact hna'.elim h2 h1
/-- The chain's solver, up to some variable. -/
structure ChainS (sg : Nat → Bool) (i : Nat) (s : St) : Prop where
  idle : Idle s
  chain : Chain sg i s
  learnt : s.learnt = []
  added : s.added = 2 * ((i : Int) - 1)
  clen : s.cls.length = 2 * (i - 1)
  vlen : s.vars.length = if i = 1 then 1 else i + 1
theorem chain_new (sg : Nat → Bool) : ChainS sg 1 Sat.new :=
  ⟨⟨new_full, rfl, rfl, rfl⟩, ⟨fun j h1 h2 => by omega, fun j h1 h2 => by omega, fun c x hx => by simp [Sat.new] at hx⟩, rfl, rfl, rfl, rfl⟩
theorem chain_step {sg : Nat → Bool} {i : Nat} {s : St} (h : ChainS sg i s) (hi : 1 ≤ i) (hi2 : i < 100) : ∃ s1 s2, addF 2000 s [-(i : Int), tF sg i] = some s1 ∧ addF 2000 s1 [(i : Int), -tF sg i] = some s2 ∧ ChainS sg (i + 1) s2 := by
  have ht := tF_abs sg i
  have hvl := h.vlen
  have hv2 : s.vars.length ≤ i + 1 := by rw [hvl]; split <;> omega
  have hcl := h.clen
  have had := h.added
  obtain ⟨s1, a1, a2, a3, a4, a5, o1, a6, a7⟩ := add_bin h.idle 2000 (-(i : Int)) (tF sg i) (by omega) (by omega) (by omega) (by omega) (by omega) (by omega) (by omega)
  obtain ⟨s2, b1, b2, b3, b4, b5, o2, b6, b7⟩ := add_bin a2 2000 (i : Int) (-tF sg i) (by omega) (by rw [a7]; simp; omega) (by omega) (by omega) (by omega) (by omega) (by omega)
  have c2 : s2.cls = s.cls ++ [⟨o1, false, 0⟩, ⟨o2, false, 0⟩] := by rw [b7, a7]; simp
  refine ⟨s1, s2, a1, b1, b2, ⟨fun j h1 h2 => ?_, fun j h1 h2 => ?_, fun c x hx => ?_⟩, by rw [b3, a3]; exact h.learnt, by rw [b4, a4, had]; omega, by rw [c2]; simp; omega, by rw [if_neg (by omega)]; omega⟩
  · by_cases e : j = i
    · subst e
      exact ⟨s.cls.length, ⟨o1, false, 0⟩, by rw [c2]; simp, a6⟩
    · obtain ⟨c, x, h3, h4⟩ := h.chain.one j h1 (by omega)
      exact ⟨c, x, by rw [c2, List.getElem?_append_left (get_lt h3)]; exact h3, h4⟩
  · by_cases e : j = i
    · subst e
      exact ⟨s.cls.length + 1, ⟨o2, false, 0⟩, by rw [c2, List.getElem?_append_right (by omega)]; simp, b6⟩
    · obtain ⟨c, x, h3, h4⟩ := h.chain.two j h1 (by omega)
      exact ⟨c, x, by rw [c2, List.getElem?_append_left (get_lt h3)]; exact h3, h4⟩
  · rw [c2] at hx
    by_cases e : c < s.cls.length
    · rw [List.getElem?_append_left e] at hx
      obtain ⟨j, h3, h4, h5⟩ := h.chain.all c x hx
      exact ⟨j, h3, by omega, h5⟩
    · rw [List.getElem?_append_right (by omega)] at hx
      have h3 := get_lt hx
      simp at h3
      have h4 : c - s.cls.length = 0 ∨ c - s.cls.length = 1 := by omega
      rcases h4 with h4 | h4 <;> rw [h4] at hx <;> simp at hx <;> subst hx
      · exact ⟨i, hi, by omega, by rcases a6 with h | h <;> simp [Pair, h]⟩
      · exact ⟨i, hi, by omega, by rcases b6 with h | h <;> simp [Pair, h]⟩
/-- What is wanted of all. -/
def wants (sg : Nat → Bool) (k : Nat) : List Int := (List.range k).map fun i => wantF sg (i + 1)
theorem few_two {l : List Int} {x y : Int} (hn : l.Nodup) (h : ∀ m ∈ l, m = x ∨ m = y) : l.length ≤ 2 := by
  match l, hn, h with
  | [], _, _ => simp
  | [_], _, _ => simp
  | [_, _], _, _ => simp
  | a :: b :: c :: r, hn, h =>
    exfalso
    simp only [List.nodup_cons, List.mem_cons, not_or] at hn
    have h1 := h a (by simp)
    have h2 := h b (by simp)
    have h3 := h c (by simp)
    rcases h1 with rfl | rfl <;> rcases h2 with rfl | rfl <;> rcases h3 with rfl | rfl <;> simp_all
/-- The chain asked twice. -/
theorem chain_run {sg : Nat → Bool} {k : Nat} {s : St} (h : ChainS sg k s) (hk : 1 ≤ k) (hk2 : k ≤ 100) : ∃ a s1 b s2, solveF 2000 s 0 [1] = some ((a, 0), s1) ∧ solveF 2000 s1 0 [1, -wantF sg k] = some ((b, 0), s2) ∧ a.sat = true ∧ a.model = wants sg k ∧ b.sat = false ∧ b.core.length ≤ 2 := by
  have hvl := h.vlen
  have hv1 : s.vars.length ≤ k + 1 := by rw [hvl]; split <;> omega
  have hNC : ∀ t, Full t → CR s t → t.vars.length ≤ k + 1 → ∀ n : Int, n ≠ 0 → n.natAbs < t.vars.length → n ∉ t.trail → -n ∉ t.trail → ∃ A, SatA A t ∧ (∀ m ∈ t.trail, litT A m) ∧ litT A n := fun t F hC hv n => chain_nc (h.chain.cr hC) F hk hv n
  have hadd := h.added
  obtain ⟨t1, t2, a, s1, B1, g1, hs1, L1, A1, Z1, v1, tr1, br1⟩ := solve_nc 2000 s [1] 1 h.idle.full h.idle.broken (fun n hn => by simp at hn; subst hn; decide) (by decide) (by decide) (by omega) (by omega) (by rw [h.learnt]; decide) fun t F hC _ hv n => hNC t F hC (by omega) n
  have et1 : t2.trail = [] := by
    rw [tr1]
    obtain ⟨m, h1, _⟩ := B1.trail
    rw [h1, h.idle.trail]; simp
  have Zs1 : NoZero s1 := Z1 fun i hi => by rw [et1] at hi; simp at hi
  have C1 : CR s s1 := by
    obtain ⟨m, e⟩ := g1.eq
    have : t2.cls = s.cls := by rw [e]; exact B1.cls
    exact (CR.of_eq this).trans L1.cr
  have hch1 := h.chain.cr C1
  have hsat : a.sat = true := by
    cases hs : a.sat with
    | true => rfl
    | false =>
      obtain ⟨⟨n, hn, hnt⟩, hl, _⟩ := A1.no hs
      exfalso
      have h0 : s1.limits = [] := by
        have : s1.limits.length < 1 := hl
        exact List.eq_nil_of_length_eq_zero (by omega)
      obtain ⟨i, hi⟩ := List.mem_iff_getElem?.1 hnt
      have := Zs1 i (get_lt hi)
      unfold lvlAt at this
      rw [h0] at this
      simp at this
  obtain ⟨hl1, hm1, _, hass1⟩ := A1.yes hsat
  have h1t : (1 : Int) ∈ s1.trail := by
    obtain ⟨i, hi, _⟩ := A1.asm.tr 0 1 (by have : 1 ≤ s1.limits.length := hl1; omega) rfl
    exact List.mem_of_getElem? hi
  have hw1 := hch1.want A1.full h1t
  have hv2 : t2.vars.length = k + 1 := by
    have hlen := g1.len
    have hB1 := B1.vlen
    by_cases e : k = 1
    · rw [if_pos e] at hvl
      have h1' := (A1.full.base.wf.trail_lt h1t).2
      have := L1.vlen
      have : (1 : Int).natAbs = 1 := rfl
      omega
    · rw [if_neg e] at hvl
      omega
  have hvs1 : s1.vars.length = k + 1 := by rw [L1.vlen]; exact hv2
  have hmod : a.model = wants sg k := by
    rw [hm1]
    unfold modelF wants
    apply List.ext_getElem?
    intro i
    rw [List.getElem?_map, List.getElem?_map, List.getElem?_drop]
    by_cases hi : i < k
    · rw [List.getElem?_range hi]
      obtain ⟨h0, f, hf, hfl⟩ := A1.full.base.wf.mem _ (hw1 (i + 1) (by omega) (by omega))
      rw [want_abs] at hf
      rw [show 1 + i = i + 1 from by omega, hf]
      show some f.lit = some _
      rw [hfl]
    · rw [List.getElem?_eq_none (l := s1.vars) (by omega), List.getElem?_eq_none (l := List.range k) (by simp; omega)]; rfl
  have hbr1 : s1.broken = false := by rw [L1.broken]; exact br1
  have sc1 : s1.added = s.added ∧ s1.learnt = s.learnt := by
    obtain ⟨m, e⟩ := g1.eq
    constructor
    · rw [L1.added, e]; exact B1.added
    · rw [L1.learnt, e]; exact B1.learnt
  have hwk := want_abs sg k
  obtain ⟨u1, u2, b, s2, B2, g2, hs2, L2, A2, Z2, v2, tr2, br2⟩ := solve_nc 2000 s1 [1, -wantF sg k] k A1.full hbr1 (fun n hn => by
    simp at hn
    rcases hn with rfl | rfl
    · exact ⟨by decide, by show (1 : Int).natAbs ≤ k; have : (1 : Int).natAbs = 1 := rfl; omega⟩
    · exact ⟨by omega, by omega⟩) (by omega) (by simp) (by omega) (by rw [sc1.1]; omega) (by rw [sc1.2, h.learnt]; decide) fun t F hC _ hv n => hNC t F (C1.trans hC) (by omega) n
  have C2 : CR s s2 := by
    obtain ⟨m, e⟩ := g2.eq
    have : u2.cls = s1.cls := by rw [e]; exact B2.cls
    exact (C1.trans (CR.of_eq this)).trans L2.cr
  have hch2 := h.chain.cr C2
  have hbs : b.sat = false := by
    cases hs : b.sat with
    | false => rfl
    | true =>
      exfalso
      obtain ⟨hl2, _⟩ := A2.yes hs
      have hl2' : 2 ≤ s2.limits.length := hl2
      obtain ⟨i, hi, _⟩ := A2.asm.tr 0 1 (by omega) rfl
      obtain ⟨j, hj, _⟩ := A2.asm.tr 1 (-wantF sg k) (by omega) rfl
      have := hch2.want A2.full (List.mem_of_getElem? hi) k hk (Nat.le_refl _)
      exact A2.full.base.wf.not_both this (List.mem_of_getElem? hj)
  obtain ⟨_, _, hnd, hmem⟩ := A2.no hbs
  exact ⟨a, s1, b, s2, hs1, hs2, hsat, hmod, hbs, few_two hnd fun m hm => by simpa using hmem m hm⟩
end Go.Sat
