/- Small looks at a solver, walked: of, level, value, ahead. -/
import Derived.Test.YtfpjfogddepbkaaCz02
import Derived.Test.YtfpjfogddepbkaaChecked
import Derived.Lib.Hide
import Derived.Laws.Rows
import Derived.BigQuiet
import Derived.BigRegion
import Derived.BigCall
import Derived.BigGuard
set_option linter.unusedSimpArgs false
set_option linter.unusedVariables false
namespace Go.Proofs.Ytfpjfogddepbkaa
open Go.RowKit Go.Mem Go.Sat
namespace SaW
theorem sees_slice {α : Type} {w : World} {enc : α → Value} {v : Value} {xs : List α} (h : Sees w enc v xs) : ∃ A c, v = .slice A xs.length c ∧ ∀ i x, xs[i]? = some x → ∃ g o, A = some ⟨g, o, none⟩ ∧ w.cell? ⟨g, o + i, none⟩ = some (enc x) := by
  rcases h with ⟨rfl, rfl⟩ | ⟨g, o, cap, rfl, _, _, hc⟩
  · exact ⟨none, 0, rfl, fun i x h => by simp at h⟩
  · exact ⟨_, _, rfl, fun i x h => ⟨g, o, rfl, hc i x h⟩⟩
/-- A literal's size. -/
def Sml (n : Int) : Prop := -1048576 ≤ n ∧ n ≤ 1048576
theorem of_abs {n : Int} (h : Sml n) : 0 ≤ ofF n ∧ ofF n ≤ 1048576 := by unfold ofF Sml at *; split <;> omega
set_option maxRecDepth 100000 in
theorem of_calls (w : World) (n : Int) (hsm : Sml n) : Calls Try.prog 44 #[.int .i64 n] w fun e w' => e = .returned (.int .i64 (ofF n)) ∧ Frm (fun _ => False) w w' := by
  have hw : wrap64 (-n) = -n := by unfold Sml at hsm; unfold wrap64; omega
  clear hsm
  go_enter Try.func44, Try.ntmps44
  go_wp2
  all_goals go_ret
  all_goals refine ⟨?_, Frm.refl _ _⟩
  · unfold ofF
    rw [if_pos h]
    rfl
  · unfold ofF
    rw [if_neg (by omega)]
    rfl
section
variable {w : World} {R : Nat → Option Role} {p : Nat} {s : St}
set_option maxRecDepth 100000 in
theorem level_calls (h : SolverAt w R p s) : Calls Try.prog 33 #[.pointer (some ⟨p, 0, none⟩)] w fun e w' => e = .returned (.int .i64 (levelF s)) ∧ Frm (fun _ => False) w w' := by
  obtain ⟨ids, vv, hv, pv, lv, tv, mv, bm, kvs, H⟩ := h
  obtain ⟨c0, c1, c2, c3, c4, c5, c6, c7, c8, c9, c10, c11⟩ := H.cells
  have hl := H.limits.sees.len
  obtain ⟨A, c, rfl, _⟩ := sees_slice H.limits.sees
  clear H
  go_enter Try.func33, Try.ntmps33
  go_wp2
  go_ret
  exact ⟨rfl, Frm.refl _ _⟩
/-- A variable's cells. -/
theorem fact_cells {ids : List Nat} {vv hv pv lv tv mv : Value} {bm : Nat} {kvs : List (Int × Value)} (H : SRep w R p s ids vv hv pv lv tv mv bm kvs) {i : Int} {a : Fact} (ha : nth s.vars i = some a) : ∃ (k : Nat) (g c : Nat), i = k ∧ k < s.vars.length ∧ s.vars.length ≤ maxLen ∧ vv = .slice (some ⟨g, 0, none⟩) s.vars.length c ∧ R g = some .vars ∧ w.cell? ⟨g, k * 5, none⟩ = some (.int .i64 a.lit) ∧ w.cell? ⟨g, k * 5 + 1, none⟩ = some (.int .i64 a.level) ∧ w.cell? ⟨g, k * 5 + 2, none⟩ = some (encR ids a.reason) ∧ w.cell? ⟨g, k * 5 + 3, none⟩ = some (.int .i64 a.score) ∧ w.cell? ⟨g, k * 5 + 4, none⟩ = some (.int .i64 a.phase) := by
  obtain ⟨k, rfl, hk, hkl⟩ := nth_get ha
  have hlen := H.vars.len
  have hr := H.rvars
  obtain ⟨A, c, rfl, hc⟩ := H.vars.slice
  obtain ⟨g, rfl, _, hcell⟩ := hc k a hk
  exact ⟨k, g, c, rfl, hkl, hlen, rfl, hr g rfl, hcell 0 _ rfl, hcell 1 _ rfl, hcell 2 _ rfl, hcell 3 _ rfl, hcell 4 _ rfl⟩
set_option maxRecDepth 100000 in
set_option maxHeartbeats 1000000 in
theorem value_calls0 (h : SolverAt w R p s) (n v : Int) (hn : Sml n) (hv' : valueF0 s n = some v) : Calls Try.prog 27 #[.pointer (some ⟨p, 0, none⟩), .int .i64 n] w fun e w' => e = .returned (.int .i64 v) ∧ Frm (fun _ => False) w w' := by
  obtain ⟨ids, vv, hv, pv, lv, tv, mv, bm, kvs, H⟩ := h
  have HS := Lib.hid H
  obtain ⟨c0, c1, c2, c3, c4, c5, c6, c7, c8, c9, c10, c11⟩ := H.cells
  unfold valueF0 at hv'
  obtain ⟨a, ha, hv'⟩ := Option.map_eq_some_iff.1 hv'
  obtain ⟨k, g, cc, hk, hkl, hml, rfl, _, x0, x1, x2, x3, x4⟩ := fact_cells H ha
  have HO := Lib.hid (fun w1 => of_calls w1 n hn)
  rw [hk] at HO
  have hkI : (k : Int) < (s.vars.length : Int) := by omega
  have HV := Lib.hid hv'
  clear H ha hk hv'
  go_enter Try.func27, Try.ntmps27
  go_wp2_with fail
  refine Plan.wp_region_plan [0, 1, 3, 7, 0, 16, 63, 127, 255] [.mk [0, 1, 2, 3, 4] 5 [0, 1, 2, 3]] [6, 7, 8] (by kernel_rfl) (by kernel_rfl) ?_
  simp only [Plan.wayOf, Plan.pickAll, List.getElem?_cons_zero, List.getElem?_cons_succ, List.getD_eq_getElem?_getD, Option.getD_some]
  refine Plan.wpWay_seg ?_
  repeat go_big_quiet_step (fail)
  refine wpQuiet_nil ?_; refine Plan.wpWay_act ?_
  go_wp2_with fail
  refine (HO.out _).mono ?_
  rintro e w1 ⟨rfl, hf⟩
  have HF := Lib.hid (show Frm (fun _ => False) w w1 from frm_then (Frm.refl _ _).drew hf)
  have c0 := frm_cell HF.out c0
  have x0 := frm_cell HF.out x0
  clear hf
  go_wp2_with fail
  refine And.intro ?_ ?_; focus ((iterate 4 (refine Plan.again_cons ?_ ?_; focus (go_big_quiet_step (fail); exact wpQuiet_nil rfl))); exact Plan.again_nil)
  refine Plan.wpWay_last ?_
  repeat go_big_quiet_step (fail)
  refine wpQuiet_nil ?_; refine NoPanic.normal ?_
  by_cases h0 : a.lit = 0
  · have e0 : (a.lit == 0) = true := by simpa using h0
    have hv2 := Lib.hid (HV.out.symm.trans (if_pos h0))
    clear h0
    go_wp2
    go_ret
    exact ⟨by rw [hv2.out]; rfl, HF.out⟩
  · have e0 : (a.lit == 0) = false := by simpa using h0
    have hv1 := Lib.hid (HV.out.symm.trans (if_neg h0))
    by_cases h1 : a.lit = n
    · have e1 : (a.lit == n) = true := by simpa using h1
      have hv2 := Lib.hid (hv1.out.trans (if_pos h1))
      clear h1 h0
      go_wp2
      go_ret
      exact ⟨by rw [hv2.out]; rfl, HF.out⟩
    · have e1 : (a.lit == n) = false := by simpa using h1
      have hv2 := Lib.hid (hv1.out.trans (if_neg h1))
      clear h1 h0
      go_wp2
      go_ret
      exact ⟨by rw [hv2.out]; rfl, HF.out⟩
theorem less_not {x y : Int} (h : ¬ x = y) : (x == y) = false := by simpa using h
set_option maxRecDepth 100000 in
set_option maxHeartbeats 1000000 in
theorem ahead_calls (h : SolverAt w R p s) (x y : Int) (b : Bool) (hb : aheadF s x y = some b) : Calls Try.prog 66 #[.pointer (some ⟨p, 0, none⟩), .int .i64 x, .int .i64 y] w fun e w' => e = .returned (.bool b) ∧ Frm (fun _ => False) w w' := by
  obtain ⟨ids, vv, hv, pv, lv, tv, mv, bm, kvs, H⟩ := h
  have HS := Lib.hid H
  obtain ⟨c0, c1, c2, c3, c4, c5, c6, c7, c8, c9, c10, c11⟩ := H.cells
  unfold aheadF at hb
  split at hb
  case h_2 => cases hb
  rename_i a1 a2 ha1 ha2
  have HB := Lib.hid (Option.some.inj hb)
  clear hb
  obtain ⟨k, g, cc, rfl, hkl, hml, hvv, _, x0, x1, x2, x3, x4⟩ := fact_cells H ha1
  obtain ⟨j, g', cc', rfl, hjl, _, hvv', _, y0, y1, y2, y3, y4⟩ := fact_cells H ha2
  subst hvv
  cases hvv'
  have hkI : (k : Int) < (s.vars.length : Int) := by omega
  have hjI : (j : Int) < (s.vars.length : Int) := by omega
  clear H ha1 ha2 x0 x1 x2 x4 y0 y1 y2 y4
  go_enter Try.func66, Try.ntmps66
  by_cases he : a1.score = a2.score
  · have e0 : (a1.score != a2.score) = false := by simpa using he
    have HB2 := Lib.hid (HB.out.symm.trans (if_pos he))
    clear he
    go_wp2
    go_quiet (fail)
    go_wp2
    go_ret
    exact ⟨by rw [HB2.out]; exact congrArg (fun z => Ending.returned (.bool z)) (show decide (k < j) = decide ((k : Int) < (j : Int)) by simp), (Frm.refl _ _).drewN _⟩
  · have e0 : (a1.score != a2.score) = true := by simpa using he
    have HB2 := Lib.hid (HB.out.symm.trans (if_neg he))
    clear he
    go_wp2
    go_quiet (fail)
    go_wp2
    go_quiet (fail)
    go_wp2
    go_ret
    exact ⟨by rw [HB2.out]; rfl, ((Frm.refl _ _).drewN _).drewN _⟩
end
end SaW
end Go.Proofs.Ytfpjfogddepbkaa
/- A solver in memory: one of its parts written. (By a program: genSaN.py.) -/
namespace Go.Proofs.Ytfpjfogddepbkaa
open Go.RowKit Go.Mem Go.Sat
namespace SaW
theorem not_role {R : Nat → Option Role} {b : Nat} {r x : Role} (h : R b = some r) (hx : r ≠ x) : ¬ R b = some x := fun e => hx (Option.some.inj (h.symm.trans e))
/-- Roles, with one block more. -/
def upd (R : Nat → Option Role) (g : Nat) (r : Role) : Nat → Option Role := fun b => if b = g then some r else R b
theorem upd_at (R : Nat → Option Role) (g : Nat) (r : Role) : upd R g r g = some r := if_pos rfl
theorem upd_old {R : Nat → Option Role} {g b : Nat} {r x : Role} (h : R b = some x) (hg : R g = none ∨ R g = some r) : upd R g r b = some x := by
  unfold upd
  by_cases hb : b = g
  · rw [if_pos hb]
    subst hb
    rcases hg with hg | hg
    · rw [hg] at h; cases h
    · rw [← hg]; exact h
  · rw [if_neg hb]; exact h
section
variable {w w' w1 : World} {R : Nat → Option Role} {p : Nat} {s : St} {ids : List Nat} {vv hv pv lv tv mv : Value} {bm : Nat} {kvs : List (Int × Value)}
theorem SRep.in_vars {x' : List Fact} (h : SRep w R p s ids vv hv pv lv tv mv bm kvs) (hf : Frm (fun b => R b = some .vars) w w') (hrow : SRow w' 73 (encF ids) vv x') (hrefs : ∀ x ∈ x', ∀ c, x.reason = some c → c < s.cls.length) : SRep w' R p { s with vars := x' } ids vv hv pv lv tv mv bm kvs :=
  ⟨blk_frm h.box hf (not_role (h.rme) (by intro e; cases e)),
    hrow,
    h.heap.frm hf fun g hg => (not_role (h.rheap g hg) (by intro e; cases e)),
    h.place.frm hf fun g hg => (not_role (h.rplace g hg) (by intro e; cases e)),
    h.learnt.frm hf fun g hg => (not_role (h.rlearnt g hg) (by intro e; cases e)),
    h.trail.frm hf fun g hg => (not_role (h.rtrail g hg) (by intro e; cases e)),
    h.limits.frm hf fun g hg => (not_role (h.rlimits g hg) (by intro e; cases e)),
    h.map.frm hf (not_role (h.rmap) (by intro e; cases e)),
    h.keys,
    fun i n v l h1 h2 => ⟨(h.rows i n v l h1 h2).1.frm hf fun g hg => (not_role ((h.rows i n v l h1 h2).2 g hg) (by intro e; cases e)), (h.rows i n v l h1 h2).2⟩,
    h.idl,
    fun c x hx => (by obtain ⟨b, v, h1, h2, h3, h4, h5⟩ := h.cls c x hx; exact ⟨b, v, h1, h2, blk_frm h3 hf (not_role (h2) (by intro e; cases e)), h4.frm hf fun g hg => (not_role (h5 g hg) (by intro e; cases e)), h5⟩),
    h.rme,
    h.rvars,
    h.rheap,
    h.rplace,
    h.rlearnt,
    h.rtrail,
    h.rlimits,
    h.rmap,
    fun b r hb => Nat.lt_of_lt_of_le (h.lt b r hb) hf.size,
    ⟨hrefs, h.refs.2.1, h.refs.2.2⟩,
    h.wnd,
    h.onec⟩
theorem SRep.new_vars {x' : List Fact} {u : Value} {g0 : Nat} (h : SRep w R p s ids vv hv pv lv tv mv bm kvs) (hf : Frm (fun b => R b = some .vars ∨ R b = some .me) w w') (hbox : w'.heap[p]? = some (.cells #[u, hv, pv, .map (some bm), lv, tv, mv, .int .i64 s.head, .int .i64 s.conflicts, .int .i64 s.added, .int .i64 s.bump, .bool s.broken] 49)) (hrow : SRow w' 73 (encF ids) u x') (hu : ∀ g', u.ownBlock = some g' → g' = g0) (hgr : R g0 = none ∨ R g0 = some .vars) (hlt : g0 < w'.heap.size) (hrefs : ∀ x ∈ x', ∀ c, x.reason = some c → c < s.cls.length) : SRep w' (upd R g0 .vars) p { s with vars := x' } ids u hv pv lv tv mv bm kvs :=
  ⟨hbox,
    hrow,
    h.heap.frm hf fun g hg => (fun e => by rcases e with e | e; exact not_role (h.rheap g hg) (by intro e; cases e) e; exact not_role (h.rheap g hg) (by intro e; cases e) e),
    h.place.frm hf fun g hg => (fun e => by rcases e with e | e; exact not_role (h.rplace g hg) (by intro e; cases e) e; exact not_role (h.rplace g hg) (by intro e; cases e) e),
    h.learnt.frm hf fun g hg => (fun e => by rcases e with e | e; exact not_role (h.rlearnt g hg) (by intro e; cases e) e; exact not_role (h.rlearnt g hg) (by intro e; cases e) e),
    h.trail.frm hf fun g hg => (fun e => by rcases e with e | e; exact not_role (h.rtrail g hg) (by intro e; cases e) e; exact not_role (h.rtrail g hg) (by intro e; cases e) e),
    h.limits.frm hf fun g hg => (fun e => by rcases e with e | e; exact not_role (h.rlimits g hg) (by intro e; cases e) e; exact not_role (h.rlimits g hg) (by intro e; cases e) e),
    h.map.frm hf (fun e => by rcases e with e | e; exact not_role (h.rmap) (by intro e; cases e) e; exact not_role (h.rmap) (by intro e; cases e) e),
    h.keys,
    fun i n v l h1 h2 => ⟨(h.rows i n v l h1 h2).1.frm hf fun g hg => (fun e => by rcases e with e | e; exact not_role ((h.rows i n v l h1 h2).2 g hg) (by intro e; cases e) e; exact not_role ((h.rows i n v l h1 h2).2 g hg) (by intro e; cases e) e), fun g hg => upd_old ((h.rows i n v l h1 h2).2 g hg) hgr⟩,
    h.idl,
    fun c x hx => (by obtain ⟨b, v, h1, h2, h3, h4, h5⟩ := h.cls c x hx; exact ⟨b, v, h1, upd_old h2 hgr, blk_frm h3 hf (fun e => by rcases e with e | e; exact not_role (h2) (by intro e; cases e) e; exact not_role (h2) (by intro e; cases e) e), h4.frm hf fun g hg => (fun e => by rcases e with e | e; exact not_role (h5 g hg) (by intro e; cases e) e; exact not_role (h5 g hg) (by intro e; cases e) e), fun g hg => upd_old (h5 g hg) hgr⟩),
    upd_old h.rme hgr,
    fun g' hg => (by rw [hu g' hg]; exact upd_at _ _ _),
    fun g hg => upd_old (h.rheap g hg) hgr,
    fun g hg => upd_old (h.rplace g hg) hgr,
    fun g hg => upd_old (h.rlearnt g hg) hgr,
    fun g hg => upd_old (h.rtrail g hg) hgr,
    fun g hg => upd_old (h.rlimits g hg) hgr,
    upd_old h.rmap hgr,
    fun b r hb => (by unfold upd at hb; split at hb; rename_i e; rw [e]; exact hlt; exact Nat.lt_of_lt_of_le (h.lt b r hb) hf.size),
    ⟨hrefs, h.refs.2.1, h.refs.2.2⟩,
    h.wnd,
    fun b c hb => h.onec b c (by unfold upd at hb; split at hb; cases hb; exact hb)⟩
theorem SRep.in_heap {x' : List Int} (h : SRep w R p s ids vv hv pv lv tv mv bm kvs) (hf : Frm (fun b => R b = some .heap) w w') (hrow : Row w' 3 iI hv x') : SRep w' R p { s with heap := x' } ids vv hv pv lv tv mv bm kvs :=
  ⟨blk_frm h.box hf (not_role (h.rme) (by intro e; cases e)),
    h.vars.frm hf fun g hg => (not_role (h.rvars g hg) (by intro e; cases e)),
    hrow,
    h.place.frm hf fun g hg => (not_role (h.rplace g hg) (by intro e; cases e)),
    h.learnt.frm hf fun g hg => (not_role (h.rlearnt g hg) (by intro e; cases e)),
    h.trail.frm hf fun g hg => (not_role (h.rtrail g hg) (by intro e; cases e)),
    h.limits.frm hf fun g hg => (not_role (h.rlimits g hg) (by intro e; cases e)),
    h.map.frm hf (not_role (h.rmap) (by intro e; cases e)),
    h.keys,
    fun i n v l h1 h2 => ⟨(h.rows i n v l h1 h2).1.frm hf fun g hg => (not_role ((h.rows i n v l h1 h2).2 g hg) (by intro e; cases e)), (h.rows i n v l h1 h2).2⟩,
    h.idl,
    fun c x hx => (by obtain ⟨b, v, h1, h2, h3, h4, h5⟩ := h.cls c x hx; exact ⟨b, v, h1, h2, blk_frm h3 hf (not_role (h2) (by intro e; cases e)), h4.frm hf fun g hg => (not_role (h5 g hg) (by intro e; cases e)), h5⟩),
    h.rme,
    h.rvars,
    h.rheap,
    h.rplace,
    h.rlearnt,
    h.rtrail,
    h.rlimits,
    h.rmap,
    fun b r hb => Nat.lt_of_lt_of_le (h.lt b r hb) hf.size,
    h.refs,
    h.wnd,
    h.onec⟩
theorem SRep.new_heap {x' : List Int} {u : Value} {g0 : Nat} (h : SRep w R p s ids vv hv pv lv tv mv bm kvs) (hf : Frm (fun b => R b = some .heap ∨ R b = some .me) w w') (hbox : w'.heap[p]? = some (.cells #[vv, u, pv, .map (some bm), lv, tv, mv, .int .i64 s.head, .int .i64 s.conflicts, .int .i64 s.added, .int .i64 s.bump, .bool s.broken] 49)) (hrow : Row w' 3 iI u x') (hu : ∀ g', u.ownBlock = some g' → g' = g0) (hgr : R g0 = none ∨ R g0 = some .heap) (hlt : g0 < w'.heap.size) : SRep w' (upd R g0 .heap) p { s with heap := x' } ids vv u pv lv tv mv bm kvs :=
  ⟨hbox,
    h.vars.frm hf fun g hg => (fun e => by rcases e with e | e; exact not_role (h.rvars g hg) (by intro e; cases e) e; exact not_role (h.rvars g hg) (by intro e; cases e) e),
    hrow,
    h.place.frm hf fun g hg => (fun e => by rcases e with e | e; exact not_role (h.rplace g hg) (by intro e; cases e) e; exact not_role (h.rplace g hg) (by intro e; cases e) e),
    h.learnt.frm hf fun g hg => (fun e => by rcases e with e | e; exact not_role (h.rlearnt g hg) (by intro e; cases e) e; exact not_role (h.rlearnt g hg) (by intro e; cases e) e),
    h.trail.frm hf fun g hg => (fun e => by rcases e with e | e; exact not_role (h.rtrail g hg) (by intro e; cases e) e; exact not_role (h.rtrail g hg) (by intro e; cases e) e),
    h.limits.frm hf fun g hg => (fun e => by rcases e with e | e; exact not_role (h.rlimits g hg) (by intro e; cases e) e; exact not_role (h.rlimits g hg) (by intro e; cases e) e),
    h.map.frm hf (fun e => by rcases e with e | e; exact not_role (h.rmap) (by intro e; cases e) e; exact not_role (h.rmap) (by intro e; cases e) e),
    h.keys,
    fun i n v l h1 h2 => ⟨(h.rows i n v l h1 h2).1.frm hf fun g hg => (fun e => by rcases e with e | e; exact not_role ((h.rows i n v l h1 h2).2 g hg) (by intro e; cases e) e; exact not_role ((h.rows i n v l h1 h2).2 g hg) (by intro e; cases e) e), fun g hg => upd_old ((h.rows i n v l h1 h2).2 g hg) hgr⟩,
    h.idl,
    fun c x hx => (by obtain ⟨b, v, h1, h2, h3, h4, h5⟩ := h.cls c x hx; exact ⟨b, v, h1, upd_old h2 hgr, blk_frm h3 hf (fun e => by rcases e with e | e; exact not_role (h2) (by intro e; cases e) e; exact not_role (h2) (by intro e; cases e) e), h4.frm hf fun g hg => (fun e => by rcases e with e | e; exact not_role (h5 g hg) (by intro e; cases e) e; exact not_role (h5 g hg) (by intro e; cases e) e), fun g hg => upd_old (h5 g hg) hgr⟩),
    upd_old h.rme hgr,
    fun g hg => upd_old (h.rvars g hg) hgr,
    fun g' hg => (by rw [hu g' hg]; exact upd_at _ _ _),
    fun g hg => upd_old (h.rplace g hg) hgr,
    fun g hg => upd_old (h.rlearnt g hg) hgr,
    fun g hg => upd_old (h.rtrail g hg) hgr,
    fun g hg => upd_old (h.rlimits g hg) hgr,
    upd_old h.rmap hgr,
    fun b r hb => (by unfold upd at hb; split at hb; rename_i e; rw [e]; exact hlt; exact Nat.lt_of_lt_of_le (h.lt b r hb) hf.size),
    h.refs,
    h.wnd,
    fun b c hb => h.onec b c (by unfold upd at hb; split at hb; cases hb; exact hb)⟩
theorem SRep.in_place {x' : List Int} (h : SRep w R p s ids vv hv pv lv tv mv bm kvs) (hf : Frm (fun b => R b = some .place) w w') (hrow : Row w' 3 iI pv x') : SRep w' R p { s with place := x' } ids vv hv pv lv tv mv bm kvs :=
  ⟨blk_frm h.box hf (not_role (h.rme) (by intro e; cases e)),
    h.vars.frm hf fun g hg => (not_role (h.rvars g hg) (by intro e; cases e)),
    h.heap.frm hf fun g hg => (not_role (h.rheap g hg) (by intro e; cases e)),
    hrow,
    h.learnt.frm hf fun g hg => (not_role (h.rlearnt g hg) (by intro e; cases e)),
    h.trail.frm hf fun g hg => (not_role (h.rtrail g hg) (by intro e; cases e)),
    h.limits.frm hf fun g hg => (not_role (h.rlimits g hg) (by intro e; cases e)),
    h.map.frm hf (not_role (h.rmap) (by intro e; cases e)),
    h.keys,
    fun i n v l h1 h2 => ⟨(h.rows i n v l h1 h2).1.frm hf fun g hg => (not_role ((h.rows i n v l h1 h2).2 g hg) (by intro e; cases e)), (h.rows i n v l h1 h2).2⟩,
    h.idl,
    fun c x hx => (by obtain ⟨b, v, h1, h2, h3, h4, h5⟩ := h.cls c x hx; exact ⟨b, v, h1, h2, blk_frm h3 hf (not_role (h2) (by intro e; cases e)), h4.frm hf fun g hg => (not_role (h5 g hg) (by intro e; cases e)), h5⟩),
    h.rme,
    h.rvars,
    h.rheap,
    h.rplace,
    h.rlearnt,
    h.rtrail,
    h.rlimits,
    h.rmap,
    fun b r hb => Nat.lt_of_lt_of_le (h.lt b r hb) hf.size,
    h.refs,
    h.wnd,
    h.onec⟩
theorem SRep.new_place {x' : List Int} {u : Value} {g0 : Nat} (h : SRep w R p s ids vv hv pv lv tv mv bm kvs) (hf : Frm (fun b => R b = some .place ∨ R b = some .me) w w') (hbox : w'.heap[p]? = some (.cells #[vv, hv, u, .map (some bm), lv, tv, mv, .int .i64 s.head, .int .i64 s.conflicts, .int .i64 s.added, .int .i64 s.bump, .bool s.broken] 49)) (hrow : Row w' 3 iI u x') (hu : ∀ g', u.ownBlock = some g' → g' = g0) (hgr : R g0 = none ∨ R g0 = some .place) (hlt : g0 < w'.heap.size) : SRep w' (upd R g0 .place) p { s with place := x' } ids vv hv u lv tv mv bm kvs :=
  ⟨hbox,
    h.vars.frm hf fun g hg => (fun e => by rcases e with e | e; exact not_role (h.rvars g hg) (by intro e; cases e) e; exact not_role (h.rvars g hg) (by intro e; cases e) e),
    h.heap.frm hf fun g hg => (fun e => by rcases e with e | e; exact not_role (h.rheap g hg) (by intro e; cases e) e; exact not_role (h.rheap g hg) (by intro e; cases e) e),
    hrow,
    h.learnt.frm hf fun g hg => (fun e => by rcases e with e | e; exact not_role (h.rlearnt g hg) (by intro e; cases e) e; exact not_role (h.rlearnt g hg) (by intro e; cases e) e),
    h.trail.frm hf fun g hg => (fun e => by rcases e with e | e; exact not_role (h.rtrail g hg) (by intro e; cases e) e; exact not_role (h.rtrail g hg) (by intro e; cases e) e),
    h.limits.frm hf fun g hg => (fun e => by rcases e with e | e; exact not_role (h.rlimits g hg) (by intro e; cases e) e; exact not_role (h.rlimits g hg) (by intro e; cases e) e),
    h.map.frm hf (fun e => by rcases e with e | e; exact not_role (h.rmap) (by intro e; cases e) e; exact not_role (h.rmap) (by intro e; cases e) e),
    h.keys,
    fun i n v l h1 h2 => ⟨(h.rows i n v l h1 h2).1.frm hf fun g hg => (fun e => by rcases e with e | e; exact not_role ((h.rows i n v l h1 h2).2 g hg) (by intro e; cases e) e; exact not_role ((h.rows i n v l h1 h2).2 g hg) (by intro e; cases e) e), fun g hg => upd_old ((h.rows i n v l h1 h2).2 g hg) hgr⟩,
    h.idl,
    fun c x hx => (by obtain ⟨b, v, h1, h2, h3, h4, h5⟩ := h.cls c x hx; exact ⟨b, v, h1, upd_old h2 hgr, blk_frm h3 hf (fun e => by rcases e with e | e; exact not_role (h2) (by intro e; cases e) e; exact not_role (h2) (by intro e; cases e) e), h4.frm hf fun g hg => (fun e => by rcases e with e | e; exact not_role (h5 g hg) (by intro e; cases e) e; exact not_role (h5 g hg) (by intro e; cases e) e), fun g hg => upd_old (h5 g hg) hgr⟩),
    upd_old h.rme hgr,
    fun g hg => upd_old (h.rvars g hg) hgr,
    fun g hg => upd_old (h.rheap g hg) hgr,
    fun g' hg => (by rw [hu g' hg]; exact upd_at _ _ _),
    fun g hg => upd_old (h.rlearnt g hg) hgr,
    fun g hg => upd_old (h.rtrail g hg) hgr,
    fun g hg => upd_old (h.rlimits g hg) hgr,
    upd_old h.rmap hgr,
    fun b r hb => (by unfold upd at hb; split at hb; rename_i e; rw [e]; exact hlt; exact Nat.lt_of_lt_of_le (h.lt b r hb) hf.size),
    h.refs,
    h.wnd,
    fun b c hb => h.onec b c (by unfold upd at hb; split at hb; cases hb; exact hb)⟩
theorem SRep.in_learnt {x' : List Nat} (h : SRep w R p s ids vv hv pv lv tv mv bm kvs) (hf : Frm (fun b => R b = some .learnt) w w') (hrow : Row w' 58 (encC ids) lv x') (hrefs : ∀ c ∈ x', c < s.cls.length) : SRep w' R p { s with learnt := x' } ids vv hv pv lv tv mv bm kvs :=
  ⟨blk_frm h.box hf (not_role (h.rme) (by intro e; cases e)),
    h.vars.frm hf fun g hg => (not_role (h.rvars g hg) (by intro e; cases e)),
    h.heap.frm hf fun g hg => (not_role (h.rheap g hg) (by intro e; cases e)),
    h.place.frm hf fun g hg => (not_role (h.rplace g hg) (by intro e; cases e)),
    hrow,
    h.trail.frm hf fun g hg => (not_role (h.rtrail g hg) (by intro e; cases e)),
    h.limits.frm hf fun g hg => (not_role (h.rlimits g hg) (by intro e; cases e)),
    h.map.frm hf (not_role (h.rmap) (by intro e; cases e)),
    h.keys,
    fun i n v l h1 h2 => ⟨(h.rows i n v l h1 h2).1.frm hf fun g hg => (not_role ((h.rows i n v l h1 h2).2 g hg) (by intro e; cases e)), (h.rows i n v l h1 h2).2⟩,
    h.idl,
    fun c x hx => (by obtain ⟨b, v, h1, h2, h3, h4, h5⟩ := h.cls c x hx; exact ⟨b, v, h1, h2, blk_frm h3 hf (not_role (h2) (by intro e; cases e)), h4.frm hf fun g hg => (not_role (h5 g hg) (by intro e; cases e)), h5⟩),
    h.rme,
    h.rvars,
    h.rheap,
    h.rplace,
    h.rlearnt,
    h.rtrail,
    h.rlimits,
    h.rmap,
    fun b r hb => Nat.lt_of_lt_of_le (h.lt b r hb) hf.size,
    ⟨h.refs.1, h.refs.2.1, hrefs⟩,
    h.wnd,
    h.onec⟩
theorem SRep.new_learnt {x' : List Nat} {u : Value} {g0 : Nat} (h : SRep w R p s ids vv hv pv lv tv mv bm kvs) (hf : Frm (fun b => R b = some .learnt ∨ R b = some .me) w w') (hbox : w'.heap[p]? = some (.cells #[vv, hv, pv, .map (some bm), u, tv, mv, .int .i64 s.head, .int .i64 s.conflicts, .int .i64 s.added, .int .i64 s.bump, .bool s.broken] 49)) (hrow : Row w' 58 (encC ids) u x') (hu : ∀ g', u.ownBlock = some g' → g' = g0) (hgr : R g0 = none ∨ R g0 = some .learnt) (hlt : g0 < w'.heap.size) (hrefs : ∀ c ∈ x', c < s.cls.length) : SRep w' (upd R g0 .learnt) p { s with learnt := x' } ids vv hv pv u tv mv bm kvs :=
  ⟨hbox,
    h.vars.frm hf fun g hg => (fun e => by rcases e with e | e; exact not_role (h.rvars g hg) (by intro e; cases e) e; exact not_role (h.rvars g hg) (by intro e; cases e) e),
    h.heap.frm hf fun g hg => (fun e => by rcases e with e | e; exact not_role (h.rheap g hg) (by intro e; cases e) e; exact not_role (h.rheap g hg) (by intro e; cases e) e),
    h.place.frm hf fun g hg => (fun e => by rcases e with e | e; exact not_role (h.rplace g hg) (by intro e; cases e) e; exact not_role (h.rplace g hg) (by intro e; cases e) e),
    hrow,
    h.trail.frm hf fun g hg => (fun e => by rcases e with e | e; exact not_role (h.rtrail g hg) (by intro e; cases e) e; exact not_role (h.rtrail g hg) (by intro e; cases e) e),
    h.limits.frm hf fun g hg => (fun e => by rcases e with e | e; exact not_role (h.rlimits g hg) (by intro e; cases e) e; exact not_role (h.rlimits g hg) (by intro e; cases e) e),
    h.map.frm hf (fun e => by rcases e with e | e; exact not_role (h.rmap) (by intro e; cases e) e; exact not_role (h.rmap) (by intro e; cases e) e),
    h.keys,
    fun i n v l h1 h2 => ⟨(h.rows i n v l h1 h2).1.frm hf fun g hg => (fun e => by rcases e with e | e; exact not_role ((h.rows i n v l h1 h2).2 g hg) (by intro e; cases e) e; exact not_role ((h.rows i n v l h1 h2).2 g hg) (by intro e; cases e) e), fun g hg => upd_old ((h.rows i n v l h1 h2).2 g hg) hgr⟩,
    h.idl,
    fun c x hx => (by obtain ⟨b, v, h1, h2, h3, h4, h5⟩ := h.cls c x hx; exact ⟨b, v, h1, upd_old h2 hgr, blk_frm h3 hf (fun e => by rcases e with e | e; exact not_role (h2) (by intro e; cases e) e; exact not_role (h2) (by intro e; cases e) e), h4.frm hf fun g hg => (fun e => by rcases e with e | e; exact not_role (h5 g hg) (by intro e; cases e) e; exact not_role (h5 g hg) (by intro e; cases e) e), fun g hg => upd_old (h5 g hg) hgr⟩),
    upd_old h.rme hgr,
    fun g hg => upd_old (h.rvars g hg) hgr,
    fun g hg => upd_old (h.rheap g hg) hgr,
    fun g hg => upd_old (h.rplace g hg) hgr,
    fun g' hg => (by rw [hu g' hg]; exact upd_at _ _ _),
    fun g hg => upd_old (h.rtrail g hg) hgr,
    fun g hg => upd_old (h.rlimits g hg) hgr,
    upd_old h.rmap hgr,
    fun b r hb => (by unfold upd at hb; split at hb; rename_i e; rw [e]; exact hlt; exact Nat.lt_of_lt_of_le (h.lt b r hb) hf.size),
    ⟨h.refs.1, h.refs.2.1, hrefs⟩,
    h.wnd,
    fun b c hb => h.onec b c (by unfold upd at hb; split at hb; cases hb; exact hb)⟩
theorem SRep.in_trail {x' : List Int} (h : SRep w R p s ids vv hv pv lv tv mv bm kvs) (hf : Frm (fun b => R b = some .trail) w w') (hrow : Row w' 3 iI tv x') : SRep w' R p { s with trail := x' } ids vv hv pv lv tv mv bm kvs :=
  ⟨blk_frm h.box hf (not_role (h.rme) (by intro e; cases e)),
    h.vars.frm hf fun g hg => (not_role (h.rvars g hg) (by intro e; cases e)),
    h.heap.frm hf fun g hg => (not_role (h.rheap g hg) (by intro e; cases e)),
    h.place.frm hf fun g hg => (not_role (h.rplace g hg) (by intro e; cases e)),
    h.learnt.frm hf fun g hg => (not_role (h.rlearnt g hg) (by intro e; cases e)),
    hrow,
    h.limits.frm hf fun g hg => (not_role (h.rlimits g hg) (by intro e; cases e)),
    h.map.frm hf (not_role (h.rmap) (by intro e; cases e)),
    h.keys,
    fun i n v l h1 h2 => ⟨(h.rows i n v l h1 h2).1.frm hf fun g hg => (not_role ((h.rows i n v l h1 h2).2 g hg) (by intro e; cases e)), (h.rows i n v l h1 h2).2⟩,
    h.idl,
    fun c x hx => (by obtain ⟨b, v, h1, h2, h3, h4, h5⟩ := h.cls c x hx; exact ⟨b, v, h1, h2, blk_frm h3 hf (not_role (h2) (by intro e; cases e)), h4.frm hf fun g hg => (not_role (h5 g hg) (by intro e; cases e)), h5⟩),
    h.rme,
    h.rvars,
    h.rheap,
    h.rplace,
    h.rlearnt,
    h.rtrail,
    h.rlimits,
    h.rmap,
    fun b r hb => Nat.lt_of_lt_of_le (h.lt b r hb) hf.size,
    h.refs,
    h.wnd,
    h.onec⟩
theorem SRep.new_trail {x' : List Int} {u : Value} {g0 : Nat} (h : SRep w R p s ids vv hv pv lv tv mv bm kvs) (hf : Frm (fun b => R b = some .trail ∨ R b = some .me) w w') (hbox : w'.heap[p]? = some (.cells #[vv, hv, pv, .map (some bm), lv, u, mv, .int .i64 s.head, .int .i64 s.conflicts, .int .i64 s.added, .int .i64 s.bump, .bool s.broken] 49)) (hrow : Row w' 3 iI u x') (hu : ∀ g', u.ownBlock = some g' → g' = g0) (hgr : R g0 = none ∨ R g0 = some .trail) (hlt : g0 < w'.heap.size) : SRep w' (upd R g0 .trail) p { s with trail := x' } ids vv hv pv lv u mv bm kvs :=
  ⟨hbox,
    h.vars.frm hf fun g hg => (fun e => by rcases e with e | e; exact not_role (h.rvars g hg) (by intro e; cases e) e; exact not_role (h.rvars g hg) (by intro e; cases e) e),
    h.heap.frm hf fun g hg => (fun e => by rcases e with e | e; exact not_role (h.rheap g hg) (by intro e; cases e) e; exact not_role (h.rheap g hg) (by intro e; cases e) e),
    h.place.frm hf fun g hg => (fun e => by rcases e with e | e; exact not_role (h.rplace g hg) (by intro e; cases e) e; exact not_role (h.rplace g hg) (by intro e; cases e) e),
    h.learnt.frm hf fun g hg => (fun e => by rcases e with e | e; exact not_role (h.rlearnt g hg) (by intro e; cases e) e; exact not_role (h.rlearnt g hg) (by intro e; cases e) e),
    hrow,
    h.limits.frm hf fun g hg => (fun e => by rcases e with e | e; exact not_role (h.rlimits g hg) (by intro e; cases e) e; exact not_role (h.rlimits g hg) (by intro e; cases e) e),
    h.map.frm hf (fun e => by rcases e with e | e; exact not_role (h.rmap) (by intro e; cases e) e; exact not_role (h.rmap) (by intro e; cases e) e),
    h.keys,
    fun i n v l h1 h2 => ⟨(h.rows i n v l h1 h2).1.frm hf fun g hg => (fun e => by rcases e with e | e; exact not_role ((h.rows i n v l h1 h2).2 g hg) (by intro e; cases e) e; exact not_role ((h.rows i n v l h1 h2).2 g hg) (by intro e; cases e) e), fun g hg => upd_old ((h.rows i n v l h1 h2).2 g hg) hgr⟩,
    h.idl,
    fun c x hx => (by obtain ⟨b, v, h1, h2, h3, h4, h5⟩ := h.cls c x hx; exact ⟨b, v, h1, upd_old h2 hgr, blk_frm h3 hf (fun e => by rcases e with e | e; exact not_role (h2) (by intro e; cases e) e; exact not_role (h2) (by intro e; cases e) e), h4.frm hf fun g hg => (fun e => by rcases e with e | e; exact not_role (h5 g hg) (by intro e; cases e) e; exact not_role (h5 g hg) (by intro e; cases e) e), fun g hg => upd_old (h5 g hg) hgr⟩),
    upd_old h.rme hgr,
    fun g hg => upd_old (h.rvars g hg) hgr,
    fun g hg => upd_old (h.rheap g hg) hgr,
    fun g hg => upd_old (h.rplace g hg) hgr,
    fun g hg => upd_old (h.rlearnt g hg) hgr,
    fun g' hg => (by rw [hu g' hg]; exact upd_at _ _ _),
    fun g hg => upd_old (h.rlimits g hg) hgr,
    upd_old h.rmap hgr,
    fun b r hb => (by unfold upd at hb; split at hb; rename_i e; rw [e]; exact hlt; exact Nat.lt_of_lt_of_le (h.lt b r hb) hf.size),
    h.refs,
    h.wnd,
    fun b c hb => h.onec b c (by unfold upd at hb; split at hb; cases hb; exact hb)⟩
theorem SRep.in_limits {x' : List Int} (h : SRep w R p s ids vv hv pv lv tv mv bm kvs) (hf : Frm (fun b => R b = some .limits) w w') (hrow : Row w' 3 iI mv x') : SRep w' R p { s with limits := x' } ids vv hv pv lv tv mv bm kvs :=
  ⟨blk_frm h.box hf (not_role (h.rme) (by intro e; cases e)),
    h.vars.frm hf fun g hg => (not_role (h.rvars g hg) (by intro e; cases e)),
    h.heap.frm hf fun g hg => (not_role (h.rheap g hg) (by intro e; cases e)),
    h.place.frm hf fun g hg => (not_role (h.rplace g hg) (by intro e; cases e)),
    h.learnt.frm hf fun g hg => (not_role (h.rlearnt g hg) (by intro e; cases e)),
    h.trail.frm hf fun g hg => (not_role (h.rtrail g hg) (by intro e; cases e)),
    hrow,
    h.map.frm hf (not_role (h.rmap) (by intro e; cases e)),
    h.keys,
    fun i n v l h1 h2 => ⟨(h.rows i n v l h1 h2).1.frm hf fun g hg => (not_role ((h.rows i n v l h1 h2).2 g hg) (by intro e; cases e)), (h.rows i n v l h1 h2).2⟩,
    h.idl,
    fun c x hx => (by obtain ⟨b, v, h1, h2, h3, h4, h5⟩ := h.cls c x hx; exact ⟨b, v, h1, h2, blk_frm h3 hf (not_role (h2) (by intro e; cases e)), h4.frm hf fun g hg => (not_role (h5 g hg) (by intro e; cases e)), h5⟩),
    h.rme,
    h.rvars,
    h.rheap,
    h.rplace,
    h.rlearnt,
    h.rtrail,
    h.rlimits,
    h.rmap,
    fun b r hb => Nat.lt_of_lt_of_le (h.lt b r hb) hf.size,
    h.refs,
    h.wnd,
    h.onec⟩
theorem SRep.new_limits {x' : List Int} {u : Value} {g0 : Nat} (h : SRep w R p s ids vv hv pv lv tv mv bm kvs) (hf : Frm (fun b => R b = some .limits ∨ R b = some .me) w w') (hbox : w'.heap[p]? = some (.cells #[vv, hv, pv, .map (some bm), lv, tv, u, .int .i64 s.head, .int .i64 s.conflicts, .int .i64 s.added, .int .i64 s.bump, .bool s.broken] 49)) (hrow : Row w' 3 iI u x') (hu : ∀ g', u.ownBlock = some g' → g' = g0) (hgr : R g0 = none ∨ R g0 = some .limits) (hlt : g0 < w'.heap.size) : SRep w' (upd R g0 .limits) p { s with limits := x' } ids vv hv pv lv tv u bm kvs :=
  ⟨hbox,
    h.vars.frm hf fun g hg => (fun e => by rcases e with e | e; exact not_role (h.rvars g hg) (by intro e; cases e) e; exact not_role (h.rvars g hg) (by intro e; cases e) e),
    h.heap.frm hf fun g hg => (fun e => by rcases e with e | e; exact not_role (h.rheap g hg) (by intro e; cases e) e; exact not_role (h.rheap g hg) (by intro e; cases e) e),
    h.place.frm hf fun g hg => (fun e => by rcases e with e | e; exact not_role (h.rplace g hg) (by intro e; cases e) e; exact not_role (h.rplace g hg) (by intro e; cases e) e),
    h.learnt.frm hf fun g hg => (fun e => by rcases e with e | e; exact not_role (h.rlearnt g hg) (by intro e; cases e) e; exact not_role (h.rlearnt g hg) (by intro e; cases e) e),
    h.trail.frm hf fun g hg => (fun e => by rcases e with e | e; exact not_role (h.rtrail g hg) (by intro e; cases e) e; exact not_role (h.rtrail g hg) (by intro e; cases e) e),
    hrow,
    h.map.frm hf (fun e => by rcases e with e | e; exact not_role (h.rmap) (by intro e; cases e) e; exact not_role (h.rmap) (by intro e; cases e) e),
    h.keys,
    fun i n v l h1 h2 => ⟨(h.rows i n v l h1 h2).1.frm hf fun g hg => (fun e => by rcases e with e | e; exact not_role ((h.rows i n v l h1 h2).2 g hg) (by intro e; cases e) e; exact not_role ((h.rows i n v l h1 h2).2 g hg) (by intro e; cases e) e), fun g hg => upd_old ((h.rows i n v l h1 h2).2 g hg) hgr⟩,
    h.idl,
    fun c x hx => (by obtain ⟨b, v, h1, h2, h3, h4, h5⟩ := h.cls c x hx; exact ⟨b, v, h1, upd_old h2 hgr, blk_frm h3 hf (fun e => by rcases e with e | e; exact not_role (h2) (by intro e; cases e) e; exact not_role (h2) (by intro e; cases e) e), h4.frm hf fun g hg => (fun e => by rcases e with e | e; exact not_role (h5 g hg) (by intro e; cases e) e; exact not_role (h5 g hg) (by intro e; cases e) e), fun g hg => upd_old (h5 g hg) hgr⟩),
    upd_old h.rme hgr,
    fun g hg => upd_old (h.rvars g hg) hgr,
    fun g hg => upd_old (h.rheap g hg) hgr,
    fun g hg => upd_old (h.rplace g hg) hgr,
    fun g hg => upd_old (h.rlearnt g hg) hgr,
    fun g hg => upd_old (h.rtrail g hg) hgr,
    fun g' hg => (by rw [hu g' hg]; exact upd_at _ _ _),
    upd_old h.rmap hgr,
    fun b r hb => (by unfold upd at hb; split at hb; rename_i e; rw [e]; exact hlt; exact Nat.lt_of_lt_of_le (h.lt b r hb) hf.size),
    h.refs,
    h.wnd,
    fun b c hb => h.onec b c (by unfold upd at hb; split at hb; cases hb; exact hb)⟩
end
end SaW
end Go.Proofs.Ytfpjfogddepbkaa
/- The heap of a solver, walked: lay. -/
namespace Go.Proofs.Ytfpjfogddepbkaa
open Go.RowKit Go.Mem Go.Sat
namespace SaW
/-- What a call may have done to a solver's blocks: those of some roles are written. -/
def SMov (T : Role → Prop) (R : Nat → Option Role) (w : World) (R' : Nat → Option Role) (w' : World) : Prop :=
  Frm (fun b => ∃ r, R b = some r ∧ T r) w w' ∧ (∀ b r, R b = some r → R' b = some r) ∧ ∀ b, R' b ≠ none → R b ≠ none ∨ w.heap.size ≤ b
section
variable {T T' : Role → Prop}
theorem SMov.of0 {R : Nat → Option Role} {w w' : World} (hf : Frm (fun _ => False) w w') : SMov T R w R w' := ⟨hf.mono fun _ _ h => h.elim, fun _ _ h => h, fun _ h => .inl h⟩
theorem SMov.trans {R R1 R2 : Nat → Option Role} {w w1 w2 : World} (h : SMov T R w R1 w1) (k : SMov T R1 w1 R2 w2) : SMov T R w R2 w2 :=
  ⟨h.1.trans k.1 fun x hx ⟨r, hr, ht⟩ => by
    rcases h.2.2 x (by rw [hr]; exact fun e => by cases e) with h1 | h1
    · cases hq : R x with
      | none => exact absurd hq h1
      | some q =>
        have := h.2.1 x q hq
        rw [hr] at this
        cases this
        exact ⟨r, rfl, ht⟩
    · omega, fun b r hb => k.2.1 b r (h.2.1 b r hb), fun b hb => (k.2.2 b hb).elim (fun h1 => h.2.2 b h1) fun hge => .inr (Nat.le_trans h.1.size hge)⟩
theorem SMov.mono {R R' : Nat → Option Role} {w w' : World} (h : SMov T R w R' w') (hT : ∀ r, T r → T' r) : SMov T' R w R' w' := ⟨h.1.mono fun _ _ ⟨r, hr, ht⟩ => ⟨r, hr, hT r ht⟩, h.2.1, h.2.2⟩
/-- A block that is none of those stays. -/
theorem SMov.keep {R R' : Nat → Option Role} {w w' : World} (h : SMov T R w R' w') {b : Nat} (hb : b < w.heap.size) (hr : ∀ r, R b = some r → ¬ T r) : w'.heap[b]? = w.heap[b]? := h.1.block b hb fun ⟨r, h1, h2⟩ => hr r h1 h2
/-- A block that is none of the solver's is none later. -/
theorem SMov.out {R R' : Nat → Option Role} {w w' : World} (h : SMov T R w R' w') {b : Nat} (hb : b < w.heap.size) (hr : R b = none) : R' b = none := by
  cases hq : R' b with
  | none => rfl
  | some r => rcases h.2.2 b (by rw [hq]; exact fun e => by cases e) with h1 | h1; exact absurd hr h1; omega
theorem SMov.frm {R R' : Nat → Option Role} {w w' : World} (h : SMov T R w R' w') : Frm (fun b => R b ≠ none) w w' := h.1.mono fun _ _ ⟨r, hr, _⟩ => by rw [hr]; exact fun e => by cases e
/-- A call that returns nothing leaves this solver. -/
def SPo (T : Role → Prop) (R : Nat → Option Role) (w : World) (p : Nat) (ret : Value) (s' : St) (e : Ending) (w' : World) : Prop := e = .returned ret ∧ ∃ R', SolverAt w' R' p s' ∧ SMov T R w R' w'
theorem SPo.pre {R : Nat → Option Role} {w w1 w2 : World} {p : Nat} {ret : Value} {s' : St} {e : Ending} (hf : Frm (fun _ => False) w w1) (h : SPo T R w1 p ret s' e w2) : SPo T R w p ret s' e w2 := by
  obtain ⟨he, R', hS, hM⟩ := h
  exact ⟨he, R', hS, (SMov.of0 hf).trans hM⟩
end
/-- What the heap's functions write. -/
def HeapT (r : Role) : Prop := r = .heap ∨ r = .place ∨ r = .me
abbrev SMoves := SMov HeapT
abbrev SPost := SPo HeapT
section
variable {w : World} {R : Nat → Option Role} {p : Nat} {s s' : St}
/-- A cell of a row of whole numbers. -/
theorem row_at {w : World} {v : Value} {xs : List Int} (h : Row w 3 iI v xs) {k : Nat} (hk : k < xs.length) : ∃ g c, v = .slice (some ⟨g, 0, none⟩) xs.length c ∧ v.ownBlock = some g ∧ xs.length ≤ maxLen ∧ w.cell? ⟨g, k, none⟩ = some (iI xs[k]) ∧ w.frozen? ⟨g, k, none⟩ = false := by
  rcases h.shape with ⟨_, rfl⟩ | ⟨g, c, e, ho, h1, h2, hc, hz⟩
  · simp at hk
  · exact ⟨g, c, e, ho, by omega, hc k _ (List.getElem?_eq_getElem hk), hz k⟩
set_option maxRecDepth 100000 in
set_option maxHeartbeats 1000000 in
theorem lay_calls (h : SolverAt w R p s) (v i : Int) (hs : layF s v i = some s') : Calls Try.prog 58 #[.pointer (some ⟨p, 0, none⟩), .int .i64 v, .int .i64 i] w (SPost R w p (.tuple #[]) s') := by
  obtain ⟨ids, vv, hv, pv, lv, tv, mv, bm, kvs, H⟩ := h
  have HS := Lib.hid H
  obtain ⟨c0, c1, c2, c3, c4, c5, c6, c7, c8, c9, c10, c11⟩ := H.cells
  unfold layF at hs
  split at hs
  case h_2 => cases hs
  rename_i hp pp e1 e2
  obtain ⟨k, rfl, hkl, rfl⟩ := setN_get e1
  obtain ⟨j, rfl, hjl, rfl⟩ := setN_get e2
  obtain ⟨g, c, rfl, ho, hml, x0, z0⟩ := row_at H.heap hkl
  obtain ⟨g', c', rfl, ho', hml', y0, z1⟩ := row_at H.place hjl
  have hgg : g ≠ g' := fun e => by
    have h1 := H.rheap g rfl
    have h2 := H.rplace g' rfl
    rw [e, h2] at h1
    cases h1
  have hkI : (k : Int) < (s.heap.length : Int) := by omega
  have hjI : (j : Int) < (s.place.length : Int) := by omega
  have HSs := Lib.hid (Option.some.inj hs)
  clear H hs e1 e2
  go_enter Try.func58, Try.ntmps58
  go_wp2_with fail
  refine Plan.wp_region_plan [0, 1, 3, 7, 0, 0, 32, 96, 224, 0, 0, 0, 1535, 5631, 16383, 32767] [.mk [0, 1, 2, 3, 4, 5, 6, 7, 8, 9, 10, 11, 12] 13 [9, 11], .mk [14] 15 []] [] (by kernel_rfl) (by kernel_rfl) ?_
  simp only [Plan.wayOf, Plan.pickAll, List.getElem?_cons_zero, List.getElem?_cons_succ, List.getD_eq_getElem?_getD, Option.getD_some]
  refine Plan.wpWay_seg ?_
  repeat go_big_quiet_step (fail)
  refine wpQuiet_nil ?_; refine Plan.wpWay_act ?_
  go_wp2_with (fail)
  refine And.intro ?_ ?_; focus ((iterate 2 (refine Plan.again_cons ?_ ?_; focus (go_big_quiet_step (fail); exact wpQuiet_nil rfl))); exact Plan.again_nil)
  refine Plan.wpWay_seg ?_
  repeat go_big_quiet_step (fail)
  refine wpQuiet_nil ?_; refine Plan.wpWay_act ?_
  go_wp2_with (fail)
  refine And.intro Plan.again_nil ?_
  refine Plan.wpWay_last ?_
  refine wpQuiet_nil ?_; refine NoPanic.normal ?_
  go_wp2
  go_end0
  rw [← HSs.out]
  have k1 := HS.out.in_heap (w' := w.drew.setCell ⟨g, k, none⟩ (iI j)) (((Frm.refl _ w).drew).set (.inl (HS.out.rheap g rfl)) _) (row_set (w := w.drew) (HS.out.heap.frm0 (Frm.refl _ w).drew) k hkl j)
  have k2 := k1.in_place (w' := (w.drew.setCell ⟨g, k, none⟩ (iI j)).setCell ⟨g', j, none⟩ (iI k)) ((Frm.refl _ _).set (.inl (HS.out.rplace g' rfl)) _) (row_set k1.place j hjl k)
  refine ⟨rfl, R, ⟨_, _, _, _, _, _, _, _, _, k2⟩, ?_, fun _ _ h => h, fun _ h => .inl h⟩
  exact (((Frm.refl _ w).drew).set (.inl ⟨_, HS.out.rheap g rfl, .inl rfl⟩) _).set (.inl ⟨_, HS.out.rplace g' rfl, .inr (.inl rfl)⟩) _
theorem SPo.mv {R : Nat → Option Role} {w : World} {p : Nat} {ret : Value} {s' : St} {e : Ending} {w' : World} (h : SPost R w p ret s' e w') : e = .returned ret ∧ ∃ R', SolverAt w' R' p s' ∧ SMoves R w R' w' := h
theorem half_nat {m : Nat} (h : 0 < m) : Int.tdiv ((m : Int) - 1) 2 = (((m - 1) / 2 : Nat) : Int) ∧ ((m : Int) - 1) / 2 = (((m - 1) / 2 : Nat) : Int) := by
  have e : ((m : Int) - 1) = ((m - 1 : Nat) : Int) := by omega
  rw [e]
  exact ⟨rfl, rfl⟩
set_option maxRecDepth 100000 in
set_option maxHeartbeats 1000000 in
theorem up_calls (h : SolverAt w R p s) (i : Int) (hs : upF s i = some s') : Calls Try.prog 59 #[.pointer (some ⟨p, 0, none⟩), .int .i64 i] w (SPost R w p (.tuple #[]) s') := by
  have h0 := h
  obtain ⟨ids, vv, hv, pv, lv, tv, mv, bm, kvs, H⟩ := h
  have HS := Lib.hid H
  obtain ⟨c0, c1, c2, c3, c4, c5, c6, c7, c8, c9, c10, c11⟩ := H.cells
  unfold upF at hs
  obtain ⟨x, hx, hs⟩ := Option.bind_eq_some_iff.1 hs
  obtain ⟨k, rfl, hk, hkl⟩ := nth_get hx
  obtain ⟨g, c, rfl, ho, hml, x0, z0⟩ := row_at H.heap hkl
  rw [Option.some.inj ((List.getElem?_eq_getElem hkl).symm.trans hk)] at x0
  have hkI : (k : Int) < (s.heap.length : Int) := by omega
  have hml' : s.heap.length ≤ 9223372036854775807 := hml
  have HU := Lib.hid hs
  have HS0 := Lib.hid h0
  clear H hs hx h0 hk HS
  go_enter Try.func59, Try.ntmps59
  go_wp2_with fail
  go_loopw [1] (fun v1 w' => ∃ m : Nat, v1 = .int .i64 m ∧ m < 9223372036854775807 ∧ ∃ f s1 R1, Hid (upL f s1 x m = some s') ∧ Hid (SolverAt w' R1 p s1) ∧ Hid (SMoves R w R1 w')) (fun v1 _ => (intOf v1).toNat)
  case atStart => exact ⟨k, rfl, by omega, _, s, R, HU, HS0, Lib.hid (SMov.of0 (Frm.refl _ _))⟩
  case round =>
    obtain ⟨m, rfl, hm, f, s1, R1, HU1, HS1, HM1⟩ := hrel
    clear HU HS0 c0 c1 c2 c3 c4 c5 c6 c7 c8 c9 c10 c11 x0 z0 hkI hml'
    by_cases hm0 : 0 < m
    · have hmI : (0 : Int) < (m : Int) := by omega
      obtain ⟨hh, hh'⟩ := half_nat hm0
      cases f with
      | zero => exact absurd HU1.out (by simp [upL])
      | succ f =>
        have e := HU1.out
        rw [upL, if_pos hmI, hh'] at e
        split at e
        case h_1 => cases e
        rename_i y hy
        obtain ⟨ids, vv, hv, pv, lv, tv, mv, bm, kvs, H⟩ := HS1.out
        obtain ⟨c0, c1, c2, c3, c4, c5, c6, c7, c8, c9, c10, c11⟩ := H.cells
        obtain ⟨j, hj, hjy, hjl⟩ := nth_get hy
        obtain ⟨g2, cc2, rfl, _, hml2, x2, _⟩ := row_at H.heap hjl
        rw [Option.some.inj ((List.getElem?_eq_getElem hjl).symm.trans hjy)] at x2
        have hjI : (j : Int) < (s1.heap.length : Int) := by omega
        have hj2 : j < m := by omega
        rw [hj] at hh
        try rw [hj] at e
        have hml2' : s1.heap.length ≤ 9223372036854775807 := hml2
        have hw1 : wrap64 ((m : Int) - 1) = (m : Int) - 1 := by unfold wrap64; omega
        have hw2 : wrap64 (j : Int) = (j : Int) := by unfold wrap64; omega
        have HH := Lib.hid H
        clear H hy hjy hh' hjl HU1 c0 c2 c3 c4 c5 c6 c7 c8 c9 c10 c11 hj hm0 hml2 hml hkl
        split at e
        case h_1 => cases e
        case h_2 hah =>
          have HA := Lib.hid (fun w1 (hf : Frm (fun _ => False) wr w1) => ahead_calls (HS1.out.frm0 hf) x y false hah)
          have HE := Lib.hid e
          clear e hah
          go_wp2_with fail
          refine (HA.out _ (Frm.refl _ _)).mono ?_
          rintro e3 w3 ⟨rfl, hf⟩
          have HS3 := Lib.hid (HS1.out.frm0 hf)
          have HM3 := Lib.hid (HM1.out.trans (SMov.of0 hf))
          clear hf HA x2 c1
          go_wp2_with fail
          refine (lay_calls HS3.out x m HE.out).mono ?_
          rintro e4 w4 ⟨rfl, R4, HS4, HM4⟩
          have HM5 := Lib.hid (HM3.out.trans HM4)
          have HS5 := Lib.hid HS4
          clear HS4 HM4
          go_wp2
          go_end0
          exact ⟨rfl, R4, HS5.out, HM5.out⟩
        case h_3 hah =>
          have HA := Lib.hid (fun w1 (hf : Frm (fun _ => False) wr w1) => ahead_calls (HS1.out.frm0 hf) x y true hah)
          obtain ⟨s2, hl2, hu2⟩ := Option.bind_eq_some_iff.1 e
          have HL2 := Lib.hid hl2
          have HU2 := Lib.hid hu2
          clear e hah hl2 hu2
          go_wp2_with fail
          refine (HA.out _ (Frm.refl _ _)).mono ?_
          rintro e3 w3 ⟨rfl, hf⟩
          have HS3 := Lib.hid (HS1.out.frm0 hf)
          have HM3 := Lib.hid (HM1.out.trans (SMov.of0 hf))
          have HH3 := Lib.hid (HH.out.frm0 hf)
          have c1 := frm_cell hf c1
          have x2 := frm_cell hf x2
          clear hf HA HH
          go_wp2_with fail
          refine (lay_calls HS3.out y m HL2.out).mono ?_
          rintro e4 w4 ⟨rfl, R4, HS4, HM4⟩
          have HM5 := Lib.hid (HM3.out.trans HM4)
          have HS5 := Lib.hid HS4
          clear HS4 HM4 c1 x2 HH3
          go_wp2
          go_roundw
          case rel => exact ⟨j, by first | rfl | go_num, by omega, f, s2, R4, HU2, HS5, HM5⟩
          case measure => simp [intOf]; omega
    · obtain rfl : m = 0 := by omega
      cases f with
      | zero => exact absurd HU1.out (by simp [upL])
      | succ f =>
        have e := HU1.out
        rw [upL, if_neg (by omega)] at e
        have HE := Lib.hid e
        clear e HU1 hm0
        go_wp2_with fail
        refine (lay_calls HS1.out x 0 HE.out).mono ?_
        rintro e4 w4 ⟨rfl, R4, HS4, HM4⟩
        have HM5 := Lib.hid (HM1.out.trans HM4)
        have HS5 := Lib.hid HS4
        clear HS4 HM4
        go_wp2
        go_end0
        exact ⟨rfl, R4, HS5.out, HM5.out⟩
end
end SaW
end Go.Proofs.Ytfpjfogddepbkaa
/- The heap of a solver, walked: push. -/
namespace Go.Proofs.Ytfpjfogddepbkaa
open Go.RowKit Go.Mem Go.Sat
namespace SaW
theorem info_int : (Try.prog.info? 3).map (fun i => (i.zero, i.size, i.bytes)) = some (some (.int .i64 0), 1, 8) := by kernel_rfl
theorem lay_len {s s' : St} {v i : Int} (h : layF s v i = some s') : s'.heap.length = s.heap.length := by
  unfold layF at h
  split at h
  · rename_i a b e1 e2
    obtain ⟨_, _, _, rfl⟩ := setN_get e1
    cases h
    simp
  · cases h
section
variable {w : World} {R : Nat → Option Role} {p : Nat} {s s' : St}
/-- A number put behind the heap. -/
theorem SRep.push_heap {w7 : World} {ids : List Nat} {vv hv pv lv tv mv : Value} {bm : Nat} {kvs : List (Int × Value)} {g c n : Nat} {x : Int} (h : SRep w R p s ids vv hv pv lv tv mv bm kvs) (hrow : Row w7 3 iI (.slice (some ⟨g, 0, none⟩) n c) (s.heap ++ [x])) (hf : Frm (fun b => hv.ownBlock = some b) w w7) (hg' : hv.ownBlock = some g ∨ w.heap.size ≤ g) (hlt : g < w7.heap.size) :
    SRep (w7.setCell ⟨p, 1, none⟩ (.slice (some ⟨g, 0, none⟩) n c)) (upd R g .heap) p { s with heap := s.heap ++ [x] } ids vv (.slice (some ⟨g, 0, none⟩) n c) pv lv tv mv bm kvs ∧ SMoves R w (upd R g .heap) (w7.setCell ⟨p, 1, none⟩ (.slice (some ⟨g, 0, none⟩) n c)) := by
  have hnone : w.heap.size ≤ g → R g = none := fun hge => by
    cases hr : R g with
    | none => rfl
    | some r => have := h.lt g r hr; omega
  have hg : hv.ownBlock = some g ∨ R g = none := hg'.imp id hnone
  have hp : ¬ hv.ownBlock = some p := fun e => by have h1 := h.rheap p e; rw [h.rme] at h1; cases h1
  have hgp : g ≠ p := fun e => by
    subst e
    rcases hg with h1 | h1
    · exact hp h1
    · rw [h.rme] at h1; cases h1
  have hbox := blk_frm h.box hf hp
  have hlt2 : g < (w7.setCell ⟨p, 1, none⟩ (.slice (some ⟨g, 0, none⟩) n c)).heap.size := by simpa using hlt
  have hf2 : Frm (fun b => R b = some .heap ∨ R b = some .me) w (w7.setCell ⟨p, 1, none⟩ (.slice (some ⟨g, 0, none⟩) n c)) := (hf.mono fun b _ hb => .inl (h.rheap b hb)).set (.inl (.inr h.rme)) _
  refine ⟨h.new_heap hf2 (blk_set hbox 1 _ rfl) (own_set_ne hrow (by intro e; exact hgp (Option.some.inj e)) _) (fun g' e => (Option.some.inj e).symm) (hg.elim (fun h1 => .inr (h.rheap g h1)) .inl) hlt2, ?_, fun b r hb => upd_old hb (hg.elim (fun h1 => .inr (h.rheap g h1)) .inl), fun b hb => ?_⟩
  · exact hf2.mono fun b _ hb => by rcases hb with hb | hb; exact ⟨_, hb, .inl rfl⟩; exact ⟨_, hb, .inr (.inr rfl)⟩
  · unfold upd at hb
    split at hb
    · rename_i e
      subst e
      exact hg'.imp (fun h1 => by rw [h.rheap b h1]; exact fun e => by cases e) id
    · exact .inl hb
set_option maxRecDepth 100000 in
set_option maxHeartbeats 1000000 in
theorem push_calls0 (h : SolverAt w R p s) (v : Int) (hs : pushF0 s v = some s') (hroom : s.heap.length ≤ 1099511627776) : Calls Try.prog 45 #[.pointer (some ⟨p, 0, none⟩), .int .i64 v] w (SPost R w p (.tuple #[]) s') := by
  obtain ⟨i0, hi, hz0, hz1, hz2⟩ := info_parts info_int
  have h0 := h
  obtain ⟨ids, vv, hv, pv, lv, tv, mv, bm, kvs, H⟩ := h
  have HS := Lib.hid H
  obtain ⟨c0, c1, c2, c3, c4, c5, c6, c7, c8, c9, c10, c11⟩ := H.cells
  unfold pushF0 at hs
  split at hs
  case h_1 => cases hs
  rename_i q hq
  obtain ⟨k, rfl, hk, hkl⟩ := nth_get hq
  obtain ⟨g, c, rfl, ho, hml, x0, z0⟩ := row_at H.place hkl
  rw [Option.some.inj ((List.getElem?_eq_getElem hkl).symm.trans hk)] at x0
  have hkI : (k : Int) < (s.place.length : Int) := by omega
  have hml' : s.place.length ≤ 9223372036854775807 := hml
  by_cases hq0 : q < 0
  · rw [if_pos hq0] at hs
    obtain ⟨s1, hl, hu⟩ := Option.bind_eq_some_iff.1 hs
    have HL := Lib.hid hl
    have HU := Lib.hid hu
    have Hroom := Lib.hid hroom
    obtain ⟨HA, hc, rfl, _⟩ := sees_slice H.heap.sees
    have hfz : w.frozen? ⟨p, 1, none⟩ = false := blk_free H.box 1
    clear H hs hq hk h0 hl hu hroom
    go_enter Try.func45, Try.ntmps45
    go_wp2_with (at_builtin; refine wpList_append_row rfl _ _ 26 rfl 3 i0 (.int .i64 0) 8 Try.underlying26 hi hz0 hz1 hz2 rfl (enc := iI) (.slice HA s.heap.length hc) s.heap rfl (HS.out.heap.frm0 (frm_alloc w (.cells #[.int .i64 (k : Int)] 3))) ⟨w.heap.size, 0, none⟩ 1 (k : Int) rfl ?c1 rfl ?c2 ?c3 ?_)
    case c1 => exact blk_cell (blk_new _) 0
    case c2 => have := Hroom.out; have : maxLen = 9223372036854775807 := rfl; omega
    case c3 => have := Hroom.out; omega
    intro g7 cap7 w7 hrow hfr hg hlt7
    have hgg : (Value.slice HA s.heap.length hc).ownBlock = some g7 ∨ w.heap.size ≤ g7 := hg.imp id fun h => by rw [h]; simp
    obtain ⟨HP, HM⟩ := (HS.out.frm0 (frm_alloc w (.cells #[.int .i64 (k : Int)] 3))).push_heap hrow hfr (hg.imp id fun h => by rw [h]; simp) hlt7
    have HP1 := Lib.hid HP
    have HM1 := Lib.hid ((SMov.of0 (frm_alloc w (.cells #[.int .i64 (k : Int)] 3))).trans HM)
    have hnp : ¬ (Value.slice HA s.heap.length hc).ownBlock = some p := fun e => by have h1 := HS.out.rheap p e; rw [HS.out.rme] at h1; cases h1
    have b7 := blk_frm (blk_alloc HS.out.box (.cells #[.int .i64 (k : Int)] 3)) hfr hnp
    have c1' : w7.cell? ⟨p, 1, none⟩ = some (.slice HA s.heap.length hc) := blk_cell b7 1
    have z1' : w7.frozen? ⟨p, 1, none⟩ = false := blk_free b7 1
    have c1'' : (w7.setCell ⟨p, 1, none⟩ (.slice (some ⟨g7, 0, none⟩) (s.heap.length + 1) cap7)).cell? ⟨p, 1, none⟩ = some (.slice (some ⟨g7, 0, none⟩) (s.heap.length + 1) cap7) := HP1.out.cells.2.1
    clear HP HM hrow hfr hg hlt7 hgg hnp b7 c0 c1 c2 c3 c4 c5 c6 c7 c8 c9 c10 c11 x0 z0 hfz
    obtain ⟨w8, hw8⟩ : ∃ w8, w8 = w7.setCell ⟨p, 1, none⟩ (.slice (some ⟨g7, 0, none⟩) (s.heap.length + 1) cap7) := ⟨_, rfl⟩
    rw [← hw8] at HP1 HM1 c1''
    have hwl : wrap64 (s.heap.length : Int) = (s.heap.length : Int) := by have := Hroom.out; unfold wrap64; omega
    have Hwl := Lib.hid hwl
    clear hwl
    go_wp2_with fail
    rw [← hw8, Hwl.out]
    refine (lay_calls ⟨_, _, _, _, _, _, _, _, _, HP1.out⟩ k _ HL.out).mono ?_
    rintro e9 w9 ⟨rfl, R9, HS9, HM9⟩
    have HM2 := Lib.hid (HM1.out.trans HM9)
    have HS2 := Lib.hid HS9
    obtain ⟨ids, vv, hv, pv, lv, tv, mv, bm, kvs, H9⟩ := HS9
    obtain ⟨_, c1, _⟩ := H9.cells
    obtain ⟨HA9, hc9, rfl, _⟩ := sees_slice H9.heap.sees
    have hlen := Lib.hid (lay_len HL.out)
    rw [hlen.out] at c1
    clear H9 HM9 HM1 HP1 c1' z1' c1'' hw8
    simp only [List.length_append, List.length_cons, List.length_nil, Nat.zero_add] at c1
    go_wp2_with fail
    rw [Hwl.out]
    refine (up_calls HS2.out _ HU.out).mono ?_
    rintro e10 w10 ⟨rfl, R10, HS10, HM10⟩
    have HM3 := Lib.hid (HM2.out.trans HM10)
    have HS3 := Lib.hid HS10
    clear HS10 HM10
    go_wp2
    go_end0
    exact ⟨rfl, R10, HS3.out, HM3.out⟩
  · rw [if_neg hq0] at hs
    cases hs
    have HS0 := Lib.hid h0
    clear H hq hk h0
    go_enter Try.func45, Try.ntmps45
    go_wp2
    go_end0
    exact ⟨rfl, R, HS0.out, SMov.of0 (Frm.refl _ _)⟩
end
end SaW
end Go.Proofs.Ytfpjfogddepbkaa
