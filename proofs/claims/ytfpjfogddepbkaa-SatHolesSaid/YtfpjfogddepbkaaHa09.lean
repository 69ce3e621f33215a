/- Variables up to a literal's, walked: grow. -/
import Derived.Test.YtfpjfogddepbkaaHa08
set_option linter.unusedSimpArgs false
set_option linter.unusedVariables false
namespace Go.Proofs.Ytfpjfogddepbkaa
open Go.RowKit Go.Mem Go.Sat
namespace SaW
theorem info_ft : (Try.prog.info? 73).map (fun i => (i.zero, i.size, i.bytes)) = some (some (.agg #[.int .i64 0, .int .i64 0, .pointer none, .int .i64 0, .int .i64 0]), 5, 40) := by kernel_rfl
def GrowT (r : Role) : Prop := r = .vars ∨ r = .heap ∨ r = .place ∨ r = .me
section
variable {w : World} {R : Nat → Option Role} {p : Nat} {s s' : St}
def GrowInv (R : Nat → Option Role) (w : World) (p : Nat) (n : Int) (s' : St) (k : Nat) (w' : World) : Prop := ∃ sj Rj, growF k sj n = some s' ∧ SolverAt w' Rj p sj ∧ SMov GrowT R w Rj w'
set_option maxRecDepth 100000 in
set_option maxHeartbeats 2000000 in
theorem grow_calls (h : SolverAt w R p s) (k : Nat) (n : Int) (hs : growF k s n = some s') : Calls Try.prog 23 #[.pointer (some ⟨p, 0, none⟩), .int .i64 n] w (SPo GrowT R w p (.tuple #[]) s') := by
  obtain ⟨i0, hi, hz0, hz1, hz2⟩ := info_parts info_int
  have hft := info_ft
  obtain ⟨j0, hj, hjj⟩ := Option.map_eq_some_iff.1 hft
  simp only [Prod.mk.injEq] at hjj
  obtain ⟨hy0, hy1, hy2⟩ := hjj
  have HG0 : Hid (GrowInv R w p n s' k w) := Lib.hid ⟨s, R, hs, h, SMov.of0 (Frm.refl _ _)⟩
  clear hs h hft
  go_enter Try.func23, Try.ntmps23
  go_wp2_with fail
  go_loopw [] (fun w' => Hid (∃ k, GrowInv R w p n s' k w')) (fun w' => leastK fun k => GrowInv R w p n s' k w')
  case atStart => exact Lib.hid ⟨k, HG0.out⟩
  case round =>
    clear HG0
    obtain ⟨hI, hmin⟩ := leastK_spec hrel.out
    obtain ⟨k0, hk0⟩ : ∃ k0, k0 = leastK fun k => GrowInv R w p n s' k wr := ⟨_, rfl⟩
    rw [← hk0] at hI hmin ⊢
    have HMIN := Lib.hid hmin
    clear hrel hmin hk0
    obtain ⟨sj, Rj, hsp, hSj, hMj⟩ := hI
    have HSj := Lib.hid hSj
    have HMj := Lib.hid hMj
    obtain ⟨ids, vv, hv, pv, lv, tv, mv, bm, kvs, H⟩ := hSj
    have HS := Lib.hid H
    obtain ⟨c0, _, c2, _⟩ := H.cells
    cases k0 with
    | zero => cases hsp
    | succ k0 =>
    unfold growF at hsp
    split at hsp
    case isTrue => cases hsp
    rename_i hgd
    have hgd' : smlB n = true ∧ roomB sj.vars.length = true ∧ roomB sj.place.length = true := by simpa using hgd
    have HO := Lib.hid (fun w1 => of_calls w1 n (sml_of hgd'.1))
    have HV40 := Lib.hid (room_of hgd'.2.1)
    have HP40 := Lib.hid (room_of hgd'.2.2)
    obtain ⟨VA, vc, rfl, _⟩ := H.vars.slice
    clear hgd hgd' hMj
    by_cases hlt : (sj.vars.length : Int) ≤ ofF n
    · rw [if_pos hlt] at hsp
      have e0 : decide ((sj.vars.length : Int) ≤ ofF n) = true := by simpa using hlt
      obtain ⟨s1, hpu, hgr⟩ := Option.bind_eq_some_iff.1 hsp
      have HPU := Lib.hid hpu
      have HGR := Lib.hid hgr
      clear hsp hpu hgr hlt H
      go_wp2_with fail
      refine Plan.wp_region_plan [0, 1, 3, 7, 15, 0, 32, 127] [.mk [0, 1, 2, 3, 4, 5] 6 [0, 1, 2, 3, 4]] [7] (by kernel_rfl) (by kernel_rfl) ?_
      simp only [Plan.wayOf, Plan.pickAll, List.getElem?_cons_zero, List.getElem?_cons_succ, List.getD_eq_getElem?_getD, Option.getD_some]
      refine Plan.wpWay_seg ?_
      repeat go_big_quiet_step (fail)
      refine wpQuiet_nil ?_; refine Plan.wpWay_act ?_
      go_wp2_with fail
      refine (HO.out _).mono ?_
      rintro e w1 ⟨rfl, hf⟩
      have HF1 := Lib.hid (show Frm (fun _ => False) wr w1 from frm_then (Frm.refl _ _).drew hf)
      have c0 := frm_cell HF1.out c0
      clear hf
      dsimp only
      go_wp2_with fail
      refine And.intro ?_ ?_; focus ((iterate 5 (refine Plan.again_cons ?_ ?_; focus (go_big_quiet_step (fail); exact wpQuiet_nil rfl))); exact Plan.again_nil)
      refine Plan.wpWay_last ?_
      repeat go_big_quiet_step (fail)
      refine wpQuiet_nil ?_; refine NoPanic.normal ?_
      have HS1 := Lib.hid (HS.out.frm0 HF1.out)
      have HM1 := Lib.hid (HMj.out.trans (SMov.of0 HF1.out))
      clear HS HSj HMj HF1 c2
      go_wp2_with (at_builtin; refine wpList_append_srow rfl _ _ 45 rfl 73 j0 (.agg #[.int .i64 0, .int .i64 0, .pointer none, .int .i64 0, .int .i64 0]) 40 Try.underlying45 hj hy0 hy1 hy2 rfl (by decide) (E := encF ids) (.slice VA sj.vars.length vc) sj.vars rfl (HS1.out.vars.frm0 (frm_alloc w1 (.cells #[.int .i64 0, .int .i64 0, .pointer none, .int .i64 0, .int .i64 0] 73))) ⟨w1.heap.size, 0, none⟩ 1 noFact rfl ?c1 ?c2 ?c3 ?_)
      case c1 =>
        intro j u hj
        match j, hj with
        | 0, hj => cases hj; exact blk_cell (blk_new _) 0
        | 1, hj => cases hj; exact blk_cell (blk_new _) 1
        | 2, hj => cases hj; exact blk_cell (blk_new _) 2
        | 3, hj => cases hj; exact blk_cell (blk_new _) 3
        | 4, hj => cases hj; exact blk_cell (blk_new _) 4
        | j + 5, hj => cases hj
      case c2 => have := HV40.out; have : maxLen = 9223372036854775807 := rfl; omega
      case c3 => have := HV40.out; omega
      intro g7 cap7 w7 hrow hfr hg hlt7
      have hfa : Frm (fun _ => False) w1 (w1.alloc (.cells #[.int .i64 0, .int .i64 0, .pointer none, .int .i64 0, .int .i64 0] 73)) := frm_alloc w1 (.cells #[.int .i64 0, .int .i64 0, .pointer none, .int .i64 0, .int .i64 0] 73)
      obtain ⟨HP, HM⟩ := (HS1.out.frm0 hfa).push_vars (x := noFact) hrow hfr (hg.imp id fun h => by rw [h]; simp) hlt7 rfl
      have hnp : ¬ (Value.slice VA sj.vars.length vc).ownBlock = some p := fun e => by have h1 := HS1.out.rvars p e; rw [HS1.out.rme] at h1; cases h1
      have b7 := blk_frm (HS1.out.frm0 hfa).box hfr hnp
      have c0' : w7.cell? ⟨p, 0, none⟩ = some (.slice VA sj.vars.length vc) := blk_cell b7 0
      have z7 : ∀ i, w7.frozen? ⟨p, i, none⟩ = false := fun i => blk_free b7 i
      obtain ⟨PA, pc, hpv, _⟩ := sees_slice HP.place.sees
      subst hpv
      have c2' : (w7.setCell ⟨p, 0, none⟩ (.slice (some ⟨g7, 0, none⟩) (sj.vars.length + 1) cap7)).cell? ⟨p, 2, none⟩ = some (.slice PA sj.place.length pc) := HP.cells.2.2.1
      have HM2 := Lib.hid ((HM1.out.trans (SMov.of0 hfa)).trans (HM.mono fun r hr => hr.elim .inl fun e => .inr (.inr (.inr e))))
      have HP2 := Lib.hid HP
      obtain ⟨R7, hR7⟩ : ∃ R7, R7 = upd Rj g7 .vars := ⟨_, rfl⟩
      rw [← hR7] at HM2 HP2
      clear HP HM hrow hfr hg hlt7 hfa hnp b7 c0 HM1 HS1 hR7
      go_wp2_with (at_builtin; refine wpList_append_row rfl _ _ 26 rfl 3 i0 (.int .i64 0) 8 Try.underlying26 hi hz0 hz1 hz2 rfl (enc := iI) (.slice PA sj.place.length pc) sj.place rfl (HP2.out.place.frm0 (frm_alloc _ (.cells #[.int .i64 (-1)] 3))) ⟨w7.heap.size, 0, none⟩ 1 (-1) rfl ?c1 rfl ?c2 ?c3 ?_)
      case c2 => have := HP40.out; have : maxLen = 9223372036854775807 := rfl; omega
      case c3 => have := HP40.out; omega
      intro g9 cap9 w9 hrow hfr hg hlt9
      obtain ⟨w8, hw8⟩ : ∃ w8, w8 = w7.setCell ⟨p, 0, none⟩ (.slice (some ⟨g7, 0, none⟩) (sj.vars.length + 1) cap7) := ⟨_, rfl⟩
      have hsz : w8.heap.size = w7.heap.size := by rw [hw8]; simp
      rw [← hw8] at hfr HP2 HM2 c2'
      have hfa : Frm (fun _ => False) w8 (w8.alloc (.cells #[.int .i64 (-1)] 3)) := frm_alloc w8 (.cells #[.int .i64 (-1)] 3)
      obtain ⟨HP, HM⟩ := (HP2.out.frm0 hfa).push_place (x := -1) hrow hfr (hg.imp id fun h => by rw [h]; simp; omega) hlt9
      have hnp : ¬ (Value.slice PA sj.place.length pc).ownBlock = some p := fun e => by have h1 := HP2.out.rplace p e; rw [HP2.out.rme] at h1; cases h1
      have b9 := blk_frm (HP2.out.frm0 hfa).box hfr hnp
      have c2'' : w9.cell? ⟨p, 2, none⟩ = some (.slice PA sj.place.length pc) := blk_cell b9 2
      have z9 : ∀ i, w9.frozen? ⟨p, i, none⟩ = false := fun i => blk_free b9 i
      have c0'' : (w9.setCell ⟨p, 2, none⟩ (.slice (some ⟨g9, 0, none⟩) (sj.place.length + 1) cap9)).cell? ⟨p, 0, none⟩ = some (.slice (some ⟨g7, 0, none⟩) (sj.vars.length + 1) cap7) := HP.cells.1
      have HM3 := Lib.hid ((HM2.out.trans (SMov.of0 hfa)).trans (HM.mono fun r hr => hr.elim (fun e => .inr (.inr (.inl e))) fun e => .inr (.inr (.inr e))))
      have HP3 := Lib.hid HP
      obtain ⟨R9, hR9⟩ : ∃ R9, R9 = upd R7 g9 .place := ⟨_, rfl⟩
      rw [← hR9] at HM3 HP3
      have hwl : wrap64 (sj.vars.length : Int) = (sj.vars.length : Int) := by have := HV40.out; unfold wrap64; omega
      have Hwl := Lib.hid hwl
      clear HP HM hrow hfr hg hlt9 hfa hnp b9 c2' c0' z7 HM2 HP2 hR9 hw8 hsz hwl
      go_wp2_with fail
      rw [Hwl.out]
      refine (push_calls (show SolverAt _ R9 p _ from ⟨_, _, _, _, _, _, _, _, _, HP3.out⟩) _ HPU.out).mono ?_
      rintro e10 w10 ⟨rfl, R10, HS10, HM10⟩
      have HI : Hid (GrowInv R w p n s' k0 w10) := Lib.hid ⟨s1, R10, HGR.out, HS10, HM3.out.trans (HM10.mono fun r hr => .inr hr)⟩
      clear HS10 HM10 HM3 HP3 c0'' c2'' z9
      dsimp only
      go_wp2
      go_roundw
      case rel => exact Lib.hid ⟨k0, HI.out⟩
      case measure => exact Nat.lt_succ_of_le ((leastK_spec ⟨k0, HI.out⟩).2 k0 HI.out)
    · rw [if_neg hlt] at hsp
      cases hsp
      have e0 : decide ((s'.vars.length : Int) ≤ ofF n) = false := by simpa using hlt
      clear hlt H
      go_wp2_with fail
      refine Plan.wp_region_plan [0, 1, 3, 7, 15, 0, 32, 127] [.mk [0, 1, 2, 3, 4, 5] 6 [0, 1, 2, 3, 4]] [7] (by kernel_rfl) (by kernel_rfl) ?_
      simp only [Plan.wayOf, Plan.pickAll, List.getElem?_cons_zero, List.getElem?_cons_succ, List.getD_eq_getElem?_getD, Option.getD_some]
      refine Plan.wpWay_seg ?_
      repeat go_big_quiet_step (fail)
      refine wpQuiet_nil ?_; refine Plan.wpWay_act ?_
      go_wp2_with fail
      refine (HO.out _).mono ?_
      rintro e w1 ⟨rfl, hf⟩
      have HF1 := Lib.hid (show Frm (fun _ => False) wr w1 from frm_then (Frm.refl _ _).drew hf)
      have c0 := frm_cell HF1.out c0
      clear hf
      dsimp only
      go_wp2_with fail
      refine And.intro ?_ ?_; focus ((iterate 5 (refine Plan.again_cons ?_ ?_; focus (go_big_quiet_step (fail); exact wpQuiet_nil rfl))); exact Plan.again_nil)
      refine Plan.wpWay_last ?_
      repeat go_big_quiet_step (fail)
      refine wpQuiet_nil ?_; refine NoPanic.normal ?_
      go_wp2
      go_end0
      exact ⟨rfl, Rj, HSj.out.frm0 HF1.out, HMj.out.trans (SMov.of0 HF1.out)⟩
end
end SaW
end Go.Proofs.Ytfpjfogddepbkaa
/- A score raised, walked: used. -/
namespace Go.Proofs.Ytfpjfogddepbkaa
open Go.RowKit Go.Mem Go.Sat
namespace SaW
def UsedT (r : Role) : Prop := r = .vars ∨ r = .heap ∨ r = .place ∨ r = .me
def resc (x : Fact) : Fact := { x with score := x.score / 1048576 }
def vj (l : List Fact) (j : Nat) : List Fact := (l.take j).map resc ++ l.drop j
theorem vj_get {l : List Fact} {j : Nat} (h : j < l.length) : (vj l j)[j]? = some l[j] := by
  unfold vj
  rw [List.getElem?_append_right (by simp; omega)]
  simp
  rw [Nat.min_eq_left (by omega)]
  simp
theorem vj_set {l : List Fact} {j : Nat} (h : j < l.length) : (vj l j).set j (resc l[j]) = vj l (j + 1) := by
  apply List.ext_getElem?
  intro i
  unfold vj
  rw [List.getElem?_set]
  by_cases hij : j = i
  · subst hij
    rw [if_pos rfl, if_pos (by simp; omega), List.getElem?_append_left (by simp; omega)]
    simp [List.getElem?_take, List.getElem?_eq_getElem h]
  · rw [if_neg hij]
    by_cases hlt : i < j
    · rw [List.getElem?_append_left (by simp; omega), List.getElem?_append_left (by simp; omega)]
      simp [List.getElem?_take, hlt, Nat.lt_succ_of_lt hlt]
    · rw [List.getElem?_append_right (by simp; omega), List.getElem?_append_right (by simp; omega)]
      simp only [List.length_map, List.length_take, List.getElem?_drop]
      congr 1
      omega
theorem vj_len (l : List Fact) {j : Nat} (h : j ≤ l.length) : (vj l j).length = l.length := by unfold vj; simp; omega
theorem vj_end (l : List Fact) : vj l l.length = l.map resc := by unfold vj; simp
section
variable {w : World} {R : Nat → Option Role} {p : Nat} {s s' : St}
set_option maxRecDepth 100000 in
set_option maxHeartbeats 2000000 in
theorem used_calls (h : SolverAt w R p s) (v : Int) (hs : usedF s v = some s') : Calls Try.prog 52 #[.pointer (some ⟨p, 0, none⟩), .int .i64 v] w (SPo UsedT R w p (.tuple #[]) s') := by
  have h0 := h
  obtain ⟨ids, vv, hv, pv, lv, tv, mv, bm, kvs, H⟩ := h
  have HS := Lib.hid H
  obtain ⟨c0, c1, c2, c3, c4, c5, c6, c7, c8, c9, c10, c11⟩ := H.cells
  unfold usedF at hs
  split at hs
  case h_1 => cases hs
  rename_i a ha
  split at hs
  case isTrue => cases hs
  rename_i hgd
  have hgd' : 0 ≤ a.score ∧ 0 ≤ s.bump ∧ a.score + s.bump ≤ 4611686018427387904 := by simpa using hgd
  obtain ⟨vs, hvs, hs1⟩ := Option.bind_eq_some_iff.1 hs
  dsimp only at hs1
  split at hs1
  case h_1 => cases hs1
  rename_i pl hpl
  obtain ⟨s2, hup, hs2⟩ := Option.bind_eq_some_iff.1 hs1
  split at hs2
  case h_1 => cases hs2
  rename_i b hb
  obtain ⟨k, g, cc, rfl, hkl, hml, rfl, hrg, x0, x1, x2, x3, x4⟩ := fact_cells H ha
  obtain ⟨k1, hk1, hpk, hpkl⟩ := nth_get hpl
  have hkk : k1 = k := by omega
  subst hkk
  obtain ⟨gp, pc, rfl, _, hpm, xp, _⟩ := row_at H.place hpkl
  rw [Option.some.inj ((List.getElem?_eq_getElem hpkl).symm.trans hpk)] at xp
  obtain ⟨k2, hk2, hkl2, hvs'⟩ := setN_get hvs
  have hkk : k2 = k1 := by omega
  subst hkk
  obtain ⟨k3, hk3, ha3, _⟩ := nth_get ha
  have hkk : k3 = k2 := by omega
  subst hkk
  have hz : ∀ i, w.frozen? ⟨g, i, none⟩ = false := by
    rcases H.vars.shape with ⟨e, _⟩ | ⟨_, _, e, _, _, _, _, _, hz⟩
    · cases e
    · cases e; exact hz
  have hkI : (k3 : Int) < (s.vars.length : Int) := by omega
  have hkP : (k3 : Int) < (s.place.length : Int) := by omega
  have hw1 : wrap64 (a.score + s.bump) = a.score + s.bump := by unfold wrap64; omega
  have hpg : p ≠ g := fun e => by have h1 := H.rvars g rfl; rw [← e, H.rme] at h1; cases h1
  have hgp : g ≠ gp := fun e => by have h1 := H.rvars g rfl; have h2 := H.rplace gp rfl; rw [e, h2] at h1; cases h1
  have r1 := srow_cell H.vars ha3 (j := 3) (by omega) (x' := { a with score := a.score + s.bump }) (u := .int .i64 (a.score + s.bump)) rfl
  rw [← hvs'] at r1
  have hF1 : Frm (fun b => R b = some .vars) w (w.setCell ⟨g, k3 * 5 + 3, none⟩ (.int .i64 (a.score + s.bump))) := (Frm.refl _ w).set (.inl hrg) _
  have H1 := H.in_vars hF1 (x' := vs) r1 (by
    intro y hy c hc
    rw [hvs'] at hy
    rcases List.mem_or_eq_of_mem_set hy with hy | hy
    · exact H.refs.1 y hy c hc
    · subst hy; exact H.refs.1 a (List.mem_of_getElem? ha3) c hc)
  have HH1 := Lib.hid H1
  have HF1 := Lib.hid hF1
  have HUP := Lib.hid hup
  have HBB := Lib.hid hb
  have HS2 := Lib.hid hs2
  have HVL : Hid (vs.length = s.vars.length) := Lib.hid (by rw [hvs']; simp)
  clear H h0 hs hs1 hup hb hs2 hvs hvs' ha hk1 hk2 hk3 hpl hpk ha3 hgd hgd' hF1 H1 r1 x0 x1 x2 x4 hkl2
  go_enter Try.func52, Try.ntmps52
  go_wp2_with fail
  refine Plan.wp_region_plan [0, 1, 3, 7, 0, 31, 63, 127, 0, 256, 768, 1792, 4095, 8191, 16383, 32767] [.mk [0, 1, 2, 3, 4, 5, 6, 7, 8, 9, 10, 11, 12, 13, 14] 15 []] [] (by kernel_rfl) (by kernel_rfl) ?_
  simp only [Plan.wayOf, Plan.pickAll, List.getElem?_cons_zero, List.getElem?_cons_succ, List.getD_eq_getElem?_getD, Option.getD_some]
  refine Plan.wpWay_seg ?_
  repeat go_big_quiet_step (fail)
  refine wpQuiet_nil ?_; refine Plan.wpWay_act ?_
  go_wp2_with (fail)
  refine And.intro Plan.again_nil ?_
  refine Plan.wpWay_last ?_
  refine wpQuiet_nil ?_; refine NoPanic.normal ?_
  obtain ⟨w1, hw⟩ : ∃ w1, w1 = (w.setCell ⟨g, k3 * 5 + 3, none⟩ (.int .i64 (a.score + s.bump))).drew := ⟨_, rfl⟩
  rw [← hw]
  have h1 := HH1.out.frm0 (Frm.refl _ _).drew
  rw [← hw] at h1
  have f1 := HF1.out.drew
  rw [← hw] at f1
  have HM1 : Hid (SMov UsedT R w R w1) := Lib.hid ⟨f1.mono fun q _ hq => ⟨_, hq, .inl rfl⟩, fun _ _ h => h, fun _ h => .inl h⟩
  have HS1 : Hid (SolverAt w1 R p { s with vars := vs }) := Lib.hid ⟨_, _, _, _, _, _, _, _, _, h1⟩
  have c2 : w1.cell? ⟨p, 2, none⟩ = some (.slice (some ⟨gp, 0, none⟩) s.place.length pc) := h1.cells.2.2.1
  have xp : w1.cell? ⟨gp, k3, none⟩ = some (iI pl) := by
    have hb := f1.block gp (World.block_lt_of_cell? _ _ xp) (fun e => by rw [HS.out.rplace gp rfl] at e; cases e)
    rw [← xp]
    simp only [World.cell?, hb]
  clear hw h1 f1 HH1 HF1 c0 c1 c3 c4 c5 c6 c7 c8 c9 c10 c11 x3 hz hw1 hkI hml hpm hkl hrg hpg hgp
  by_cases hp0 : 0 ≤ pl
  · have e0 : decide (0 ≤ pl) = true := by simpa using hp0
    have hup := HUP.out
    rw [if_pos hp0] at hup
    have HUP2 := Lib.hid hup
    clear hup hp0
    go_wp2_with fail
    refine (up_calls HS1.out pl HUP2.out).mono ?_
    rintro e3 w3 ⟨rfl, R3, HS3', HM3'⟩
    have HS3 := Lib.hid HS3'
    have HM3 := Lib.hid (HM1.out.trans (HM3'.mono fun r hr => .inr hr))
    clear HS3' HM3' HM1 HS1 c2 xp hkP e0
    dsimp only
    obtain ⟨ids2, vv2, hv2, pv2, lv2, tv2, mv2, bm2, kvs2, H2⟩ := HS3.out
    obtain ⟨k4, g2, c42, hk4, hkl4, hml4, rfl, hrg2, _, _, _, y3, _⟩ := fact_cells H2 HBB.out
    have hkk : k4 = k3 := by omega
    subst hkk
    obtain ⟨d0, _, _, _, _, _, _, _, _, _, d10, _⟩ := H2.cells
    have hkI : (k4 : Int) < (s2.vars.length : Int) := by omega
    have HH2 := Lib.hid H2
    by_cases hsc : (1099511627776 : Int) < b.score
    · have e1 : decide ((1099511627776 : Int) < b.score) = true := by simpa using hsc
      have hs2 := HS2.out
      rw [if_pos hsc] at hs2
      have HSS := Lib.hid (Option.some.inj hs2)
      clear H2 hs2
      have hml63 : s2.vars.length ≤ 9223372036854775807 := hml4
      go_wp2_with fail
      obtain ⟨vl, hvl⟩ : ∃ vl, vl = s2.vars := ⟨_, rfl⟩
      have HVl := Lib.hid hvl
      rw [← hvl] at HH2 d0 hkI hml63 ⊢
      have HR2 : Hid (∀ x ∈ vl, ∀ c, x.reason = some c → c < s2.cls.length) := Lib.hid (by rw [hvl]; exact HH2.out.refs.1)
      clear y3 hkI hkl4 hml4 hvl d0 d10
      go_loopw [51] (fun v51 w' => ∃ j : Nat, v51 = .int .i64 j ∧ j ≤ vl.length ∧ Hid (SRep w' R3 p { s2 with vars := vj vl j } ids2 (.slice (some ⟨g2, 0, none⟩) vl.length c42) hv2 pv2 lv2 tv2 mv2 bm2 kvs2) ∧ Hid (SMov UsedT R w R3 w')) (fun v51 _ => vl.length - (intOf v51).toNat)
      case atStart => exact ⟨0, rfl, by omega, Lib.hid (by rw [show vj vl 0 = s2.vars by rw [HVl.out]; simp [vj]]; exact HH2.out), HM3⟩
      case round =>
        obtain ⟨j, rfl, hj, HSj, HMj⟩ := hrel
        clear HS3 HM3 HH2
        obtain ⟨d0, _, _, _, _, _, _, _, _, _, d10, _⟩ := HSj.out.cells
        by_cases hjl : j < vl.length
        · have hjI : (j : Int) < (vl.length : Int) := by omega
          have hg := vj_get hjl
          have hr := (HSj.out.vars)
          have xs : wr.cell? ⟨g2, j * 5 + 3, none⟩ = some (.int .i64 vl[j].score) := by
            rcases hr.shape with ⟨e, _⟩ | ⟨g', c', e, _, _, _, _, hc, _⟩
            · cases e
            · injection e with ea eb ec
              cases ea
              exact hc j _ 3 _ hg rfl
          have hz : ∀ i, wr.frozen? ⟨g2, i, none⟩ = false := by
            rcases hr.shape with ⟨e, _⟩ | ⟨g', c', e, _, _, _, _, _, hz⟩
            · cases e
            · injection e with ea eb ec
              cases ea
              exact hz
          obtain ⟨m, hm⟩ : ∃ m, m = vl[j].score := ⟨_, rfl⟩
          rw [← hm] at xs
          have hpg : p ≠ g2 := fun e => by have h1 := HSj.out.rvars g2 rfl; rw [← e, HSj.out.rme] at h1; cases h1
          have HGG := Lib.hid (HSj.out.rvars g2 rfl)
          have HMm := Lib.hid hm
          have HG := Lib.hid hg
          clear hg hr hm
          go_wp2_with fail
          go_roundw
          case rel =>
            have r1 := srow_cell HSj.out.vars HG.out (j := 3) (by omega) (x' := resc vl[j]) (u := .int .i64 (m / 1048576)) (by rw [HMm.out]; rfl)
            rw [vj_set hjl] at r1
            have hf : Frm (fun b => R3 b = some .vars) wr (wr.setCell ⟨g2, j * 5 + 3, none⟩ (.int .i64 (m / 1048576))) := (Frm.refl _ wr).set (.inl HGG.out) _
            have h1 := HSj.out.in_vars hf (x' := vj vl (j + 1)) r1 (by
              intro y hy c hc
              unfold vj at hy
              rcases List.mem_append.1 hy with hy | hy
              · obtain ⟨x, hx, rfl⟩ := List.mem_map.1 hy
                exact HR2.out x (List.mem_of_mem_take hx) c hc
              · exact HR2.out y (List.mem_of_mem_drop hy) c hc)
            exact ⟨j + 1, rfl, hjl, Lib.hid h1, Lib.hid (HMj.out.trans ⟨hf.mono fun q _ hq => ⟨_, hq, .inl rfl⟩, fun _ _ h => h, fun _ h => .inl h⟩)⟩
          case measure => simp only [intOf]; omega
        · have hjI : ¬ (j : Int) < (vl.length : Int) := by omega
          have hje : j = vl.length := by omega
          subst hje
          rw [vj_end] at HSj
          have hz : ∀ i, wr.frozen? ⟨p, i, none⟩ = false := fun i => blk_free HSj.out.box i
          obtain ⟨nb, hnb⟩ : ∃ nb, nb = (if s2.bump / 1048576 < 1 then (1 : Int) else s2.bump / 1048576) := ⟨_, rfl⟩
          have hmx : max (s2.bump / 1048576) 1 = nb := by rw [hnb]; omega
          obtain ⟨HT, HTM⟩ := HSj.out.tell_bump nb
          have HT1 := Lib.hid HT
          have HM5 := Lib.hid (HMj.out.trans (HTM.mono fun r hr => .inr (.inr (.inr hr))))
          have HSE : Hid (({ s2 with vars := vl.map resc, bump := nb } : St) = s') := Lib.hid (by rw [← HSS.out, hnb, HVl.out]; rfl)
          clear hnb HT HTM d0
          have HMX := Lib.hid hmx
          clear hmx
          go_wp2
          all_goals go_end0
          all_goals have hmx := HMX.out
          all_goals first | (have e : nb = s2.bump / 1048576 := (by omega); subst e) | (have e : nb = 1 := (by omega); subst e)
          all_goals exact ⟨rfl, _, by rw [← HSE.out]; exact ⟨_, _, _, _, _, _, _, _, _, HT1.out⟩, HM5.out⟩
    · have e1 : decide ((1099511627776 : Int) < b.score) = false := by simpa using hsc
      have hs2 := HS2.out
      rw [if_neg hsc] at hs2
      have HSS := Lib.hid (Option.some.inj hs2)
      clear H2 hs2 hsc
      go_wp2
      go_end0
      exact ⟨rfl, _, by rw [← HSS.out]; exact HS3.out, HM3.out⟩
  · have e0 : decide (0 ≤ pl) = false := by simpa using hp0
    have hup := HUP.out
    rw [if_neg hp0] at hup
    have hse : s2 = { s with vars := vs } := (Option.some.inj hup).symm
    obtain ⟨w3, hw3⟩ : ∃ w3, w3 = w1 := ⟨_, rfl⟩
    obtain ⟨R3, hR3⟩ : ∃ R3, R3 = R := ⟨_, rfl⟩
    have HS3 : Hid (SolverAt w3 R3 p s2) := Lib.hid (by rw [hw3, hR3, hse]; exact HS1.out)
    have HM3 : Hid (SMov UsedT R w R3 w3) := Lib.hid (by rw [hw3, hR3]; exact HM1.out)
    rw [← hw3] at c2 xp ⊢
    clear hp0 hw3 HM1 HS1 hup hse hR3
    obtain ⟨ids2, vv2, hv2, pv2, lv2, tv2, mv2, bm2, kvs2, H2⟩ := HS3.out
    obtain ⟨k4, g2, c42, hk4, hkl4, hml4, rfl, hrg2, _, _, _, y3, _⟩ := fact_cells H2 HBB.out
    have hkk : k4 = k3 := by omega
    subst hkk
    obtain ⟨d0, _, _, _, _, _, _, _, _, _, d10, _⟩ := H2.cells
    have hkI : (k4 : Int) < (s2.vars.length : Int) := by omega
    have HH2 := Lib.hid H2
    by_cases hsc : (1099511627776 : Int) < b.score
    · have e1 : decide ((1099511627776 : Int) < b.score) = true := by simpa using hsc
      have hs2 := HS2.out
      rw [if_pos hsc] at hs2
      have HSS := Lib.hid (Option.some.inj hs2)
      clear H2 hs2
      have hml63 : s2.vars.length ≤ 9223372036854775807 := hml4
      go_wp2_with fail
      obtain ⟨vl, hvl⟩ : ∃ vl, vl = s2.vars := ⟨_, rfl⟩
      have HVl := Lib.hid hvl
      rw [← hvl] at HH2 d0 hkI hml63 ⊢
      have HR2 : Hid (∀ x ∈ vl, ∀ c, x.reason = some c → c < s2.cls.length) := Lib.hid (by rw [hvl]; exact HH2.out.refs.1)
      clear y3 hkI hkl4 hml4 hvl d0 d10
      go_loopw [51] (fun v51 w' => ∃ j : Nat, v51 = .int .i64 j ∧ j ≤ vl.length ∧ Hid (SRep w' R3 p { s2 with vars := vj vl j } ids2 (.slice (some ⟨g2, 0, none⟩) vl.length c42) hv2 pv2 lv2 tv2 mv2 bm2 kvs2) ∧ Hid (SMov UsedT R w R3 w')) (fun v51 _ => vl.length - (intOf v51).toNat)
      case atStart => exact ⟨0, rfl, by omega, Lib.hid (by rw [show vj vl 0 = s2.vars by rw [HVl.out]; simp [vj]]; exact HH2.out), HM3⟩
      case round =>
        obtain ⟨j, rfl, hj, HSj, HMj⟩ := hrel
        clear HS3 HM3 HH2
        obtain ⟨d0, _, _, _, _, _, _, _, _, _, d10, _⟩ := HSj.out.cells
        by_cases hjl : j < vl.length
        · have hjI : (j : Int) < (vl.length : Int) := by omega
          have hg := vj_get hjl
          have hr := (HSj.out.vars)
          have xs : wr.cell? ⟨g2, j * 5 + 3, none⟩ = some (.int .i64 vl[j].score) := by
            rcases hr.shape with ⟨e, _⟩ | ⟨g', c', e, _, _, _, _, hc, _⟩
            · cases e
            · injection e with ea eb ec
              cases ea
              exact hc j _ 3 _ hg rfl
          have hz : ∀ i, wr.frozen? ⟨g2, i, none⟩ = false := by
            rcases hr.shape with ⟨e, _⟩ | ⟨g', c', e, _, _, _, _, _, hz⟩
            · cases e
            · injection e with ea eb ec
              cases ea
              exact hz
          obtain ⟨m, hm⟩ : ∃ m, m = vl[j].score := ⟨_, rfl⟩
          rw [← hm] at xs
          have hpg : p ≠ g2 := fun e => by have h1 := HSj.out.rvars g2 rfl; rw [← e, HSj.out.rme] at h1; cases h1
          have HGG := Lib.hid (HSj.out.rvars g2 rfl)
          have HMm := Lib.hid hm
          have HG := Lib.hid hg
          clear hg hr hm
          go_wp2_with fail
          go_roundw
          case rel =>
            have r1 := srow_cell HSj.out.vars HG.out (j := 3) (by omega) (x' := resc vl[j]) (u := .int .i64 (m / 1048576)) (by rw [HMm.out]; rfl)
            rw [vj_set hjl] at r1
            have hf : Frm (fun b => R3 b = some .vars) wr (wr.setCell ⟨g2, j * 5 + 3, none⟩ (.int .i64 (m / 1048576))) := (Frm.refl _ wr).set (.inl HGG.out) _
            have h1 := HSj.out.in_vars hf (x' := vj vl (j + 1)) r1 (by
              intro y hy c hc
              unfold vj at hy
              rcases List.mem_append.1 hy with hy | hy
              · obtain ⟨x, hx, rfl⟩ := List.mem_map.1 hy
                exact HR2.out x (List.mem_of_mem_take hx) c hc
              · exact HR2.out y (List.mem_of_mem_drop hy) c hc)
            exact ⟨j + 1, rfl, hjl, Lib.hid h1, Lib.hid (HMj.out.trans ⟨hf.mono fun q _ hq => ⟨_, hq, .inl rfl⟩, fun _ _ h => h, fun _ h => .inl h⟩)⟩
          case measure => simp only [intOf]; omega
        · have hjI : ¬ (j : Int) < (vl.length : Int) := by omega
          have hje : j = vl.length := by omega
          subst hje
          rw [vj_end] at HSj
          have hz : ∀ i, wr.frozen? ⟨p, i, none⟩ = false := fun i => blk_free HSj.out.box i
          obtain ⟨nb, hnb⟩ : ∃ nb, nb = (if s2.bump / 1048576 < 1 then (1 : Int) else s2.bump / 1048576) := ⟨_, rfl⟩
          have hmx : max (s2.bump / 1048576) 1 = nb := by rw [hnb]; omega
          obtain ⟨HT, HTM⟩ := HSj.out.tell_bump nb
          have HT1 := Lib.hid HT
          have HM5 := Lib.hid (HMj.out.trans (HTM.mono fun r hr => .inr (.inr (.inr hr))))
          have HSE : Hid (({ s2 with vars := vl.map resc, bump := nb } : St) = s') := Lib.hid (by rw [← HSS.out, hnb, HVl.out]; rfl)
          clear hnb HT HTM d0
          have HMX := Lib.hid hmx
          clear hmx
          go_wp2
          all_goals go_end0
          all_goals have hmx := HMX.out
          all_goals first | (have e : nb = s2.bump / 1048576 := (by omega); subst e) | (have e : nb = 1 := (by omega); subst e)
          all_goals exact ⟨rfl, _, by rw [← HSE.out]; exact ⟨_, _, _, _, _, _, _, _, _, HT1.out⟩, HM5.out⟩
    · have e1 : decide ((1099511627776 : Int) < b.score) = false := by simpa using hsc
      have hs2 := HS2.out
      rw [if_neg hsc] at hs2
      have HSS := Lib.hid (Option.some.inj hs2)
      clear H2 hs2 hsc
      go_wp2
      go_end0
      exact ⟨rfl, _, by rw [← HSS.out]; exact HS3.out, HM3.out⟩
end
end SaW
end Go.Proofs.Ytfpjfogddepbkaa
/- A new clause in memory; what a call may have done from some block on; choose, model, walked. -/
namespace Go.Proofs.Ytfpjfogddepbkaa
open Go.RowKit Go.Mem Go.Sat
namespace SaW
/-- What a call may have done, but for blocks from B on. -/
def SMovB (T : Role → Prop) (B : Nat) (R : Nat → Option Role) (w : World) (R' : Nat → Option Role) (w' : World) : Prop :=
  Frm (fun b => (∃ r, R b = some r ∧ T r) ∨ B ≤ b) w w' ∧ (∀ b r, R b = some r → R' b = some r) ∧ ∀ b, R' b ≠ none → R b ≠ none ∨ B ≤ b
section
variable {T T' : Role → Prop} {B : Nat}
theorem SMov.toB {R R' : Nat → Option Role} {w w' : World} (h : SMov T R w R' w') (hB : B ≤ w.heap.size) : SMovB T B R w R' w' := ⟨h.1.mono fun _ _ h => .inl h, h.2.1, fun b hb => (h.2.2 b hb).imp id fun h => Nat.le_trans hB h⟩
theorem SMovB.trans {R R1 R2 : Nat → Option Role} {w w1 w2 : World} (h : SMovB T B R w R1 w1) (k : SMovB T B R1 w1 R2 w2) : SMovB T B R w R2 w2 :=
  ⟨h.1.trans k.1 fun x hx e => by
    rcases e with ⟨r, hr, ht⟩ | e
    · rcases h.2.2 x (by rw [hr]; exact fun e => by cases e) with h1 | h1
      · cases hq : R x with
        | none => exact absurd hq h1
        | some q =>
          have := h.2.1 x q hq
          rw [hr] at this
          cases this
          exact .inl ⟨r, rfl, ht⟩
      · exact .inr h1
    · exact .inr e, fun b r hb => k.2.1 b r (h.2.1 b r hb), fun b hb => (k.2.2 b hb).elim (fun h1 => h.2.2 b h1) .inr⟩
theorem SMovB.mono {R R' : Nat → Option Role} {w w' : World} (h : SMovB T B R w R' w') (hT : ∀ r, T r → T' r) : SMovB T' B R w R' w' := ⟨h.1.mono fun _ _ h => h.imp (fun ⟨r, hr, ht⟩ => ⟨r, hr, hT r ht⟩) id, h.2.1, h.2.2⟩
theorem SMovB.any {R R' : Nat → Option Role} {w w' : World} (h : SMovB T B R w R' w') : SMovB AnyT B R w R' w' := h.mono fun _ _ => trivial
theorem SMovB.back {R R' : Nat → Option Role} {w w' : World} (h : SMovB T w.heap.size R w R' w') : SMov T R w R' w' := ⟨h.1.mono fun x hx e => e.elim id fun e => by omega, h.2.1, h.2.2⟩
/-- A block below B that is none of the solver's stays, and is none of its. -/
theorem SMovB.out {R R' : Nat → Option Role} {w w' : World} (h : SMovB T B R w R' w') {b : Nat} (hb : b < B) (hr : R b = none) : R' b = none := by
  cases hq : R' b with
  | none => rfl
  | some r => rcases h.2.2 b (by rw [hq]; exact fun e => by cases e) with h1 | h1; exact absurd hr h1; omega
end
section
variable {w w' : World} {R : Nat → Option Role} {p : Nat} {s : St} {ids : List Nat} {vv hv pv lv tv mv : Value} {bm : Nat} {kvs : List (Int × Value)}
theorem encC_snoc (ids : List Nat) (g : Nat) {c : Nat} (h : c < ids.length) : encC (ids ++ [g]) c = encC ids c := by
  unfold encC
  rw [List.getD_eq_getElem?_getD, List.getD_eq_getElem?_getD, List.getElem?_append_left h]
theorem encR_snoc (ids : List Nat) (g : Nat) {r : Option Nat} (h : ∀ c, r = some c → c < ids.length) : encR (ids ++ [g]) r = encR ids r := by
  cases r with
  | none => rfl
  | some c => exact encC_snoc ids g (h c rfl)
theorem row_congr {α : Type} {w : World} {e : TypeId} {enc enc' : α → Value} {v : Value} {l : List α} (h : Row w e enc v l) (he : ∀ x ∈ l, enc' x = enc x) : Row w e enc' v l := by
  unfold Row at h ⊢
  rw [List.map_congr_left he]
  exact h
theorem wrow_congr {α : Type} {w : World} {e : TypeId} {enc enc' : α → Value} {v : Value} {l : List α} (h : WRow w e enc v l) (he : ∀ x ∈ l, enc' x = enc x) : WRow w e enc' v l := h.imp (fun h => row_congr h he) id
theorem flatMap_congr' {α β : Type} : ∀ {l : List α} {f g : α → List β}, (∀ x ∈ l, f x = g x) → l.flatMap f = l.flatMap g
  | [], _, _, _ => rfl
  | a :: l, f, g, h => by rw [List.flatMap_cons, List.flatMap_cons, h a List.mem_cons_self, flatMap_congr' fun x hx => h x (List.mem_cons_of_mem _ hx)]
/-- Roles, with a new clause's block and its literals'. -/
def newCl (R : Nat → Option Role) (n c : Nat) (v : Value) : Nat → Option Role := fun b => if b = n then some (.cl c) else if v.ownBlock = some b then some (.lits c) else R b
theorem SRep.new_cl (h : SRep w R p s ids vv hv pv lv tv mv bm kvs) {v : Value} {x : Cl} (hrow : Row w 3 iI v x.lits) (hown : ∀ g, v.ownBlock = some g → R g = none) :
    SRep (w.alloc (.cells #[v, .bool x.learnt, .int .i64 x.score] 62)) (newCl R w.heap.size s.cls.length v) p { s with cls := s.cls ++ [x] } (ids ++ [w.heap.size]) vv hv pv lv tv mv bm kvs := by
  have hf := frm_alloc w (.cells #[v, .bool x.learnt, .int .i64 x.score] 62)
  have hR : ∀ b r, R b = some r → newCl R w.heap.size s.cls.length v b = some r := fun b r hb => by
    unfold newCl
    rw [if_neg (by have := h.lt b r hb; omega), if_neg (fun e => by rw [hown b e] at hb; cases hb)]
    exact hb
  have H := h.frm0 hf
  have hil : ∀ c, c < s.cls.length → c < ids.length := fun c hc => by rw [h.idl]; exact hc
  refine ⟨H.box, ?_, H.heap, H.place, row_congr H.learnt fun c hc => encC_snoc _ _ (hil c (h.refs.2.2 c hc)), H.trail, H.limits, H.map, H.keys, fun i n v l h1 h2 => ?_, ?_, fun c y hy => ?_,
    hR _ _ h.rme, fun g hg => hR _ _ (h.rvars g hg), fun g hg => hR _ _ (h.rheap g hg), fun g hg => hR _ _ (h.rplace g hg), fun g hg => hR _ _ (h.rlearnt g hg), fun g hg => hR _ _ (h.rtrail g hg), fun g hg => hR _ _ (h.rlimits g hg), hR _ _ h.rmap, fun b r hb => ?_, ⟨?_, ?_, ?_⟩, H.wnd, fun b c hb => ?_⟩
  · have hv := H.vars
    unfold SRow at hv ⊢
    rw [flatMap_congr' (g := (encF ids).cells) fun y hy => ?_]
    · exact hv
    · show fcells (ids ++ [w.heap.size]) y = fcells ids y
      unfold fcells
      rw [encR_snoc ids _ fun c hc => hil c (h.refs.1 y hy c hc)]
  · obtain ⟨h3, h4⟩ := H.rows i n v l h1 h2
    exact ⟨wrow_congr h3 fun c hc => encC_snoc _ _ (hil c (h.refs.2.1 _ (List.mem_of_getElem? h2) c hc)), fun g hg => hR _ _ (h4 g hg)⟩
  · simp [h.idl]
  · by_cases hc : c < s.cls.length
    · rw [List.getElem?_append_left hc] at hy
      obtain ⟨b, u, h1, h2, h3, h4, h5⟩ := H.cls c y hy
      exact ⟨b, u, by rw [List.getElem?_append_left (hil c hc)]; exact h1, hR _ _ h2, h3, h4, fun g hg => hR _ _ (h5 g hg)⟩
    · have hc2 := (List.getElem?_eq_some_iff.1 hy).1
      simp at hc2
      have hce : c = s.cls.length := by omega
      subst hce
      rw [List.getElem?_append_right (Nat.le_refl _), Nat.sub_self] at hy
      cases hy
      refine ⟨w.heap.size, v, by rw [← h.idl, List.getElem?_append_right (Nat.le_refl _), Nat.sub_self]; rfl, if_pos rfl, blk_new _, hrow.frm0 hf, fun g hg => ?_⟩
      unfold newCl
      rw [if_neg (by have := hrow.lt g hg; omega), if_pos hg]
  · unfold newCl at hb
    split at hb
    · rename_i e; subst e; simp
    · split at hb
      · rename_i e
        have := hrow.lt b e
        simp; omega
      · have := h.lt b r hb
        simp; omega
  · intro y hy c hc
    have := h.refs.1 y hy c hc
    simp; omega
  · intro y hy c hc
    have := h.refs.2.1 y hy c hc
    simp; omega
  · intro c hc
    have := h.refs.2.2 c hc
    simp; omega
  · unfold newCl at hb
    split at hb
    · rename_i e
      cases hb
      subst e
      rw [← h.idl, List.getElem?_append_right (Nat.le_refl _), Nat.sub_self]
      rfl
    · split at hb
      · cases hb
      · have h1 := h.onec b c hb
        rw [List.getElem?_append_left (List.getElem?_eq_some_iff.1 h1).1]
        exact h1
theorem newCl_mov {T : Role → Prop} {B c : Nat} {v : Value} {o : Obj} (h : SRep w R p s ids vv hv pv lv tv mv bm kvs) (hB : B ≤ w.heap.size) (hown : ∀ g, v.ownBlock = some g → R g = none ∧ B ≤ g) : SMovB T B R w (newCl R w.heap.size c v) (w.alloc o) := by
  refine ⟨(frm_alloc w o).mono fun _ _ h => h.elim, fun b r hb => ?_, fun b hb => ?_⟩
  · unfold newCl
    rw [if_neg (by have := h.lt b r hb; omega), if_neg (fun e => by rw [(hown b e).1] at hb; cases hb)]
    exact hb
  · unfold newCl at hb
    split at hb
    · rename_i e; subst e; exact .inr hB
    · split at hb
      · rename_i e; exact .inr (hown b e).2
      · exact .inl hb
end
section
variable {w : World} {R : Nat → Option Role} {p : Nat} {s s' : St}
def ChInv (R : Nat → Option Role) (w : World) (p : Nat) (v : Int) (s' : St) (k : Nat) (w' : World) : Prop := ∃ sj Rj, chooseF k sj = some (v, s') ∧ SolverAt w' Rj p sj ∧ SMov HeapT R w Rj w'
set_option maxRecDepth 100000 in
set_option maxHeartbeats 2000000 in
theorem choose_calls (h : SolverAt w R p s) (k : Nat) (v : Int) (hs : chooseF k s = some (v, s')) : Calls Try.prog 57 #[.pointer (some ⟨p, 0, none⟩)] w (SPost R w p (.int .i64 v) s') := by
  have HG0 : Hid (ChInv R w p v s' k w) := Lib.hid ⟨s, R, hs, h, SMov.of0 (Frm.refl _ _)⟩
  clear hs h
  go_enter Try.func57, Try.ntmps57
  go_wp2_with fail
  go_loopw [] (fun w' => Hid (∃ k, ChInv R w p v s' k w')) (fun w' => leastK fun k => ChInv R w p v s' k w')
  case atStart => exact Lib.hid ⟨k, HG0.out⟩
  case round =>
    clear HG0
    obtain ⟨hI, hmin⟩ := leastK_spec hrel.out
    obtain ⟨k0, hk0⟩ : ∃ k0, k0 = leastK fun k => ChInv R w p v s' k wr := ⟨_, rfl⟩
    rw [← hk0] at hI hmin ⊢
    have HMIN := Lib.hid hmin
    clear hrel hmin hk0
    obtain ⟨sj, Rj, hsp, hSj, hMj⟩ := hI
    have HSj := Lib.hid hSj
    have HMj := Lib.hid hMj
    obtain ⟨ids, vv, hv, pv, lv, tv, mv, bm, kvs, H⟩ := hSj
    obtain ⟨_, c1, _⟩ := H.cells
    obtain ⟨HA, hc, rfl, _⟩ := sees_slice H.heap.sees
    cases k0 with
    | zero => cases hsp
    | succ k0 =>
    unfold chooseF at hsp
    clear H hMj
    by_cases h0 : sj.heap.length = 0
    · rw [if_pos h0] at hsp
      cases hsp
      have e0 : decide ((0 : Int) < (s'.heap.length : Int)) = false := by simp [h0]
      rw [h0] at c1
      clear h0 e0
      go_wp2
      go_ret
      exact ⟨rfl, Rj, HSj.out, HMj.out⟩
    · rw [if_neg h0] at hsp
      split at hsp
      case h_1 => cases hsp
      rename_i u s1 hpop
      split at hsp
      case h_1 => cases hsp
      rename_i a ha
      have e0 : (0 : Int) < (sj.heap.length : Int) := by omega
      have HPOP := Lib.hid hpop
      have HAA := Lib.hid ha
      have HSP := Lib.hid hsp
      clear hpop ha hsp h0
      go_wp2_with fail
      refine (pop_calls HSj.out u HPOP.out).mono ?_
      rintro e w1 ⟨rfl, R1, HS1', HM1'⟩
      have HS1 := Lib.hid HS1'
      have HM1 := Lib.hid (HMj.out.trans HM1')
      obtain ⟨ids2, vv2, hv2, pv2, lv2, tv2, mv2, bm2, kvs2, H2⟩ := HS1'
      obtain ⟨d0, _⟩ := H2.cells
      obtain ⟨m, g, cc, rfl, hkl, hml, rfl, hrg, x0, _⟩ := fact_cells H2 HAA.out
      have hmI : (m : Int) < (s1.vars.length : Int) := by omega
      clear H2 HM1' HSj HMj c1 hml hkl
      dsimp only
      by_cases hl : a.lit = 0
      · have e1 : (a.lit == 0) = true := by simpa using hl
        have hsp := HSP.out
        rw [if_pos hl] at hsp
        cases hsp
        clear hl
        go_wp2
        go_ret
        exact ⟨rfl, R1, HS1.out, HM1.out⟩
      · have e1 : (a.lit == 0) = false := by simpa using hl
        have hsp := HSP.out
        rw [if_neg hl] at hsp
        have HI : Hid (ChInv R w p v s' k0 w1) := Lib.hid ⟨s1, R1, hsp, HS1.out, HM1.out⟩
        clear hl hsp
        go_wp2
        go_roundw
        case rel => exact Lib.hid ⟨k0, HI.out⟩
        case measure => exact Nat.lt_succ_of_le ((leastK_spec ⟨k0, HI.out⟩).2 k0 HI.out)
end
end SaW
end Go.Proofs.Ytfpjfogddepbkaa
