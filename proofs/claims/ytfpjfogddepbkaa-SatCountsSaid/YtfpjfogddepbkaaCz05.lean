/- What was decided above a level taken back, walked: back. -/
import Derived.Test.YtfpjfogddepbkaaCz04
set_option linter.unusedSimpArgs false
set_option linter.unusedVariables false
namespace Go.Proofs.Ytfpjfogddepbkaa
open Go.RowKit Go.Mem Go.Sat
namespace SaW
theorem sml_of {n : Int} (h : smlB n = true) : Sml n := by simpa [smlB, Sml] using h
theorem room_of {n : Nat} (h : roomB n = true) : n ≤ 1099511627776 := by simpa [roomB] using h
theorem row_cap {α : Type} {w : World} {e : TypeId} {enc : α → Value} {A : Option Addr} {n c : Nat} {xs : List α} (h : Row w e enc (.slice A n c) xs) : xs.length ≤ c ∧ n = xs.length := by
  rcases h.shape with ⟨e1, h2⟩ | ⟨_, _, e1, _, h1, _⟩
  · injection e1 with ea eb ec
    subst h2
    exact ⟨Nat.zero_le _, eb⟩
  · injection e1 with ea eb ec
    subst ec
    exact ⟨h1, eb⟩
theorem frm_free {w w' : World} {a : Addr} {v : Value} (hf : Frm (fun _ => False) w w') (h : w.cell? a = some v) (hz : w.frozen? a = false) : w'.frozen? a = false := by
  have hb := hf.block a.block (World.block_lt_of_cell? _ _ h) id
  unfold World.frozen? at hz ⊢
  rw [hb]; exact hz
section
variable {w : World} {R : Nat → Option Role} {p : Nat} {s s' : St}
theorem value_sml {s : St} {n v : Int} (h : valueF s n = some v) : Sml n := by
  unfold valueF at h
  split at h
  · rename_i hc; exact sml_of hc
  · cases h
theorem value_calls (h : SolverAt w R p s) (n v : Int) (hv' : valueF s n = some v) : Calls Try.prog 27 #[.pointer (some ⟨p, 0, none⟩), .int .i64 n] w fun e w' => e = .returned (.int .i64 v) ∧ Frm (fun _ => False) w w' := by
  have hn := value_sml hv'
  unfold valueF at hv'
  split at hv'
  · exact value_calls0 h n v hn hv'
  · cases hv'
theorem push_calls (h : SolverAt w R p s) (v : Int) (hs : pushF s v = some s') : Calls Try.prog 45 #[.pointer (some ⟨p, 0, none⟩), .int .i64 v] w (SPost R w p (.tuple #[]) s') := by
  unfold pushF at hs
  split at hs
  · rename_i hc; exact push_calls0 h v hs (room_of hc)
  · cases hs
theorem pop_calls (h : SolverAt w R p s) (v : Int) (hs : popF s = some (v, s')) : Calls Try.prog 65 #[.pointer (some ⟨p, 0, none⟩)] w (SPost R w p (.int .i64 v) s') := by
  unfold popF at hs
  split at hs
  · rename_i hc; exact pop_calls0 h v hs (room_of hc)
  · cases hs
theorem set_calls (h : SolverAt w R p s) (n : Int) (why : Option Nat) (A : Option Addr) (hs : setF s n why = some s') (hwv : ClAt R A why) : Calls Try.prog 30 #[.pointer (some ⟨p, 0, none⟩), .int .i64 n, .pointer A] w (SPo SetT R w p (.tuple #[]) s') := by
  unfold setF at hs
  split at hs
  · rename_i hc
    rw [Bool.and_eq_true] at hc
    exact set_calls0 h n (sml_of hc.1) why A hs (room_of hc.2) hwv
  · cases hs
/-- What the taking back writes, but the cutting. -/
def UnT (r : Role) : Prop := r = .vars ∨ r = .heap ∨ r = .place ∨ r = .me
def BackT (r : Role) : Prop := UnT r ∨ r = .trail ∨ r = .limits
theorem lay_keeps {s s' : St} {v i : Int} (h : layF s v i = some s') : s' = { s with heap := s'.heap, place := s'.place } := by
  unfold layF at h
  split at h
  · cases h; rfl
  · cases h
theorem up_keeps : ∀ (k : Nat) {s s' : St} {v i : Int}, upL k s v i = some s' → s' = { s with heap := s'.heap, place := s'.place }
  | 0, s, s', v, i, h => by simp [upL] at h
  | k + 1, s, s', v, i, h => by
    unfold upL at h
    split at h
    · split at h
      · cases h
      · split at h
        · cases h
        · exact lay_keeps h
        · obtain ⟨s1, h1, h2⟩ := Option.bind_eq_some_iff.1 h
          have e2 := up_keeps k h2
          have e1 := lay_keeps h1
          rw [e1] at e2
          exact e2
    · exact lay_keeps h
theorem push_keeps {s s' : St} {v : Int} (h : pushF s v = some s') : s' = { s with heap := s'.heap, place := s'.place } := by
  unfold pushF pushF0 at h
  split at h
  · split at h
    · cases h
    · split at h
      · obtain ⟨s1, h1, h2⟩ := Option.bind_eq_some_iff.1 h
        unfold upF at h2
        obtain ⟨y, _, h3⟩ := Option.bind_eq_some_iff.1 h2
        have e2 := up_keeps _ h3
        have e1 := lay_keeps h1
        rw [e1] at e2
        exact e2
      · cases h; rfl
  · cases h
theorem unset_keeps : ∀ (l : List Int) {s s' : St}, unsetL s l = some s' → s'.trail = s.trail ∧ s'.limits = s.limits
  | [], s, s', h => by cases h; exact ⟨rfl, rfl⟩
  | n :: r, s, s', h => by
    unfold unsetL at h
    split at h
    · cases h
    · split at h
      · cases h
      · obtain ⟨vs, _, h1⟩ := Option.bind_eq_some_iff.1 h
        obtain ⟨s1, h2, h3⟩ := Option.bind_eq_some_iff.1 h1
        have e1 := push_keeps h2
        obtain ⟨e2, e3⟩ := unset_keeps r h3
        rw [e1] at e2 e3
        exact ⟨e2, e3⟩
set_option maxRecDepth 100000 in
set_option maxHeartbeats 1000000 in
theorem back_calls (h : SolverAt w R p s) (q : Int) (hs : backF s q = some s') : Calls Try.prog 22 #[.pointer (some ⟨p, 0, none⟩), .int .i64 q] w (SPo BackT R w p (.tuple #[]) s') := by
  have h0 := h
  obtain ⟨ids, vv, hv, pv, lv, tv, mv, bm, kvs, H⟩ := h
  have HS := Lib.hid H
  obtain ⟨c0, c1, c2, c3, c4, c5, c6, c7, c8, c9, c10, c11⟩ := H.cells
  have HLv := Lib.hid (level_calls h0)
  unfold backF at hs
  by_cases hl : levelF s ≤ q
  · rw [if_pos hl] at hs
    cases hs
    have Hh := Lib.hid h0
    have e0 : decide (levelF s ≤ q) = true := by simpa using hl
    clear H h0 hl
    go_enter Try.func22, Try.ntmps22
    go_wp2_with fail
    refine HLv.out.mono ?_
    rintro e w2 ⟨rfl, hf⟩
    have HF := Lib.hid hf
    clear hf
    dsimp only
    go_wp2
    go_end0
    exact ⟨rfl, R, Hh.out.frm0 HF.out, SMov.of0 HF.out⟩
  · rw [if_neg hl] at hs
    split at hs
    case h_1 => cases hs
    rename_i lim hlim
    split at hs
    case isTrue => cases hs
    rename_i hc
    obtain ⟨L, rfl⟩ : ∃ L : Nat, lim = L := ⟨lim.toNat, by omega⟩
    obtain ⟨s1, hu, hss⟩ := Option.map_eq_some_iff.1 hs
    obtain ⟨k, rfl, hk, hkl⟩ := nth_get hlim
    obtain ⟨gm, cm, rfl, _, hmm, xm, _⟩ := row_at H.limits hkl
    rw [Option.some.inj ((List.getElem?_eq_getElem hkl).symm.trans hk)] at xm
    have hL : L ≤ s.trail.length := by omega
    have ht0 : 0 < s.trail.length := by omega
    obtain ⟨gt, ct, rfl, _, hmt, _, _⟩ := row_at H.trail ht0
    have hLI : (L : Int) ≤ (s.trail.length : Int) := by omega
    have hkI : (k : Int) < (s.limits.length : Int) := by omega
    have e0 : decide (levelF s ≤ (k : Int)) = false := by simpa using hl
    have HU := Lib.hid hu
    have HSs := Lib.hid hss
    have HH := Lib.hid h0
    have HK := Lib.hid hk
    have HKL := Lib.hid hkl
    clear H h0 hl hs hu hss hlim hk hc
    go_enter Try.func22, Try.ntmps22
    go_wp2_with fail
    refine HLv.out.mono ?_
    rintro e w2 ⟨rfl, hf⟩
    have HF := Lib.hid hf
    have c5 := frm_cell hf c5
    have c6 := frm_cell hf c6
    have xm := frm_cell hf xm
    clear hf HLv
    dsimp only
    go_wp2_with fail
    go_quiet (fail)
    obtain ⟨A, hA⟩ : ∃ A, A = (if ct = L then some (⟨gt, 0, none⟩ : Addr) else some ⟨gt, L, none⟩) := ⟨_, rfl⟩
    rw [← hA]
    have HA := Lib.hid hA
    clear hA
    go_wp2_with fail
    have hml : s.trail.length ≤ 9223372036854775807 := hmt
    have Hgt := Lib.hid (HS.out.rtrail gt rfl)
    have Hb := Lib.hid ((HS.out.frm0 HF.out).trail)
    have hgl : gt < w2.heap.size := Nat.lt_of_lt_of_le (HS.out.lt gt _ Hgt.out) HF.out.size
    have Hgl := Lib.hid hgl
    have HLL := Lib.hid hL
    clear c0 c1 c2 c3 c4 c5 c6 c7 c8 c9 c10 c11 xm hmm hmt hkI e0 hLI hgl hL
    go_loopw [23] (fun v23 w' => ∃ j : Nat, v23 = .int .i64 j ∧ j ≤ s.trail.length - L ∧ ∃ sj Rj, Hid (unsetL sj ((s.trail.drop L).drop j) = some s1) ∧ Hid (SolverAt w' Rj p sj) ∧ Hid (SMov UnT R w Rj w')) (fun v23 _ => s.trail.length - L - (intOf v23).toNat)
    case atStart => exact ⟨0, rfl, by omega, s, R, HU, Lib.hid (HH.out.frm0 (HF.out.drewN _)), Lib.hid (SMov.of0 (HF.out.drewN _))⟩
    case round =>
      obtain ⟨j, rfl, hj, sj, Rj, HUj, HSj, HMj⟩ := hrel
      by_cases hjl : j < s.trail.length - L
      · have hjI : (j : Int) < ((s.trail.length - L : Nat) : Int) := by omega
        have hA : A = some ⟨gt, L, none⟩ := by
          rw [HA.out]
          refine if_neg fun e => ?_
          have := HLL.out
          rcases Hb.out.shape with ⟨e1, _⟩ | ⟨_, _, e1, _, h1, _⟩
          · cases e1
          · cases e1; omega
        have hx : (s.trail.drop L)[j]? = some s.trail[L + j] := by rw [List.getElem?_drop, List.getElem?_eq_getElem]
        obtain ⟨m, hm⟩ : ∃ m, m = s.trail[L + j] := ⟨_, rfl⟩
        have xj : wr.cell? ⟨gt, L + j, none⟩ = some (iI m) := by
          have hb := HMj.out.keep (Nat.lt_of_lt_of_le (HS.out.lt gt _ Hgt.out) (Nat.le_refl _)) (fun r hr ht => by
            rw [Hgt.out] at hr; cases hr
            rcases ht with ht | ht | ht | ht <;> cases ht)
          rcases HS.out.trail.shape with ⟨e1, _⟩ | ⟨_, _, e1, _, _, _, hc, _⟩
          · cases e1
          · cases e1
            have := hc (L + j) _ (List.getElem?_eq_getElem (by omega))
            rw [hm, ← this]
            simp only [World.cell?, hb]
        have e := HUj.out
        rw [List.drop_eq_getElem_cons (by simp; omega)] at e
        have hm2 : (s.trail.drop L)[j]'(by simp; omega) = m := by rw [hm, List.getElem_drop]
        rw [hm2] at e
        unfold unsetL at e
        split at e
        case isTrue => cases e
        rename_i hsm
        split at e
        case h_1 => cases e
        rename_i v hv1
        obtain ⟨vs, hvs, e1⟩ := Option.bind_eq_some_iff.1 e
        obtain ⟨s2, hpu, hur⟩ := Option.bind_eq_some_iff.1 e1
        obtain ⟨ids2, vv2, hv2, pv2, lv2, tv2, mv2, bm2, kvs2, H2⟩ := HSj.out
        have HS2 := Lib.hid H2
        obtain ⟨c0, _⟩ := H2.cells
        obtain ⟨a, g, cc, hk, hkl, hml2, rfl, hrg, x0, _⟩ := fact_cells H2 hv1
        have hz : wr.frozen? ⟨g, a * 5, none⟩ = false := by
          rcases H2.vars.shape with ⟨e, _⟩ | ⟨_, _, e, _, _, _, _, _, hz⟩
          · cases e
          · cases e; exact hz _
        have HO := Lib.hid (fun w1 => of_calls w1 m (sml_of (by simpa using hsm)))
        rw [hk] at HO
        have haI : (a : Int) < (sj.vars.length : Int) := by omega
        obtain ⟨k', e2, e3, hvs'⟩ := setN_get hvs
        have hkk : k' = a := by omega
        subst hkk
        have HVS := Lib.hid hvs'
        obtain ⟨k2, e4, ha2, _⟩ := nth_get hv1
        have hkk : k2 = k' := by omega
        subst hkk
        have HV := Lib.hid ha2
        rw [hk] at hpu
        have HP := Lib.hid hpu
        have HR := Lib.hid hur
        clear H2 hv1 hvs e e1 hpu hur hk hsm hkl hml2 e2 e3 e4 hvs' ha2 hm2 hm hx
        subst hA
        go_wp2_with fail
        refine Plan.wp_region_plan [0, 1, 3, 7, 0, 16, 63, 127, 255] [.mk [0, 1, 2, 3, 4] 5 [0, 1, 2, 3], .mk [6, 7] 8 []] [] (by kernel_rfl) (by kernel_rfl) ?_
        simp only [Plan.wayOf, Plan.pickAll, List.getElem?_cons_zero, List.getElem?_cons_succ, List.getD_eq_getElem?_getD, Option.getD_some]
        refine Plan.wpWay_seg ?_
        repeat go_big_quiet_step (fail)
        refine wpQuiet_nil ?_; refine Plan.wpWay_act ?_
        go_wp2_with fail
        refine (HO.out _).mono ?_
        rintro e w1 ⟨rfl, hf⟩
        have HF1 := Lib.hid (show Frm (fun _ => False) wr w1 from frm_then (Frm.refl _ _).drew hf)
        have c0 := frm_cell HF1.out c0
        have hz := frm_free HF1.out x0 hz
        have x0 := frm_cell HF1.out x0
        clear hf
        dsimp only
        go_wp2_with fail
        refine And.intro ?_ ?_; focus ((iterate 4 (refine Plan.again_cons ?_ ?_; focus (go_big_quiet_step (fail); exact wpQuiet_nil rfl))); exact Plan.again_nil)
        refine Plan.wpWay_seg ?_
        repeat go_big_quiet_step (fail)
        refine wpQuiet_nil ?_; refine Plan.wpWay_act ?_
        go_wp2_with (fail)
        refine And.intro Plan.again_nil ?_
        refine Plan.wpWay_last ?_
        refine wpQuiet_nil ?_; refine NoPanic.normal ?_
        obtain ⟨w4, hw4⟩ : ∃ w4, w4 = w1.setCell ⟨g, k2 * 5, none⟩ (.int .i64 0) := ⟨_, rfl⟩
        rw [← hw4]
        have r1 := srow_cell (HS2.out.frm0 HF1.out).vars HV.out (j := 0) (by omega) (x' := { v with lit := 0 }) (u := .int .i64 0) rfl
        rw [← HVS.out] at r1
        have hF4 : Frm (fun b => Rj b = some .vars) w1 w4 := by
          rw [hw4]
          exact (Frm.refl _ w1).set (.inl hrg) _
        have H4 := (HS2.out.frm0 HF1.out).in_vars hF4 (x' := vs) (by rw [hw4]; exact r1) (by
          intro y hy c hc
          rw [HVS.out] at hy
          rcases List.mem_or_eq_of_mem_set hy with hy | hy
          · exact HS2.out.refs.1 y hy c hc
          · subst hy; exact HS2.out.refs.1 v (List.mem_of_getElem? HV.out) c hc)
        have HM4 := Lib.hid ((HMj.out.trans (SMov.of0 HF1.out)).trans ⟨hF4.mono fun b _ hb => ⟨_, hb, .inl rfl⟩, fun _ _ h => h, fun _ h => .inl h⟩)
        have HS4 := Lib.hid (show SolverAt w4 Rj p _ from ⟨_, _, _, _, _, _, _, _, _, H4⟩)
        clear hw4 r1 hF4 H4 c0 x0 hz xj HUj HSj HMj hrg HS2
        go_wp2_with fail
        refine (HO.out _).mono ?_
        rintro e w5 ⟨rfl, hf⟩
        have HM5 := Lib.hid (HM4.out.trans (SMov.of0 hf))
        have HS5 := Lib.hid (HS4.out.frm0 hf)
        clear hf HM4 HS4
        dsimp only
        go_wp2_with fail
        refine (push_calls HS5.out _ HP.out).mono ?_
        rintro e w6 ⟨rfl, R6, HS6, HM6⟩
        have HM7 := Lib.hid (HM5.out.trans (HM6.mono fun r hr => .inr hr))
        have HS7 := Lib.hid HS6
        clear HS6 HM6
        dsimp only
        go_wp2
        go_roundw
        case rel => exact ⟨j + 1, rfl, by omega, s2, R6, Lib.hid (by rw [← List.drop_drop] at *; exact HR.out), HS7, HM7⟩
        case measure => simp only [intOf]; omega
      · have hjI : ¬ (j : Int) < ((s.trail.length - L : Nat) : Int) := by omega
        have e := HUj.out
        rw [List.drop_eq_nil_of_le (by simp; omega)] at e
        cases e
        obtain ⟨ids2, vv2, hv2, pv2, lv2, tv2, mv2, bm2, kvs2, H2⟩ := HSj.out
        obtain ⟨kt, kl⟩ := unset_keeps _ HU.out
        have ktl : s1.trail.length = s.trail.length := by rw [kt]
        have kll : s1.limits.length = s.limits.length := by rw [kl]
        obtain ⟨g2, e2, rfl, _, hm2, _, _⟩ := row_at H2.trail (k := 0) (by omega)
        obtain ⟨g3, e3, rfl, _, hm3, x3, _⟩ := row_at H2.limits (k := k) (by rw [kll]; exact HKL.out)
        have hx3 : s1.limits[k]'(by rw [kll]; exact HKL.out) = (L : Int) := by
          have := HK.out
          rw [← kl] at this
          exact Option.some.inj ((List.getElem?_eq_getElem _).symm.trans this)
        rw [hx3] at x3
        rw [ktl] at H2 hm2
        rw [kll] at H2 hm3
        have H3 := H2.frm0 (Frm.refl _ wr).drew
        obtain ⟨HC, HCM⟩ := H3.cut_trail (k := L) (by rw [ktl]; exact HLL.out)
        obtain ⟨_, _, _, _, _, c5, c6, _⟩ := H2.cells
        have z5 : wr.frozen? ⟨p, 5, none⟩ = false := blk_free H2.box 5
        have hLI : (L : Int) ≤ (s.trail.length : Int) := by have := HLL.out; omega
        have hkI : (k : Int) < (s.limits.length : Int) := by have := HKL.out; omega
        have hLc : L ≤ e2 := by have := (row_cap H2.trail).1; have := HLL.out; omega
        have hLcI : (L : Int) ≤ (e2 : Int) := by omega
        have HC1 := Lib.hid HC
        have HM1 := Lib.hid (((HMj.out.mono (T' := BackT) fun r hr => .inl hr).trans (SMov.of0 ((Frm.refl _ wr).drew))).trans (HCM.mono fun r hr => hr.elim (fun e => .inr (.inl e)) fun e => .inl (.inr (.inr (.inr e)))))
        clear H2 H3 HC HCM HUj HMj HSj HS HH hx3 hj hLc
        go_wp2_with fail
        refine Plan.wp_region_plan [0, 0, 2, 6, 14, 0, 32, 96, 224, 0, 992, 2016, 4094, 8191, 16383, 32767] [.mk [0, 1, 2, 3, 4, 5, 6, 7, 8, 9, 10, 11, 12, 13, 14] 15 []] [] (by kernel_rfl) (by kernel_rfl) ?_
        simp only [Plan.wayOf, Plan.pickAll, List.getElem?_cons_zero, List.getElem?_cons_succ, List.getD_eq_getElem?_getD, Option.getD_some]
        refine Plan.wpWay_seg ?_
        repeat go_big_quiet_step (fail)
        refine wpQuiet_nil ?_; refine Plan.wpWay_act ?_
        go_wp2_with (fail)
        refine And.intro Plan.again_nil ?_
        refine Plan.wpWay_last ?_
        refine wpQuiet_nil ?_; refine NoPanic.normal ?_
        obtain ⟨w7, hw7⟩ : ∃ w7, w7 = (wr.setCell ⟨p, 5, none⟩ (.slice (some ⟨g2, 0, none⟩) L e2)).drew := ⟨_, rfl⟩
        rw [← hw7]
        obtain ⟨R7, hR7⟩ : ∃ R7, R7 = upd Rj g2 .trail := ⟨_, rfl⟩
        rw [← hR7] at HC1 HM1
        have H7 := HC1.out
        rw [show wr.drew.setCell ⟨p, 5, none⟩ (.slice (some ⟨g2, 0, none⟩) L e2) = w7 from hw7.symm] at H7
        have HM7 : Hid (SMov BackT R w R7 w7) := Lib.hid (by rw [hw7]; exact HM1.out)
        clear hw7 hR7 HC1 HM1 c5 c6 z5 x3
        obtain ⟨HC, HCM⟩ := H7.cut_limits (k := k) (by rw [show (St.limits _) = s1.limits from rfl, kl]; omega)
        obtain ⟨_, _, _, _, _, c5, c6, c7, _⟩ := H7.cells
        have z6 : ∀ i, w7.frozen? ⟨p, i, none⟩ = false := fun i => blk_free H7.box i
        have hkcI : (k : Int) ≤ (e3 : Int) := by
          have h1 := (row_cap H7.limits).1
          rw [show (St.limits _) = s1.limits from rfl, kl] at h1
          omega
        have hkcN : k ≤ e3 := by omega
        have HC1 := Lib.hid HC
        have HM8 := Lib.hid (HM7.out.trans (HCM.mono fun r hr => hr.elim (fun e => .inr (.inr e)) fun e => .inl (.inr (.inr (.inr e)))))
        clear H7 HC HCM HM7 hkcN
        go_wp2
        go_end0
        obtain ⟨HE, HEM⟩ := HC1.out.tell_head (L : Int)
        refine ⟨rfl, _, ⟨_, _, _, _, _, _, _, _, _, by rw [← HSs.out]; exact HE⟩, HM8.out.trans (HEM.mono fun r hr => .inl (.inr (.inr (.inr hr))))⟩
end
end SaW
end Go.Proofs.Ytfpjfogddepbkaa
/- Who watches: a solver's map; and its clauses' blocks. -/
namespace Go.Proofs.Ytfpjfogddepbkaa
open Go.RowKit Go.Mem Go.Sat
namespace SaW
theorem mget_pair : ∀ {kvs : List (Int × Value)} {ws : List (Int × List Nat)}, kvs.map (·.1) = ws.map (·.1) → ∀ k, (mget kvs k = none ∧ mget ws k = none) ∨ ∃ (i : Nat) (v : Value) (l : List Nat), mget kvs k = some v ∧ mget ws k = some l ∧ kvs[i]? = some (k, v) ∧ ws[i]? = some (k, l)
  | [], [], _, k => .inl ⟨rfl, rfl⟩
  | [], _ :: _, h, _ => by simp at h
  | _ :: _, [], h, _ => by simp at h
  | (a, v) :: m, (b, l) :: ws, h, k => by
    simp only [List.map_cons, List.cons.injEq] at h
    obtain ⟨rfl, h⟩ := h
    by_cases hak : a = k
    · subst hak
      exact .inr ⟨0, v, l, by simp [mget], by simp [mget], rfl, rfl⟩
    · rcases mget_pair h k with ⟨h1, h2⟩ | ⟨i, v', l', h1, h2, h3, h4⟩
      · exact .inl ⟨by simp [mget, hak, h1], by simp [mget, hak, h2]⟩
      · exact .inr ⟨i + 1, v', l', by simp [mget, hak, h1], by simp [mget, hak, h2], by simpa using h3, by simpa using h4⟩
theorem mput_keys {V W : Type} (k : Int) (u : V) (l : W) : ∀ {kvs : List (Int × V)} {ws : List (Int × W)}, kvs.map (·.1) = ws.map (·.1) → (mput kvs k u).map (·.1) = (mput ws k l).map (·.1)
  | [], [], _ => rfl
  | [], _ :: _, h => by simp at h
  | _ :: _, [], h => by simp at h
  | (a, v) :: m, (b, x) :: ws, h => by
    simp only [List.map_cons, List.cons.injEq] at h
    obtain ⟨rfl, h⟩ := h
    by_cases hak : a = k
    · simp [mput, hak, h]
    · simp [mput, hak, mput_keys k u l h]
theorem mput_mem {V : Type} (k : Int) (u : V) : ∀ {m : List (Int × V)} {x : Int}, x ∈ (mput m k u).map (·.1) → x = k ∨ x ∈ m.map (·.1)
  | [], x, h => by simp [mput] at h; exact .inl h
  | (a, v) :: m, x, h => by
    by_cases hak : a = k
    · subst hak
      simp [mput] at h
      rcases h with h | h
      · exact .inl h
      · exact .inr (by simp; exact .inr h)
    · simp only [mput, hak, if_false, List.map_cons, List.mem_cons] at h ⊢
      rcases h with h | h
      · exact .inr (.inl h)
      · exact (mput_mem k u h).imp id .inr
theorem mput_nodup {V : Type} (k : Int) (u : V) : ∀ {m : List (Int × V)}, (m.map (·.1)).Nodup → ((mput m k u).map (·.1)).Nodup
  | [], _ => by simp [mput]
  | (a, v) :: m, h => by
    simp only [List.map_cons, List.nodup_cons] at h
    by_cases hak : a = k
    · subst hak
      simp only [mput, if_true, List.map_cons, List.nodup_cons]
      exact h
    · simp only [mput, hak, if_false, List.map_cons, List.nodup_cons]
      refine ⟨fun hm => ?_, mput_nodup k u h.2⟩
      rcases mput_mem k u hm with h1 | h1
      · exact hak h1
      · exact h.1 h1
theorem mput_pair (k : Int) (u : Value) (l' : List Nat) : ∀ {kvs : List (Int × Value)} {ws : List (Int × List Nat)}, kvs.map (·.1) = ws.map (·.1) → (ws.map (·.1)).Nodup → ∀ (i : Nat) (n : Int) (v : Value) (l : List Nat), (mput kvs k u)[i]? = some (n, v) → (mput ws k l')[i]? = some (n, l) → (n = k ∧ v = u ∧ l = l') ∨ (n ≠ k ∧ kvs[i]? = some (n, v) ∧ ws[i]? = some (n, l))
  | [], [], _, _, i, n, v, l, h1, h2 => by
    cases i with
    | zero => simp [mput] at h1 h2; exact .inl ⟨h1.1.symm, h1.2.symm, h2.2.symm⟩
    | succ i => simp [mput] at h1
  | [], _ :: _, h, _, _, _, _, _, _, _ => by simp at h
  | _ :: _, [], h, _, _, _, _, _, _, _ => by simp at h
  | (a, x) :: m, (b, y) :: ws, h, hn, i, n, v, l, h1, h2 => by
    simp only [List.map_cons, List.cons.injEq, List.nodup_cons] at h hn
    obtain ⟨rfl, h⟩ := h
    by_cases hak : a = k
    · subst hak
      simp only [mput, if_true] at h1 h2
      cases i with
      | zero => simp at h1 h2; exact .inl ⟨h1.1.symm, h1.2.symm, h2.2.symm⟩
      | succ i =>
        simp only [List.getElem?_cons_succ] at h1 h2
        refine .inr ⟨fun e => ?_, by simpa using h1, by simpa using h2⟩
        subst e
        exact hn.1 (List.mem_map.2 ⟨_, List.mem_of_getElem? h2, rfl⟩)
    · simp only [mput, hak, if_false] at h1 h2
      cases i with
      | zero =>
        simp at h1 h2
        refine .inr ⟨fun e => hak (h1.1.trans e), by simpa using h1, by simpa using h2⟩
      | succ i =>
        simp only [List.getElem?_cons_succ] at h1 h2 ⊢
        exact mput_pair k u l' h hn.2 i n v l h1 h2
theorem mput_all (k : Int) (l' : List Nat) (n : Nat) : ∀ {ws : List (Int × List Nat)}, (∀ x ∈ ws, ∀ c ∈ x.2, c < n) → (∀ c ∈ l', c < n) → ∀ x ∈ mput ws k l', ∀ c ∈ x.2, c < n
  | [], _, h2, x, hx, c, hc => by
    simp [mput] at hx
    subst hx
    exact h2 c hc
  | (a, y) :: ws, h1, h2, x, hx, c, hc => by
    by_cases hak : a = k
    · simp only [mput, hak, if_true, List.mem_cons] at hx
      rcases hx with rfl | hx
      · exact h2 c hc
      · exact h1 x (List.mem_cons_of_mem _ hx) c hc
    · simp only [mput, hak, if_false, List.mem_cons] at hx
      rcases hx with rfl | hx
      · exact h1 _ List.mem_cons_self c hc
      · exact mput_all k l' n (fun x hx => h1 x (List.mem_cons_of_mem _ hx)) h2 x hx c hc
section
variable {w w' : World} {R R' : Nat → Option Role} {p : Nat} {s : St} {ids : List Nat} {vv hv pv lv tv mv : Value} {bm : Nat} {kvs : List (Int × Value)}
def nilS : Value := .slice none 0 0
/-- Who watches a literal, looked up. -/
theorem SRep.row_of (h : SRep w R p s ids vv hv pv lv tv mv bm kvs) (k : Int) : WRow w 58 (encC ids) (mval nilS vid kvs k) (Sat.watched s k) ∧ (∀ g, (mval nilS vid kvs k).ownBlock = some g → R g = some (.wrow k)) ∧ ∀ c ∈ Sat.watched s k, c < s.cls.length := by
  rcases mget_pair h.keys k with ⟨h1, h2⟩ | ⟨i, v, l, h1, h2, h3, h4⟩
  · unfold mval Sat.watched
    rw [h1, h2]
    exact ⟨.inl (Row.nil _ _ _), fun g e => (by cases e), fun c hc => (by simp at hc)⟩
  · unfold mval Sat.watched
    rw [h1, h2]
    exact ⟨(h.rows i k v l h3 h4).1, (h.rows i k v l h3 h4).2, fun c hc => h.refs.2.1 _ (List.mem_of_getElem? h4) c hc⟩
theorem SRep.put_watch {k : Int} {u : Value} {l' : List Nat} (h : SRep w R p s ids vv hv pv lv tv mv bm kvs) (hf : Frm (fun b => R b = some (.wrow k) ∨ R b = some .map) w w') (hm : MapAt w' bm iI vid (mput kvs k u)) (hrow : WRow w' 58 (encC ids) u l') (hR : ∀ b r, R b = some r → R' b = some r) (hR2 : ∀ b r, R' b = some r → R b = some r ∨ (r = .wrow k ∧ b < w'.heap.size)) (hu : ∀ g, u.ownBlock = some g → R' g = some (.wrow k)) (hrefs : ∀ c ∈ l', c < s.cls.length) :
    SRep w' R' p { s with watches := mput s.watches k l' } ids vv hv pv lv tv mv bm (mput kvs k u) := by
  have no : ∀ {b : Nat} {r : Role}, R b = some r → r ≠ .wrow k → r ≠ .map → ¬ (R b = some (.wrow k) ∨ R b = some .map) := fun h1 h2 h3 e => by
    rcases e with e | e
    · exact h2 (Option.some.inj (h1.symm.trans e))
    · exact h3 (Option.some.inj (h1.symm.trans e))
  refine ⟨blk_frm h.box hf (no h.rme (fun e => by cases e) (fun e => by cases e)),
    h.vars.frm hf fun g hg => no (h.rvars g hg) (fun e => by cases e) (fun e => by cases e),
    h.heap.frm hf fun g hg => no (h.rheap g hg) (fun e => by cases e) (fun e => by cases e),
    h.place.frm hf fun g hg => no (h.rplace g hg) (fun e => by cases e) (fun e => by cases e),
    h.learnt.frm hf fun g hg => no (h.rlearnt g hg) (fun e => by cases e) (fun e => by cases e),
    h.trail.frm hf fun g hg => no (h.rtrail g hg) (fun e => by cases e) (fun e => by cases e),
    h.limits.frm hf fun g hg => no (h.rlimits g hg) (fun e => by cases e) (fun e => by cases e),
    hm, mput_keys k u l' h.keys, fun i n v l h1 h2 => ?_, h.idl, fun c x hx => ?_,
    hR _ _ h.rme, fun g hg => hR _ _ (h.rvars g hg), fun g hg => hR _ _ (h.rheap g hg), fun g hg => hR _ _ (h.rplace g hg), fun g hg => hR _ _ (h.rlearnt g hg), fun g hg => hR _ _ (h.rtrail g hg), fun g hg => hR _ _ (h.rlimits g hg), hR _ _ h.rmap,
    fun b r hb => (hR2 b r hb).elim (fun h1 => Nat.lt_of_lt_of_le (h.lt b r h1) hf.size) fun h1 => h1.2, ⟨h.refs.1, mput_all k l' _ h.refs.2.1 hrefs, h.refs.2.2⟩, mput_nodup k l' h.wnd, fun b c hb => ?_⟩
  · rcases mput_pair k u l' h.keys h.wnd i n v l h1 h2 with ⟨rfl, rfl, rfl⟩ | ⟨hne, h3, h4⟩
    · exact ⟨hrow, hu⟩
    · obtain ⟨h5, h6⟩ := h.rows i n v l h3 h4
      exact ⟨h5.frm hf fun g hg => no (h6 g hg) (fun e => hne (by injection e)) (fun e => by cases e), fun g hg => hR _ _ (h6 g hg)⟩
  · obtain ⟨b, v, h1, h2, h3, h4, h5⟩ := h.cls c x hx
    exact ⟨b, v, h1, hR _ _ h2, blk_frm h3 hf (no h2 (fun e => by cases e) (fun e => by cases e)), h4.frm hf fun g hg => no (h5 g hg) (fun e => by cases e) (fun e => by cases e), fun g hg => hR _ _ (h5 g hg)⟩
  · rcases hR2 b _ hb with h1 | ⟨h1, _⟩
    · exact h.onec b c h1
    · cases h1
/-- A clause's cells. -/
theorem SRep.cl_at (h : SRep w R p s ids vv hv pv lv tv mv bm kvs) {b c : Nat} (hb : R b = some (.cl c)) : ∃ x v, s.cls[c]? = some x ∧ w.heap[b]? = some (.cells #[v, .bool x.learnt, .int .i64 x.score] 62) ∧ Row w 3 iI v x.lits ∧ ∀ g, v.ownBlock = some g → R g = some (.lits c) := by
  have hi := h.onec b c hb
  have hlt : c < s.cls.length := by rw [← h.idl]; exact (List.getElem?_eq_some_iff.1 hi).1
  obtain ⟨b', v, h1, h2, h3, h4, h5⟩ := h.cls c _ (List.getElem?_eq_getElem hlt)
  have : b' = b := Option.some.inj (h1.symm.trans hi)
  subst this
  exact ⟨_, v, List.getElem?_eq_getElem hlt, h3, h4, h5⟩
/-- A clause's own block and its literals written. -/
theorem SRep.in_cl {b c : Nat} {x' : Cl} {v' : Value} (h : SRep w R p s ids vv hv pv lv tv mv bm kvs) (hb : R b = some (.cl c)) (hf : Frm (fun b => R b = some (.cl c) ∨ R b = some (.lits c)) w w') (hbox : w'.heap[b]? = some (.cells #[v', .bool x'.learnt, .int .i64 x'.score] 62)) (hrow : Row w' 3 iI v' x'.lits) (hv' : ∀ g, v'.ownBlock = some g → R g = some (.lits c)) :
    SRep w' R p { s with cls := s.cls.modify c fun _ => x' } ids vv hv pv lv tv mv bm kvs := by
  have no : ∀ {b : Nat} {r : Role}, R b = some r → r ≠ .cl c → r ≠ .lits c → ¬ (R b = some (.cl c) ∨ R b = some (.lits c)) := fun h1 h2 h3 e => by
    rcases e with e | e
    · exact h2 (Option.some.inj (h1.symm.trans e))
    · exact h3 (Option.some.inj (h1.symm.trans e))
  have hi := h.onec b c hb
  refine ⟨blk_frm h.box hf (no h.rme (fun e => by cases e) (fun e => by cases e)),
    h.vars.frm hf fun g hg => no (h.rvars g hg) (fun e => by cases e) (fun e => by cases e),
    h.heap.frm hf fun g hg => no (h.rheap g hg) (fun e => by cases e) (fun e => by cases e),
    h.place.frm hf fun g hg => no (h.rplace g hg) (fun e => by cases e) (fun e => by cases e),
    h.learnt.frm hf fun g hg => no (h.rlearnt g hg) (fun e => by cases e) (fun e => by cases e),
    h.trail.frm hf fun g hg => no (h.rtrail g hg) (fun e => by cases e) (fun e => by cases e),
    h.limits.frm hf fun g hg => no (h.rlimits g hg) (fun e => by cases e) (fun e => by cases e),
    h.map.frm hf (no h.rmap (fun e => by cases e) (fun e => by cases e)), h.keys, fun i n v l h1 h2 => ⟨(h.rows i n v l h1 h2).1.frm hf fun g hg => no ((h.rows i n v l h1 h2).2 g hg) (fun e => by cases e) (fun e => by cases e), (h.rows i n v l h1 h2).2⟩,
    by simpa using h.idl, fun d y hy => ?_, h.rme, h.rvars, h.rheap, h.rplace, h.rlearnt, h.rtrail, h.rlimits, h.rmap, fun b r hb => Nat.lt_of_lt_of_le (h.lt b r hb) hf.size, by simpa using h.refs, h.wnd, h.onec⟩
  by_cases hd : c = d
  · subst hd
    rw [List.getElem?_modify_eq] at hy
    obtain ⟨x, _, rfl⟩ := Option.map_eq_some_iff.1 hy
    exact ⟨b, v', hi, hb, hbox, hrow, hv'⟩
  · rw [List.getElem?_modify_ne _ _ hd] at hy
    obtain ⟨b', v, h1, h2, h3, h4, h5⟩ := h.cls d y hy
    exact ⟨b', v, h1, h2, blk_frm h3 hf (no h2 (fun e => hd (by injection e with e; exact e.symm)) (fun e => by cases e)), h4.frm hf fun g hg => no (h5 g hg) (fun e => by cases e) (fun e => hd (by injection e with e; exact e.symm)), h5⟩
end
end SaW
end Go.Proofs.Ytfpjfogddepbkaa
/- A clause watched, walked: watch. -/
namespace Go.Proofs.Ytfpjfogddepbkaa
open Go.RowKit Go.Mem Go.Sat
namespace SaW
theorem info_cp : (Try.prog.info? 58).map (fun i => (i.zero, i.size, i.bytes)) = some (some (.pointer none), 1, 8) := by kernel_rfl
theorem keyInt : KeyEnc Try.prog 3 iI := keyEnc_int Try.underlying3
theorem zeroL (w : World) : (zeroValue 47).run Try.prog w = .ok nilS w := by
  have e : (Try.prog.info? 47).map (fun i => i.zero) = some (some nilS) := by kernel_rfl
  obtain ⟨i, h1, h2⟩ := Option.map_eq_some_iff.1 e
  simp [zeroValue, typeInfo, h1, h2]
theorem encC_one (ids : List Nat) (c : Nat) : (encC ids c).oneCell' = true := rfl
theorem put_keeps {s s' : St} {k : Int} {c : Nat} (h : putW s k c = some s') : s' = { s with watches := s'.watches } ∧ smlB k = true ∧ (Sat.watched s k).length ≤ 1099511627776 ∧ s' = { s with watches := mput s.watches k (Sat.watched s k ++ [c]) } := by
  unfold putW at h
  split at h
  · rename_i hc
    rw [Bool.and_eq_true] at hc
    cases h
    exact ⟨rfl, hc.1, room_of hc.2, rfl⟩
  · cases h
def watchL (s : St) (c : Nat) : List Int → Option St
  | [] => some s
  | m :: r => (putW s (-m) c).bind fun s1 => watchL s1 c r
/-- What watch writes. -/
def WatchT (r : Role) : Prop := r = .map ∨ ∃ k, r = .wrow k
section
variable {w : World} {R : Nat → Option Role} {p : Nat} {s s' : St}
/-- One more that watches: the append, then the map. -/
theorem SRep.watch1 {w w7 w8 : World} {R : Nat → Option Role} {p : Nat} {s : St} {ids : List Nat} {vv hv pv lv tv mv : Value} {bm : Nat} {kvs : List (Int × Value)} (h : SRep w R p s ids vv hv pv lv tv mv bm kvs) {k : Int} {c g cap n : Nat} (hc : c < s.cls.length)
    (hrow : Row w7 58 (encC ids) (.slice (some ⟨g, 0, none⟩) n cap) (Sat.watched s k ++ [c])) (hf : Frm (fun b => (mval nilS vid kvs k).ownBlock = some b) w w7) (hg : (mval nilS vid kvs k).ownBlock = some g ∨ w.heap.size ≤ g) (hlt : g < w7.heap.size)
    (hm : MapAt w8 bm iI vid (mput kvs k (.slice (some ⟨g, 0, none⟩) n cap))) (hg8 : w7.grownBy w8 (some bm)) :
    SRep w8 (upd R g (.wrow k)) p { s with watches := mput s.watches k (Sat.watched s k ++ [c]) } ids vv hv pv lv tv mv bm (mput kvs k (.slice (some ⟨g, 0, none⟩) n cap)) ∧ SMov (fun r => r = .map ∨ r = .wrow k) R w (upd R g (.wrow k)) w8 := by
  obtain ⟨h1, h2, h3⟩ := h.row_of k
  have hgr : R g = none ∨ R g = some (.wrow k) := hg.elim (fun e => .inr (h2 g e)) fun e => .inl (none_of h e)
  have hne : g ≠ bm := fun e => by
    subst e
    rcases hg with e | e
    · have := h2 _ e
      rw [h.rmap] at this
      cases this
    · rw [none_of h e] at *
      have := h.rmap
      rw [none_of h e] at this
      cases this
  have hf8 : Frm (fun b => R b = some (.wrow k) ∨ R b = some .map) w w8 := (hf.mono fun b _ hb => .inl (h2 b hb)).grown hg8 fun b hb => .inl (.inr (by cases hb; exact h.rmap))
  have hlt8 : g < w8.heap.size := Nat.lt_of_lt_of_le hlt hg8.size
  have hrow8 : Row w8 58 (encC ids) (.slice (some ⟨g, 0, none⟩) n cap) (Sat.watched s k ++ [c]) := hrow.frm (Frm.of_grown hg8) fun g' e => by cases e; exact fun e => hne (Option.some.inj e).symm
  refine ⟨h.put_watch hf8 hm (.inl hrow8) (fun b r hb => upd_old hb hgr) (fun b r hb => ?_) (fun g' e => by cases e; exact upd_at _ _ _) (fun d hd => ?_), hf8.mono fun b _ hb => ?_, fun b r hb => upd_old hb hgr, fun b hb => ?_⟩
  · unfold upd at hb
    split at hb
    · rename_i e
      subst e
      cases hb
      exact .inr ⟨rfl, hlt8⟩
    · exact .inl hb
  · rcases List.mem_append.1 hd with hd | hd
    · exact h3 d hd
    · rw [List.mem_singleton.1 hd]; exact hc
  · rcases hb with hb | hb
    · exact ⟨_, hb, .inr rfl⟩
    · exact ⟨_, hb, .inl rfl⟩
  · unfold upd at hb
    split at hb
    · rename_i e
      subst e
      exact hg.imp (fun e => by rw [h2 b e]; exact fun e => by cases e) id
    · exact .inl hb
set_option maxRecDepth 100000 in
set_option maxHeartbeats 1000000 in
theorem watch_calls (h : SolverAt w R p s) (c b : Nat) (hb : R b = some (.cl c)) (hs : watchF s c = some s') : Calls Try.prog 32 #[.pointer (some ⟨p, 0, none⟩), .pointer (some ⟨b, 0, none⟩)] w (SPo WatchT R w p (.tuple #[]) s') := by
  obtain ⟨i0, hi, hz0, hz1, hz2⟩ := info_parts info_cp
  have h0 := h
  obtain ⟨ids, vv, hv, pv, lv, tv, mv, bm, kvs, H⟩ := h
  have HS := Lib.hid H
  obtain ⟨c0, c1, c2, c3, c4, c5, c6, c7, c8, c9, c10, c11⟩ := H.cells
  obtain ⟨x, v, hcl, hblk, hrow, hrole⟩ := H.cl_at hb
  unfold watchF at hs
  rw [hcl] at hs
  simp only [Option.map_some] at hs
  split at hs
  case h_2 => cases hs
  rename_i a b' r hli
  rw [Option.some.inj hli] at hrow
  obtain ⟨s1, hp1, hp2⟩ := Option.bind_eq_some_iff.1 hs
  have hc : c < s.cls.length := (List.getElem?_eq_some_iff.1 hcl).1
  obtain ⟨g, cc, rfl, ho, hml, x0, _⟩ := row_at hrow (k := 0) (by simp)
  obtain ⟨g', cc', e1, _, _, x1, _⟩ := row_at hrow (k := 1) (by simp)
  cases e1
  have hcap := (row_cap hrow).1
  have hcc : (2 : Int) ≤ (cc : Int) := by simp only [List.length_cons] at hcap; omega
  have b0 : w.cell? ⟨b, 0, none⟩ = some (.slice (some ⟨g, 0, none⟩) (r.length + 1 + 1) cc) := blk_cell hblk 0
  simp only [List.getElem_cons_zero] at x0
  simp only [List.getElem_cons_succ, List.getElem_cons_zero] at x1
  have hgl : R g = some (.lits c) := hrole g rfl
  clear hs hli hcl hrow hml hcap ho hrole
  go_enter Try.func32, Try.ntmps32
  go_wp2_with fail
  have hw0 : ∀ u : World, Frm (fun b => ∃ r, R b = some r ∧ WatchT r) w u → ∀ j m, [a, b'][j]? = some m → u.cell? ⟨g, j, none⟩ = some (iI m) := by
    intro u hu j m hj
    have hb := hu.block g (HS.out.lt g _ hgl) (fun ⟨r, h1, h2⟩ => by
      rw [hgl] at h1; cases h1
      rcases h2 with h2 | ⟨_, h2⟩ <;> cases h2)
    have hcell : ∀ i, u.cell? ⟨g, i, none⟩ = w.cell? ⟨g, i, none⟩ := fun i => by simp only [World.cell?, hb]
    rw [hcell]
    match j, hj with
    | 0, hj => simp at hj; rw [← hj]; exact x0
    | 1, hj => simp at hj; rw [← hj]; exact x1
    | j + 2, hj => simp at hj
  have HW0 := Lib.hid hw0
  have HC := Lib.hid hc
  have HP : Hid (watchL s c [a, b'] = some s') := Lib.hid (by simp only [watchL, hp1, hp2, Option.bind_some])
  have HB := Lib.hid hb
  clear hw0 hp1 hp2 x0 x1 hc hblk hb b0 HS c0 c1 c2 c3 c4 c5 c6 c7 c8 c9 c10 c11 H
  go_loopw [12] (fun v12 w' => ∃ j : Nat, v12 = .int .i64 j ∧ j ≤ 2 ∧ ∃ sj Rj, Hid (watchL sj c ([a, b'].drop j) = some s') ∧ Hid (sj.cls.length = s.cls.length) ∧ Hid (SolverAt w' Rj p sj) ∧ Hid (SMov WatchT R w Rj w')) (fun v12 _ => 2 - (intOf v12).toNat)
  case atStart => exact ⟨0, rfl, by omega, s, R, HP, Lib.hid rfl, Lib.hid h0, Lib.hid (SMov.of0 (Frm.refl _ _))⟩
  case round =>
    obtain ⟨j, rfl, hj, sj, Rj, HPj, HLj, HSj, HMj⟩ := hrel
    by_cases hjl : j < 2
    · have hjI : (j : Int) < 2 := by omega
      obtain ⟨m, hm⟩ : ∃ m, [a, b'][j]? = some m := ⟨_, List.getElem?_eq_getElem (by simpa using hjl)⟩
      have xj := HW0.out wr HMj.out.1 j m hm
      have e := HPj.out
      rw [List.drop_eq_getElem_cons (by simpa using hjl), Option.some.inj ((List.getElem?_eq_getElem (by simpa using hjl)).symm.trans hm)] at e
      unfold watchL at e
      obtain ⟨s2, hp, hr⟩ := Option.bind_eq_some_iff.1 e
      obtain ⟨_, hsm, hroom, hs2⟩ := put_keeps hp
      obtain ⟨ids2, vv2, hv2, pv2, lv2, tv2, mv2, bm2, kvs2, H2⟩ := HSj.out
      have HS2 := Lib.hid H2
      obtain ⟨_, _, _, c3, _⟩ := H2.cells
      have hbl := H2.lt p _ H2.rme
      have hbm := H2.map.lt
      have hneg : wrap64 (-m) = -m := by have := sml_of hsm; unfold Sml at this; unfold wrap64; omega
      have hlk := lookup_run keyInt Try.underlying46 zeroL (mapAt_of_block (w' := wr.drew) H2.map rfl) (wrap64 (-m)) false
      simp only [Bool.false_eq_true, if_false] at hlk
      have hlk2 := lookup_run keyInt Try.underlying46 zeroL (w := (wr.alloc (.cells #[.pointer (some ⟨b, 0, none⟩)] 58)).drew) (H2.map.frm ((frm_alloc wr (.cells #[.pointer (some ⟨b, 0, none⟩)] 58)).drew) id) (wrap64 (-m)) false
      simp only [Bool.false_eq_true, if_false] at hlk2
      have HR := Lib.hid hr
      have HS2e := Lib.hid hs2
      have Hroom := Lib.hid hroom
      have hbR : Rj b = some (.cl c) := HMj.out.2.1 b _ HB.out
      have hblt := H2.lt b _ hbR
      have henc : encC ids2 c = .pointer (some ⟨b, 0, none⟩) := by
        obtain ⟨b2, h1, h2, h3⟩ := H2.clAt (c := c) (by rw [HLj.out]; exact HC.out)
        rw [h1, Option.some.inj (h3.symm.trans (H2.onec b c hbR))]
      obtain ⟨hwr, hwo, hwc⟩ := H2.row_of (-m)
      obtain ⟨WA, wc, hwv, _⟩ := hwr.slice
      have HWR := Lib.hid hwr
      have hwv2 : mval nilS vid kvs2 (wrap64 (-m)) = .slice WA (Sat.watched sj (-m)).length wc := by rw [hneg]; exact hwv
      rw [hwv2] at hlk hlk2
      have HN := Lib.hid hneg
      have HWV := Lib.hid hwv
      have HEN := Lib.hid henc
      clear H2 e hp hr hs2 hroom hsm hm hwr hwo hwc hwv henc hwv2 hneg
      go_wp2_with fail
      refine Plan.wp_region_plan [0, 1, 3, 7, 0, 16, 0, 64, 192, 448, 0, 1024, 4032, 0, 8192, 32704, 65535] [.mk [0, 1, 2, 3, 4, 5, 6, 7, 8, 9, 10, 11, 12, 13] 14 [0, 1, 2, 3, 4, 5, 6, 7, 8, 9, 10, 11, 12], .mk [] 15 [0, 1, 2, 3, 4, 5], .mk [] 16 []] [] (by kernel_rfl) (by kernel_rfl) ?_
      simp only [Plan.wayOf, Plan.pickAll, List.getElem?_cons_zero, List.getElem?_cons_succ, List.getD_eq_getElem?_getD, Option.getD_some]
      refine Plan.wpWay_seg ?_
      repeat go_big_quiet_step (fail)
      refine wpQuiet_nil ?_; refine Plan.wpWay_act ?_
      go_wp2_with (fail)
      refine And.intro ?_ ?_; focus ((iterate 13 (refine Plan.again_cons ?_ ?_; focus (go_big_quiet_step (fail); exact wpQuiet_nil rfl))); exact Plan.again_nil)
      refine Plan.wpWay_seg ?_
      refine wpQuiet_nil ?_; refine Plan.wpWay_act ?_
      refine (wpList_append_wrow rfl _ _ 47 rfl 58 i0 (.pointer none) 8 Try.underlying47 hi hz0 hz1 hz2 rfl (enc := encC ids2) (encC_one ids2) (.slice WA (Sat.watched sj (-m)).length wc) (Sat.watched sj (-m)) [c] rfl (HWV.out ▸ HWR.out.frm ((frm_alloc wr (.cells #[.pointer (some ⟨b, 0, none⟩)] 58)).drew) fun _ _ => id) ⟨wr.heap.size, 0, none⟩ 1 rfl ?c1 (by simp) ?c2 ?c3 ?_)
      case c1 => intro j y hj; match j, hj with | 0, hj => (simp at hj; subst hj; rw [HEN.out]; exact blk_cell (blk_new _) 0) | j + 1, hj => (simp at hj)
      case c2 => have := Hroom.out; have : maxLen = 9223372036854775807 := rfl; simp only [List.length_cons, List.length_nil]; omega
      case c3 => have := Hroom.out; simp only [List.length_cons, List.length_nil]; omega
      intro g7 cap7 w7 hrow hfr hg hlt
      obtain ⟨n7, hn7⟩ : ∃ n7, n7 = (Sat.watched sj (-m)).length + [c].length := ⟨_, rfl⟩
      rw [← hn7] at hrow ⊢
      clear hn7
      have HRW := Lib.hid hrow
      have HFR := Lib.hid hfr
      have HG := Lib.hid hg
      have HLT := Lib.hid hlt
      have h8 := HS2.out.frm0 ((frm_alloc wr (.cells #[.pointer (some ⟨b, 0, none⟩)] 58)).drew)
      have hnp : ∀ {q : Nat} {r : Role}, Rj q = some r → (∀ k, r ≠ .wrow k) → ¬ (Value.slice WA (Sat.watched sj (-m)).length wc).ownBlock = some q := fun hq hr e => by rw [← HWV.out] at e; have := (HS2.out.row_of (-m)).2.1 _ e; rw [hq] at this; exact hr _ (Option.some.inj this)
      have c3 : w7.cell? ⟨p, 3, none⟩ = some (.map (some bm2)) := blk_cell (blk_frm h8.box hfr (hnp h8.rme (fun k e => by cases e))) 3
      have HM7 := Lib.hid (h8.map.frm hfr (hnp h8.rmap (fun k e => by cases e)))
      clear hrow hfr hg hlt h8 hnp
      go_wp2_with fail
      refine And.intro ?_ ?_; focus ((iterate 6 (refine Plan.again_cons ?_ ?_; focus (go_big_quiet_step (fail); exact wpQuiet_nil rfl))); exact Plan.again_nil)
      refine Plan.wpWay_seg ?_
      refine wpQuiet_nil ?_; refine Plan.wpWay_act ?_
      refine wpList_update rfl _ _ _ 46 rfl keyInt Try.underlying46 (ev := vid) (wrap64 (-m)) (.slice (some ⟨g7, 0, none⟩) n7 cap7) rfl rfl rfl HM7.out ?_
      intro w8 hm8 hg8
      go_simp
      go_wp2_with fail
      refine And.intro Plan.again_nil ?_
      refine Plan.wpWay_last ?_
      refine wpQuiet_nil ?_; refine NoPanic.normal ?_
      have hff := (frm_alloc wr (.cells #[.pointer (some ⟨b, 0, none⟩)] 58)).drew
      rw [HN.out] at hm8
      obtain ⟨W1, W2⟩ := (HS2.out.frm0 hff).watch1 (k := -m) (by rw [HLj.out]; exact HC.out) HRW.out (by rw [HWV.out]; exact HFR.out) (by rw [HWV.out]; exact HG.out.imp id fun e => by rw [e]; exact Nat.le_refl _) HLT.out hm8 hg8
      have HS9 := Lib.hid (show SolverAt w8 _ p s2 from ⟨_, _, _, _, _, _, _, _, _, by rw [HS2e.out]; exact W1⟩)
      have HM9 := Lib.hid ((HMj.out.trans (SMov.of0 hff)).trans (W2.mono fun r hr => hr.elim .inl fun e => .inr ⟨_, e⟩))
      have HL9 : Hid (s2.cls.length = s.cls.length) := Lib.hid (by rw [HS2e.out]; exact HLj.out)
      obtain ⟨R9, hR9⟩ : ∃ R9, R9 = upd Rj g7 (.wrow (-m)) := ⟨_, rfl⟩
      rw [← hR9] at HS9 HM9
      clear hR9 W1 W2 hff HRW HFR HG HLT hm8 hg8 HM7 c3 xj hlk hlk2 hbl hbm hbR hblt HSj HMj HPj
      go_wp2
      go_roundw
      case rel => exact ⟨j + 1, rfl, by omega, s2, R9, HR, HL9, HS9, HM9⟩
      case measure => simp only [intOf]; omega
    · have hjI : ¬ (j : Int) < 2 := by omega
      have e := HPj.out
      have hj2 : j = 2 := by omega
      subst hj2
      simp only [List.drop_succ_cons, List.drop_zero, watchL] at e
      cases e
      go_wp2
      go_end0
      exact ⟨rfl, Rj, HSj.out, HMj.out⟩
end
end SaW
end Go.Proofs.Ytfpjfogddepbkaa
