/- Whether all can hold, walked: Solve. -/
import Derived.Test.YtfpjfogddepbkaaCz11
import Derived.Test.YtfpjfogddepbkaaCz02
import Derived.Test.YtfpjfogddepbkaaCz03
import Derived.BigFrame
set_option linter.unusedSimpArgs false
set_option linter.unusedVariables false
namespace Go.Proofs.Ytfpjfogddepbkaa
open Go.RowKit Go.Mem Go.Sat
namespace SaW
/-- What the search's loops hold: the solver, the answer's variable, what is assumed. -/
structure Sea (R : Nat → Option Role) (w1 : World) (b0 : Nat) (va : Value) (assume : List Int) (Rj : Nat → Option Role) (w' : World) (p : Nat) (sj : St) : Prop where
  sol : SolverAt w' Rj p sj
  mov : SMovB AnyT w1.heap.size R w1 Rj w'
  out : R b0 = none
  lt : b0 < w1.heap.size
  ans : w'.heap[b0]? = some (.cells #[.bool false, .slice none 0 0, .slice none 0 0] 30)
  see : Sees w' iI va assume
  apart : assume = [] ∨ OutOf Rj va
theorem Sea.step {T : Role → Prop} {R R1 R2 : Nat → Option Role} {w1 w' w'' : World} {b0 p : Nat} {va : Value} {assume : List Int} {s s' : St} (h : Sea R w1 b0 va assume R1 w' p s) (hS : SolverAt w'' R2 p s') (hM : SMovB T w1.heap.size R1 w' R2 w'') (hin : assume ≠ [] → ∀ g, InBlk va g → g < w1.heap.size) : Sea R w1 b0 va assume R2 w'' p s' := by
  have hb : R1 b0 = none := h.mov.out h.lt h.out
  refine ⟨hS, h.mov.trans hM.any, h.out, h.lt, ?_, ?_, ?_⟩
  · rw [← h.ans]
    exact hM.1.block b0 (lt_of_block h.ans) fun e => by
      rcases e with ⟨r, h1, _⟩ | e
      · rw [hb] at h1; cases h1
      · have := h.lt; omega
  · by_cases ha : assume = []
    · subst ha
      rcases h.see with h1 | ⟨g, o, c, h1, h2, h3, _⟩
      · exact .inl h1
      · exact .inr ⟨g, o, c, h1, h2, h3, fun i x hx => by simp at hx⟩
    · have ho : OutOf R1 va := h.apart.elim (fun e => absurd e ha) id
      refine h.see.frm hM.1 fun g hg _ e => ?_
      rcases e with ⟨r, h1, _⟩ | e
      · rw [ho g hg] at h1; cases h1
      · have := hin ha g hg; omega
  · by_cases ha : assume = []
    · exact .inl ha
    · have ho : OutOf R1 va := h.apart.elim (fun e => absurd e ha) id
      exact .inr fun g hg => hM.out (hin ha g hg) (ho g hg)
theorem Sea.frm0 {R R1 : Nat → Option Role} {w1 w' w'' : World} {b0 p : Nat} {va : Value} {assume : List Int} {s : St} (h : Sea R w1 b0 va assume R1 w' p s) (hf : Frm (fun _ => False) w' w'') (hin : assume ≠ [] → ∀ g, InBlk va g → g < w1.heap.size) : Sea R w1 b0 va assume R1 w'' p s :=
  h.step (T := AnyT) (h.sol.frm0 hf) ⟨hf.mono fun _ _ h => h.elim, fun _ _ h => h, fun _ h => .inl h⟩ hin
theorem Sea.base {R R1 : Nat → Option Role} {w1 w' : World} {b0 p : Nat} {va : Value} {assume : List Int} {s : St} (h : Sea R w1 b0 va assume R1 w' p s) : w1.heap.size ≤ w'.heap.size := h.mov.1.size
def OutI (R : Nat → Option Role) (w1 : World) (b0 p : Nat) (va : Value) (fuel : Nat) (limit : Int) (assume : List Int) (r : Ans × Int) (s' : St) (k : Nat) (v11 : Value) (w' : World) : Prop :=
  ∃ sj Rj count, v11 = .int .i64 count ∧ searchF fuel limit assume k sj count = some (r, s') ∧ Sea R w1 b0 va assume Rj w' p sj
def InI (R : Nat → Option Role) (w1 : World) (b0 p : Nat) (va : Value) (fuel : Nat) (limit : Int) (assume : List Int) (r : Ans × Int) (s' : St) (k : Nat) (v11 v12 : Value) (w' : World) : Prop :=
  ∃ sj Rj count res A, v11 = .int .i64 count ∧ v12 = .pointer A ∧ ClAt Rj A res ∧ searchB fuel limit assume k res sj count = some (r, s') ∧ Sea R w1 b0 va assume Rj w' p sj
/-- The answer laid into its variable. -/
def laid (w : World) (b0 : Nat) (x y z : Value) : World := ((w.setCell ⟨b0, 0, none⟩ x).setCell ⟨b0, 1, none⟩ y).setCell ⟨b0, 2, none⟩ z
theorem Sea.done {R Rj : Nat → Option Role} {w w1 wr : World} {b0 p : Nat} {va vm vc : Value} {assume : List Int} {s' : St} {a : Ans} {err : Int} (h : Sea R w1 b0 va assume Rj wr p s') (hb0 : w.heap.size ≤ b0) (hM0 : SMov AnyT R w R w1) (rm : Row wr 3 iI vm a.model) (rc : Row wr 3 iI vc a.core) (ho : ∀ g, vm.ownBlock = some g ∨ vc.ownBlock = some g → Rj g = none ∧ w1.heap.size ≤ g) :
    (laid wr b0 (.bool a.sat) vm vc).heap[b0]? = some (.cells #[.bool a.sat, vm, vc] 30) ∧ SolvePost R w p a err s' (.returned (.tuple #[.agg #[.bool a.sat, vm, vc], .int .i64 err])) (laid wr b0 (.bool a.sat) vm vc) := by
  have hb : Rj b0 = none := h.mov.out h.lt h.out
  have hf : Frm (fun b => b = b0) wr (laid wr b0 (.bool a.sat) vm vc) := (((Frm.refl (fun b => b = b0) wr).set (p := ⟨b0, 0, none⟩) (.inl rfl) _).set (p := ⟨b0, 1, none⟩) (.inl rfl) _).set (p := ⟨b0, 2, none⟩) (.inl rfl) _
  have h1 := blk_set h.ans 0 (.bool a.sat) rfl
  have h2 := blk_set h1 1 vm rfl
  have h3 := blk_set h2 2 vc rfl
  refine ⟨h3, vm, vc, Rj, rfl, rm.frm hf fun g hg e => ?_, rc.frm hf fun g hg e => ?_, fun g hg => ⟨(ho g hg).1, Nat.le_trans hM0.1.size (ho g hg).2⟩, h.sol.frm hf fun b r hr e => (by rw [e, hb] at hr; cases hr), ?_⟩
  · have := (ho g (.inl hg)).2; have := h.lt; omega
  · have := (ho g (.inr hg)).2; have := h.lt; omega
  · have hM := h.mov.back
    refine ⟨(hM0.trans hM).1.trans hf fun x hx e => by omega, (hM0.trans hM).2⟩
section
variable {w : World} {R : Nat → Option Role} {p : Nat} {s s' : St}
set_option maxRecDepth 100000 in
set_option maxHeartbeats 4000000 in
theorem solve_calls (h : SolverAt w R p s) (va : Value) (assume : List Int) (hA : Sees w iI va assume) (hO : OutOf R va) (hn : assume.length ≤ 1099511627776) (hc : checkF assume = true) (fuel : Nat) (limit : Int) (a : Ans) (err : Int) (hs : solveF fuel s limit assume = some ((a, err), s')) : Calls Try.prog 10 #[.pointer (some ⟨p, 0, none⟩), .int .i64 limit, va] w (SolvePost R w p a err s') := by
  obtain ⟨i0, hi, hz0, hz1, hz2⟩ := info_parts info_int
  obtain ⟨VA, vc, rfl, _⟩ := sees_slice hA
  have hs2 : Sees ((w.alloc (.cells #[.bool false, .slice none 0 0, .slice none 0 0] 30)).alloc (.cells #[.slice VA assume.length vc] 26)) iI (.slice VA assume.length vc) assume := (hA.frm (frm_alloc _ _) fun _ _ _ => id).frm (frm_alloc _ _) fun _ _ _ => id
  have HC := Lib.hid (check_calls ((w.alloc (.cells #[.bool false, .slice none 0 0, .slice none 0 0] 30)).alloc (.cells #[.slice VA assume.length vc] 26)) (w.heap.size + 1) _ assume hs2 (blk_cell (blk_new_at _ (by simp)) 0))
  rw [hc] at HC
  unfold solveF at hs
  split at hs
  case h_1 => cases hs
  rename_i s1 hbk
  obtain ⟨s2, hgr, hse⟩ := Option.bind_eq_some_iff.1 hs
  have hff : Frm (fun _ => False) w ((w.alloc (.cells #[.bool false, .slice none 0 0, .slice none 0 0] 30)).alloc (.cells #[.slice VA assume.length vc] 26)) := (frm_alloc w _).alloc _
  have hbx : R w.heap.size = none := by
    obtain ⟨_, _, _, _, _, _, _, _, _, H⟩ := h
    exact none_of H (Nat.le_refl _)
  have hSea : Sea R ((w.alloc (.cells #[.bool false, .slice none 0 0, .slice none 0 0] 30)).alloc (.cells #[.slice VA assume.length vc] 26)) w.heap.size (.slice VA assume.length vc) assume R ((w.alloc (.cells #[.bool false, .slice none 0 0, .slice none 0 0] 30)).alloc (.cells #[.slice VA assume.length vc] 26)) p s := ⟨h.frm0 hff, (SMov.of0 (Frm.refl _ _)).toB (Nat.le_refl _), hbx, by simp; omega, blk_alloc (blk_new _) _, hs2, .inr hO⟩
  have HIN : Hid (assume ≠ [] → ∀ g, InBlk (.slice VA assume.length vc) g → g < ((w.alloc (.cells #[.bool false, .slice none 0 0, .slice none 0 0] 30)).alloc (.cells #[.slice VA assume.length vc] 26)).heap.size) := Lib.hid fun ha g hg => Nat.lt_of_lt_of_le (hA.inlt hg ha) hff.size
  have HM0 : Hid (SMov AnyT R w R ((w.alloc (.cells #[.bool false, .slice none 0 0, .slice none 0 0] 30)).alloc (.cells #[.slice VA assume.length vc] 26))) := Lib.hid (SMov.of0 hff)
  have HSEA := Lib.hid hSea
  have HBK := Lib.hid (back_calls hSea.sol 0 hbk)
  have HGR := Lib.hid hgr
  have HSE := Lib.hid hse
  have hn63 : assume.length ≤ 9223372036854775807 := by omega
  clear hA hs2 hc hs hbk hgr hse hff hbx hSea hO hn h
  go_enter Try.func10, Try.ntmps10
  go_wp2_with fail
  go_step3
  go_wp2_with fail
  refine HC.out.mono ?_
  rintro e w1 ⟨rfl, hw⟩
  dsimp only
  rw [hw] at HIN HM0 HSEA HBK
  clear HC
  go_wp2_with fail
  refine HBK.out.mono ?_
  rintro e w3 ⟨rfl, R3, HS3, HM3⟩
  have HSEA3 := Lib.hid (HSEA.out.step HS3 (HM3.any.toB (Nat.le_refl _)) HIN.out)
  clear HS3 HM3 HBK HSEA
  dsimp only
  go_wp2_with fail
  go_loopw [26] (fun v26 w' => ∃ j : Nat, v26 = .int .i64 j ∧ j ≤ assume.length ∧ ∃ sj Rj, Hid (growsF sj (assume.drop j) = some s2) ∧ Hid (Sea R w1 w.heap.size (.slice VA assume.length vc) assume Rj w' p sj)) (fun v26 _ => assume.length - (intOf v26).toNat)
  case atStart => exact ⟨0, rfl, by omega, s1, R3, HGR, HSEA3⟩
  case round =>
    obtain ⟨j, rfl, hj, sj, Rj, HG, HS⟩ := hrel
    clear HSEA3 HGR
    by_cases hjl : j < assume.length
    · have hjI : (j : Int) < (assume.length : Int) := by omega
      obtain ⟨n, hnn⟩ : ∃ n, assume[j]? = some n := ⟨_, List.getElem?_eq_getElem hjl⟩
      obtain ⟨g, o, rfl, xj⟩ : ∃ g o, VA = some ⟨g, o, none⟩ ∧ wr.cell? ⟨g, o + j, none⟩ = some (iI n) := by
        obtain ⟨A', c', e1, hc⟩ := sees_slice HS.out.see
        injection e1 with ea eb ec
        obtain ⟨g, o, h1, h2⟩ := hc j n hnn
        exact ⟨g, o, ea.trans h1, h2⟩
      have e := HG.out
      rw [List.drop_eq_getElem_cons hjl, Option.some.inj ((List.getElem?_eq_getElem hjl).symm.trans hnn)] at e
      obtain ⟨s5, hg5, hr5⟩ := Option.bind_eq_some_iff.1 e
      have HG5 := Lib.hid hg5
      have HR5 := Lib.hid hr5
      clear e hg5 hr5 hnn HG
      go_wp2_with fail
      refine (grow_calls HS.out.sol _ n HG5.out).mono ?_
      rintro e w5 ⟨rfl, R5, HS5, HM5⟩
      have HS6 := Lib.hid (HS.out.step HS5 (HM5.any.toB HS.out.base) HIN.out)
      clear HS5 HM5 HS xj
      dsimp only
      go_wp2
      go_roundw
      case rel => exact ⟨j + 1, rfl, hjl, s5, R5, HR5, HS6⟩
      case measure => simp only [intOf]; omega
    · have hjI : ¬ (j : Int) < (assume.length : Int) := by omega
      have e := HG.out
      rw [List.drop_eq_nil_of_le (by omega)] at e
      cases e
      clear HG
      go_wp2_with fail
      go_step3
      go_wp2_with fail
      obtain ⟨r, hr⟩ : ∃ r : Ans × Int, r = (a, err) := ⟨_, rfl⟩
      have HI0 : Hid (OutI R w1 w.heap.size p (.slice VA assume.length vc) fuel limit assume r s' fuel (.int .i64 0) wr) := Lib.hid ⟨_, _, 0, rfl, by rw [hr]; exact HSE.out, HS.out⟩
      have HRR := Lib.hid hr
      clear HSE HS hr hjI hj
      go_loopw [11] (fun v11 w' => Hid (∃ k, OutI R w1 w.heap.size p (.slice VA assume.length vc) fuel limit assume r s' k v11 w')) (fun v11 w' => leastK fun k => OutI R w1 w.heap.size p (.slice VA assume.length vc) fuel limit assume r s' k v11 w')
      case atStart => exact Lib.hid ⟨_, HI0.out⟩
      case round =>
        clear HI0
        obtain ⟨hI, _⟩ := leastK_spec hrel.out
        obtain ⟨k0, hk0⟩ : ∃ k0, k0 = leastK fun k => OutI R w1 w.heap.size p (.slice VA assume.length vc) fuel limit assume r s' k u11 wr := ⟨_, rfl⟩
        rw [← hk0] at hI
        have HK0 := Lib.hid hk0
        clear hrel hk0
        obtain ⟨sj, Rj, count, rfl, hsr, hSea⟩ := hI
        cases k0 with
        | zero => cases hsr
        | succ k0 =>
        rw [searchF_succ] at hsr
        have HS := Lib.hid hSea
        obtain ⟨ids, vv, hv, pv, lv, tv, mv, bm, kvs, H⟩ := hSea.sol
        obtain ⟨_, _, _, _, _, _, _, _, _, _, _, c11⟩ := H.cells
        clear hSea H
        by_cases hbr : sj.broken = true
        · rw [if_pos hbr] at hsr
          have hrs := Option.some.inj hsr
          injection hrs with hr1 hr2
          subst hr2
          have hra := HRR.out
          rw [← hr1] at hra
          injection hra with hr3 hr4
          subst hr3
          subst hr4
          rw [hbr] at c11
          have b0 : wr.cell? ⟨w.heap.size, 0, none⟩ = some (.bool false) := blk_cell HS.out.ans 0
          have b1 : wr.cell? ⟨w.heap.size, 1, none⟩ = some (.slice none 0 0) := blk_cell HS.out.ans 1
          have b2 : wr.cell? ⟨w.heap.size, 2, none⟩ = some (.slice none 0 0) := blk_cell HS.out.ans 2
          have bz : ∀ i, wr.frozen? ⟨w.heap.size, i, none⟩ = false := fun i => blk_free HS.out.ans i
          clear hsr hr1 hbr
          obtain ⟨hh, hp⟩ := HS.out.done (a := noAns) (err := 0) (Nat.le_refl _) HM0.out (Row.nil _ _ _) (Row.nil _ _ _) (fun g hg => by rcases hg with hg | hg <;> cases hg)
          have HHH := Lib.hid hh
          have HPP := Lib.hid hp
          clear hh hp
          go_wp2
          try rw [Exit.noGoto_ret]
          refine bodyPost_ret (results_ans rfl _ _ w.heap.size _ _ _ _ _ rfl HHH.out) rfl ?_
          exact HPP.out
        · rw [if_neg hbr] at hsr
          rw [Bool.not_eq_true] at hbr
          rw [hbr] at c11
          obtain ⟨q, hsp, hse⟩ := Option.bind_eq_some_iff.1 hsr
          obtain ⟨res, sB⟩ := q
          have HSPR := Lib.hid (spread_calls HS.out.sol fuel res hsp)
          have HSE := Lib.hid hse
          clear hsr hsp hse hbr
          go_wp2_with fail
          refine HSPR.out.mono ?_
          rintro e w5 ⟨A5, R5, rfl, hcl5, HS5, HM5⟩
          have HS6 := Lib.hid (HS.out.step HS5 (HM5.any.toB HS.out.base) HIN.out)
          have HI5 : Hid (∃ k, k < k0 + 1 ∧ InI R w1 w.heap.size p (.slice VA assume.length vc) fuel limit assume r s' k (.int .i64 count) (.pointer A5) w5) := Lib.hid ⟨k0, Nat.lt_succ_self _, sB, R5, count, res, A5, rfl, rfl, hcl5, HSE.out, HS6.out⟩
          clear HS5 HM5 hcl5 HS6 HS HSPR HSE c11
          dsimp only
          go_wp2_with fail
          go_loopw [11, 12] (fun v11 v12 w' => Hid (∃ k, k < k0 + 1 ∧ InI R w1 w.heap.size p (.slice VA assume.length vc) fuel limit assume r s' k v11 v12 w')) (fun v11 v12 w' => leastK fun k => InI R w1 w.heap.size p (.slice VA assume.length vc) fuel limit assume r s' k v11 v12 w')
          case atStart => exact HI5
          case round =>
            clear HI5
            obtain ⟨kk, hkk, hIk⟩ := hrel.out
            obtain ⟨hI, hmin⟩ := leastK_spec (P := fun k => InI R w1 w.heap.size p (.slice VA assume.length vc) fuel limit assume r s' k u11 u12 wr) ⟨kk, hIk⟩
            obtain ⟨k1, hk1⟩ : ∃ k1, k1 = leastK fun k => InI R w1 w.heap.size p (.slice VA assume.length vc) fuel limit assume r s' k u11 u12 wr := ⟨_, rfl⟩
            have hk1lt : k1 < k0 + 1 := by rw [hk1]; exact Nat.lt_of_le_of_lt (hmin kk hIk) hkk
            rw [← hk1] at hI
            have HK1 := Lib.hid hk1
            have HK1L := Lib.hid hk1lt
            clear hrel hk1 hkk hIk hmin hk1lt
            obtain ⟨sB, RB, count, res, A, rfl, rfl, hcl, hse, hSea⟩ := hI
            cases res with
            | none =>
              obtain rfl : A = none := hcl
              unfold searchB at hse
              simp only at hse
              split at hse
              case isTrue => cases hse
              rename_i hgd
              have hgd' : 0 ≤ sB.added ∧ sB.added ≤ 1099511627776 := by simpa using hgd
              split at hse
              case isTrue => cases hse
              rename_i hle
              obtain ⟨ids, vv, hv, pv, lv, tv, mv, bm, kvs, H⟩ := hSea.sol
              obtain ⟨_, _, _, _, c4, _, _, _, _, c9, _⟩ := H.cells
              obtain ⟨LA, lc, rfl, _⟩ := sees_slice H.learnt.sees
              have hll : sB.learnt.length ≤ 9223372036854775807 := H.learnt.sees.len
              have HS := Lib.hid hSea
              have HSE := Lib.hid hse
              have e0 : Int.tdiv sB.added 2 = sB.added / 2 := Int.tdiv_eq_ediv_of_nonneg hgd'.1
              have hw0 : wrap64 (sB.added / 2) = sB.added / 2 := by unfold wrap64; omega
              have hw : wrap64 (2000 + sB.added / 2) = 2000 + sB.added / 2 := by unfold wrap64; omega
              have e1 : decide ((2000 + sB.added / 2) < (sB.learnt.length : Int)) = false := by simpa using hle
              clear H hSea hse hgd hgd'
              go_wp2_with fail
              go_quiet (fail)
              simp only [hw0, hw, e1]
              obtain ⟨w6, hw6⟩ : ∃ w6, w6 = wr.drewN nq := ⟨_, rfl⟩
              rw [← hw6]
              have HS6 := Lib.hid (HS.out.frm0 (w'' := w6) (by rw [hw6]; exact (Frm.refl _ _).drewN _) HIN.out)
              have hse := HSE.out
              split at hse
              case h_1 => cases hse
              case h_2 n s2 hdec =>
                obtain ⟨l, hco, hll2⟩ := Option.map_eq_some_iff.1 hse
                have HDEC := Lib.hid (decide_calls HS6.out.sol _ _ assume HS6.out.see HS6.out.apart n false hdec)
                have HCO := Lib.hid hco
                have HLL := Lib.hid hll2
                clear hw6 HS c4 c9 e0 hw hw0 e1 hll hle hse hdec hco hll2 HSE
                go_wp2_with fail
                refine HDEC.out.mono ?_
                rintro e w7 ⟨rfl, R7, HS7, HM7⟩
                have HS8 := Lib.hid (HS6.out.step HS7 (HM7.any.toB HS6.out.base) HIN.out)
                clear HS7 HM7 HDEC HS6
                dsimp only
                go_wp2_with fail
                refine (core_calls HS8.out.sol n _ assume HS8.out.see l HCO.out).mono ?_
                rintro e w8 ⟨v8, rfl, hr8, hf8, ho8⟩
                have HS9 := Lib.hid (HS8.out.frm0 hf8 HIN.out)
                have hll3 := HLL.out
                injection hll3 with hr1 hr2
                subst hr2
                have hra := HRR.out
                rw [← hr1] at hra
                injection hra with hr3 hr4
                subst hr3
                subst hr4
                have hown : ∀ g, (Value.slice none 0 0).ownBlock = some g ∨ v8.ownBlock = some g → R7 g = none ∧ w1.heap.size ≤ g := fun g hg => by
                  rcases hg with hg | hg
                  · cases hg
                  · obtain ⟨_, _, _, _, _, _, _, _, _, H⟩ := HS8.out.sol
                    exact ⟨none_of H (ho8 g hg), Nat.le_trans HS8.out.base (ho8 g hg)⟩
                obtain ⟨hh, hp⟩ := HS9.out.done (a := ⟨false, [], l⟩) (err := 0) (Nat.le_refl _) HM0.out (Row.nil _ _ _) hr8 hown
                have HHH := Lib.hid hh
                have HPP := Lib.hid hp
                have b0 : w8.cell? ⟨w.heap.size, 0, none⟩ = some (.bool false) := blk_cell HS9.out.ans 0
                have b1 : w8.cell? ⟨w.heap.size, 1, none⟩ = some (.slice none 0 0) := blk_cell HS9.out.ans 1
                have b2 : w8.cell? ⟨w.heap.size, 2, none⟩ = some (.slice none 0 0) := blk_cell HS9.out.ans 2
                have bz : ∀ i, w8.frozen? ⟨w.heap.size, i, none⟩ = false := fun i => blk_free HS9.out.ans i
                obtain ⟨OA, oc, hv8, _⟩ := sees_slice hr8.sees
                subst hv8
                clear hh hp hown hr8 hf8 ho8 hr1 HCO HLL
                dsimp only
                go_wp2
                try rw [Exit.noGoto_ret]
                refine bodyPost_ret (results_ans rfl _ _ w.heap.size _ _ _ _ _ rfl HHH.out) rfl ?_
                exact HPP.out
              case h_3 n s2 hdec =>
                have HDEC := Lib.hid (decide_calls HS6.out.sol _ _ assume HS6.out.see HS6.out.apart n true hdec)
                have HSE2 := Lib.hid hse
                clear hw6 HS c4 c9 e0 hw hw0 e1 hll hle hse hdec HSE
                go_wp2_with fail
                refine HDEC.out.mono ?_
                rintro e w7 ⟨rfl, R7, HS7, HM7⟩
                have HS8 := Lib.hid (HS6.out.step HS7 (HM7.any.toB HS6.out.base) HIN.out)
                clear HS7 HM7 HDEC HS6
                dsimp only
                by_cases hn0 : n = 0
                · have en : (n == 0) = true := by simpa using hn0
                  have hse := HSE2.out
                  rw [if_pos hn0] at hse
                  split at hse
                  case isFalse => cases hse
                  rename_i hro
                  have HRO := Lib.hid (room_of hro)
                  have HLL := Lib.hid (Option.some.inj hse)
                  clear hse hro hn0
                  go_wp2_with fail
                  refine (model_calls HS8.out.sol HRO.out).mono ?_
                  rintro e w8 ⟨v8, rfl, hr8, hf8, ho8⟩
                  have HS9 := Lib.hid (HS8.out.frm0 hf8 HIN.out)
                  have hll3 := HLL.out
                  injection hll3 with hr1 hr2
                  subst hr2
                  have hra := HRR.out
                  rw [← hr1] at hra
                  injection hra with hr3 hr4
                  subst hr3
                  subst hr4
                  have hown : ∀ g, v8.ownBlock = some g ∨ (Value.slice none 0 0).ownBlock = some g → R7 g = none ∧ w1.heap.size ≤ g := fun g hg => by
                    rcases hg with hg | hg
                    · obtain ⟨_, _, _, _, _, _, _, _, _, H⟩ := HS8.out.sol
                      exact ⟨none_of H (ho8 g hg), Nat.le_trans HS8.out.base (ho8 g hg)⟩
                    · cases hg
                  obtain ⟨hh, hp⟩ := HS9.out.done (a := ⟨true, modelF s2, []⟩) (err := 0) (Nat.le_refl _) HM0.out hr8 (Row.nil _ _ _) hown
                  have HHH := Lib.hid hh
                  have HPP := Lib.hid hp
                  have b0 : w8.cell? ⟨w.heap.size, 0, none⟩ = some (.bool false) := blk_cell HS9.out.ans 0
                  have b1 : w8.cell? ⟨w.heap.size, 1, none⟩ = some (.slice none 0 0) := blk_cell HS9.out.ans 1
                  have b2 : w8.cell? ⟨w.heap.size, 2, none⟩ = some (.slice none 0 0) := blk_cell HS9.out.ans 2
                  have bz : ∀ i, w8.frozen? ⟨w.heap.size, i, none⟩ = false := fun i => blk_free HS9.out.ans i
                  obtain ⟨OA, oc, hv8, _⟩ := sees_slice hr8.sees
                  subst hv8
                  clear hh hp hown hr8 hf8 ho8 hr1 HLL
                  dsimp only
                  go_wp2
                  try rw [Exit.noGoto_ret]
                  refine bodyPost_ret (results_ans rfl _ _ w.heap.size _ _ _ _ _ rfl HHH.out) rfl ?_
                  exact HPP.out
                · have en : (n == 0) = false := by simpa using hn0
                  have hse := HSE2.out
                  rw [if_neg hn0] at hse
                  split at hse
                  case isTrue => cases hse
                  rename_i hro
                  have Hroom : Hid (s2.limits.length ≤ 1099511627776) := Lib.hid (room_of (by simpa using hro))
                  obtain ⟨s3, hst, hsr⟩ := Option.bind_eq_some_iff.1 hse
                  have HST := Lib.hid hst
                  have HSR := Lib.hid hsr
                  obtain ⟨ids, vv, hv', pv, lv, tv, mv, bm, kvs, H⟩ := HS8.out.sol
                  have HS3 := Lib.hid H
                  obtain ⟨_, _, _, _, _, c5, c6, _⟩ := H.cells
                  obtain ⟨TA, tc, rfl, _⟩ := sees_slice H.trail.sees
                  obtain ⟨MA, mc, rfl, _⟩ := sees_slice H.limits.sees
                  have hbl := H.lt p _ H.rme
                  clear H hse hro hn0 hst hsr HSE2
                  go_wp2_with fail
                  refine Plan.wp_region_plan [0, 0, 2, 6, 14, 0, 32, 96, 224, 480, 992, 2046, 4095, 8191, 16383] [.mk [0, 1, 2, 3, 4, 5, 6, 7, 8, 9] 10 [0, 1, 2, 3, 4], .mk [] 11 [0], .mk [12, 13] 14 []] [] (by kernel_rfl) (by kernel_rfl) ?_
                  simp only [Plan.wayOf, Plan.pickAll, List.getElem?_cons_zero, List.getElem?_cons_succ, List.getD_eq_getElem?_getD, Option.getD_some]
                  refine Plan.wpWay_seg ?_
                  repeat go_big_quiet_step (fail)
                  refine wpQuiet_nil ?_; refine Plan.wpWay_act ?_
                  go_wp2_with (fail)
                  refine And.intro ?_ ?_; focus ((iterate 5 (refine Plan.again_cons ?_ ?_; focus (go_big_quiet_step (fail); exact wpQuiet_nil rfl))); exact Plan.again_nil)
                  refine Plan.wpWay_seg ?_
                  refine wpQuiet_nil ?_; refine Plan.wpWay_act ?_
                  refine (wpList_append_row rfl _ _ 26 rfl 3 i0 (.int .i64 0) 8 Try.underlying26 hi hz0 hz1 hz2 rfl (enc := iI) (.slice MA s2.limits.length mc) s2.limits rfl (HS3.out.limits.frm0 ((frm_alloc w7 (.cells #[.int .i64 (s2.trail.length : Nat)] 3)).drew)) ⟨w7.heap.size, 0, none⟩ 1 (s2.trail.length : Nat) rfl ?c1 rfl ?c2 ?c3 ?_)
                  case c1 => exact blk_cell (blk_new _) 0
                  case c2 => have := Hroom.out; have : maxLen = 9223372036854775807 := rfl; omega
                  case c3 => have := Hroom.out; omega
                  intro g9 cap9 w9 hrow hfr hg hlt9
                  have hfa : Frm (fun _ => False) w7 (w7.alloc (.cells #[.int .i64 (s2.trail.length : Nat)] 3)).drew := (frm_alloc w7 (.cells #[.int .i64 (s2.trail.length : Nat)] 3)).drew
                  obtain ⟨HP, HM⟩ := (HS3.out.frm0 hfa).push_limits hrow hfr (hg.imp id fun h => by rw [h]; exact Nat.le_refl _) hlt9
                  have hnp : ¬ (Value.slice MA s2.limits.length mc).ownBlock = some p := fun e => by have h1 := HS3.out.rlimits p e; rw [HS3.out.rme] at h1; cases h1
                  have b9 := blk_frm (HS3.out.frm0 hfa).box hfr hnp
                  have c6' : w9.cell? ⟨p, 6, none⟩ = some (.slice MA s2.limits.length mc) := blk_cell b9 6
                  have z9 : ∀ i, w9.frozen? ⟨p, i, none⟩ = false := fun i => blk_free b9 i
                  have HP1 := Lib.hid HP
                  have HM1 := Lib.hid ((SMov.of0 (T := AnyT) hfa).trans HM.any)
                  clear HP HM hrow hfr hg hlt9 hfa hnp b9
                  go_wp2_with fail
                  refine And.intro ?_ ?_; focus ((iterate 1 (refine Plan.again_cons ?_ ?_; focus (go_big_quiet_step (fail); exact wpQuiet_nil rfl))); exact Plan.again_nil)
                  refine Plan.wpWay_seg ?_
                  repeat go_big_quiet_step (fail)
                  refine wpQuiet_nil ?_; refine Plan.wpWay_act ?_
                  go_wp2_with (fail)
                  refine And.intro Plan.again_nil ?_
                  refine Plan.wpWay_last ?_
                  refine wpQuiet_nil ?_; refine NoPanic.normal ?_
                  obtain ⟨w10, hw10⟩ : ∃ w10, w10 = w9.setCell ⟨p, 6, none⟩ (.slice (some ⟨g9, 0, none⟩) (s2.limits.length + 1) cap9) := ⟨_, rfl⟩
                  rw [← hw10] at HP1 HM1 ⊢
                  have HS10 := Lib.hid (HS8.out.step ⟨_, _, _, _, _, _, _, _, _, HP1.out⟩ (HM1.out.toB HS8.out.base) HIN.out)
                  clear hw10 HP1 HM1 c6' z9 c5 c6 HS3 HS8
                  go_wp2_with fail
                  refine (set_calls HS10.out.sol n none none HST.out rfl).mono ?_
                  rintro e w11 ⟨rfl, R11, HS11, HM11⟩
                  have HS12 := Lib.hid (HS10.out.step HS11 (HM11.any.toB HS10.out.base) HIN.out)
                  have HIE : Hid (OutI R w1 w.heap.size p (.slice VA assume.length vc) fuel limit assume r s' k1 (.int .i64 count) w11) := Lib.hid ⟨s3, R11, count, rfl, HSR.out, HS12.out⟩
                  clear HS10 HS11 HM11 HS12
                  dsimp only
                  go_wp2
                  go_roundw
                  case rel => exact Lib.hid ⟨k1, HIE.out⟩
                  case measure =>
                    rw [← HK0.out]
                    exact Nat.lt_of_le_of_lt ((leastK_spec (P := fun k => OutI R w1 w.heap.size p (.slice VA assume.length vc) fuel limit assume r s' k (.int .i64 count) w11) ⟨k1, HIE.out⟩).2 k1 HIE.out) HK1L.out
            | some c =>
              obtain ⟨bc, rfl, hbc⟩ := hcl
              unfold searchB at hse
              simp only at hse
              split at hse
              case isTrue => cases hse
              rename_i hgd
              have hgd' : 0 ≤ sB.conflicts ∧ sB.conflicts ≤ 1099511627776 ∧ 0 ≤ count ∧ count ≤ 1099511627776 := by simpa using hgd
              obtain ⟨ids, vv, hv, pv, lv, tv, mv, bm, kvs, H⟩ := hSea.sol
              obtain ⟨_, _, _, _, _, _, _, _, c8, _⟩ := H.cells
              have hzp : ∀ i, wr.frozen? ⟨p, i, none⟩ = false := fun i => blk_free H.box i
              obtain ⟨HT, HTM⟩ := H.tell_conflicts (sB.conflicts + 1)
              have HS := Lib.hid hSea
              have HS5 := Lib.hid (hSea.step ⟨_, _, _, _, _, _, _, _, _, HT⟩ (HTM.any.toB hSea.base) HIN.out)
              have HSE := Lib.hid hse
              have HBC := Lib.hid hbc
              have hw1 : wrap64 (sB.conflicts + 1) = sB.conflicts + 1 := by unfold wrap64; omega
              have hw2 : wrap64 (count + 1) = count + 1 := by unfold wrap64; omega
              have HCNT := Lib.hid hgd'
              clear H hSea hse hgd hgd' hbc HT HTM
              go_wp2_with fail
              try rw [hw1]
              obtain ⟨w5, hw5⟩ : ∃ w5, w5 = wr.setCell ⟨p, 8, none⟩ (.int .i64 (sB.conflicts + 1)) := ⟨_, rfl⟩
              rw [← hw5] at HS5 ⊢
              clear hw5 hzp c8 HS hw1
              refine (level_calls HS5.out.sol).mono ?_
              rintro e w6 ⟨rfl, hf6⟩
              have HS6 := Lib.hid (HS5.out.frm0 hf6 HIN.out)
              clear hf6 HS5
              dsimp only
              have hse := HSE.out
              by_cases hl0 : levelF ({ sB with conflicts := sB.conflicts + 1 } : St) = 0
              · have el : (levelF ({ sB with conflicts := sB.conflicts + 1 } : St) == 0) = true := by simpa using hl0
                rw [if_pos hl0] at hse
                have hrs := Option.some.inj hse
                injection hrs with hr1 hr2
                subst hr2
                have hra := HRR.out
                rw [← hr1] at hra
                injection hra with hr3 hr4
                subst hr3
                subst hr4
                obtain ⟨ids, vv, hv', pv, lv, tv, mv, bm, kvs, H⟩ := HS6.out.sol
                have HX := Lib.hid H
                have hzp : ∀ i, w6.frozen? ⟨p, i, none⟩ = false := fun i => blk_free H.box i
                obtain ⟨_, _, _, _, _, _, _, _, _, _, _, c11⟩ := H.cells
                obtain ⟨HT, HTM⟩ := H.tell_broken true
                have HS7 := Lib.hid (HS6.out.step ⟨_, _, _, _, _, _, _, _, _, HT⟩ (HTM.any.toB HS6.out.base) HIN.out)
                have hnp : ¬ w.heap.size = p := fun e => by
                  have h1 := HS6.out.mov.out HS6.out.lt HS6.out.out
                  rw [e, H.rme] at h1
                  cases h1
                have hnp2 : ¬ p = w.heap.size := fun e => hnp e.symm
                have b0 : w6.cell? ⟨w.heap.size, 0, none⟩ = some (.bool false) := blk_cell HS6.out.ans 0
                have b1 : w6.cell? ⟨w.heap.size, 1, none⟩ = some (.slice none 0 0) := blk_cell HS6.out.ans 1
                have b2 : w6.cell? ⟨w.heap.size, 2, none⟩ = some (.slice none 0 0) := blk_cell HS6.out.ans 2
                have bz : ∀ i, w6.frozen? ⟨w.heap.size, i, none⟩ = false := fun i => blk_free HS6.out.ans i
                obtain ⟨hh, hp⟩ := HS7.out.done (a := noAns) (err := 0) (Nat.le_refl _) HM0.out (Row.nil _ _ _) (Row.nil _ _ _) (fun g hg => by rcases hg with hg | hg <;> cases hg)
                have HHH := Lib.hid hh
                have HPP := Lib.hid hp
                clear H HT HTM hse hr1 hl0 HSE hh hp HS7 HS6
                go_wp2
                try rw [Exit.noGoto_ret]
                refine bodyPost_ret (results_ans rfl _ _ w.heap.size _ _ _ _ _ rfl HHH.out) rfl ?_
                exact HPP.out
              · have el : (levelF ({ sB with conflicts := sB.conflicts + 1 } : St) == 0) = false := by simpa using hl0
                rw [if_neg hl0] at hse
                split at hse
                case h_1 => cases hse
                rename_i s3 hcf
                unfold conflictF at hcf
                split at hcf
                case h_1 => cases hcf
                rename_i q s7 hle
                obtain ⟨lits, bk⟩ := q
                obtain ⟨s8, htk, hbp⟩ := Option.bind_eq_some_iff.1 hcf
                have HSE2 := Lib.hid hse
                have HTK := Lib.hid htk
                have HBP := Lib.hid hbp
                have HLE := Lib.hid (learn_calls HS6.out.sol c bc HBC.out lits bk hle)
                clear hse hcf hle htk hbp hl0 HSE
                go_wp2_with fail
                refine HLE.out.mono ?_
                rintro e w7 ⟨v7, R7, rfl, hr7, ho7, HS7, HM7⟩
                have HS8 := Lib.hid (HS6.out.step HS7 (HM7.any.toB HS6.out.base) HIN.out)
                have HTC := Lib.hid (take_calls HS7 lits v7 hr7 w1.heap.size (Nat.le_trans HS6.out.base HM7.1.size) (fun g hg => ⟨(ho7 g hg).1, Nat.le_trans HS6.out.base (ho7 g hg).2⟩) bk HTK.out)
                clear hr7 ho7 HS7 HM7 HLE HS6 HTK
                dsimp only
                go_wp2_with fail
                refine HTC.out.mono ?_
                rintro e w8 ⟨rfl, R8, HS9, HM9⟩
                have HSX := Lib.hid (HS8.out.step HS9 HM9 HIN.out)
                clear HS9 HM9 HTC HS8
                dsimp only
                have hbp := HBP.out
                split at hbp
                case isTrue => cases hbp
                rename_i hgb
                have hgb' : 0 ≤ s8.bump ∧ s8.bump ≤ 1152921504606846976 := by simpa using hgb
                obtain rfl := Option.some.inj hbp
                obtain ⟨ids, vv, hv', pv, lv, tv, mv, bm, kvs, H⟩ := HSX.out.sol
                obtain ⟨_, _, _, _, _, _, _, _, _, _, c10, _⟩ := H.cells
                have hzp : ∀ i, w8.frozen? ⟨p, i, none⟩ = false := fun i => blk_free H.box i
                have e0 : Int.tdiv s8.bump 16 = s8.bump / 16 := Int.tdiv_eq_ediv_of_nonneg hgb'.1
                have hx1 : wrap64 (s8.bump / 16) = s8.bump / 16 := by unfold wrap64; omega
                have hx2 : wrap64 (1 + s8.bump / 16) = 1 + s8.bump / 16 := by unfold wrap64; omega
                have hx3 : wrap64 (s8.bump + (1 + s8.bump / 16)) = s8.bump + (1 + s8.bump / 16) := by unfold wrap64; omega
                obtain ⟨HT, HTM⟩ := H.tell_bump (s8.bump + (1 + s8.bump / 16))
                have HS9 := Lib.hid (HSX.out.step ⟨_, _, _, _, _, _, _, _, _, HT⟩ (HTM.any.toB HSX.out.base) HIN.out)
                clear H HT HTM hbp hgb hgb' HBP
                go_wp2_with fail
                refine Plan.wp_region_plan [0, 1, 3, 7, 0, 16, 48, 112, 240, 496, 1023, 2047, 4095, 8191] [.mk [0, 1, 2, 3, 4, 5, 6, 7, 8, 9, 10, 11, 12] 13 []] [] (by kernel_rfl) (by kernel_rfl) ?_
                simp only [Plan.wayOf, Plan.pickAll, List.getElem?_cons_zero, List.getElem?_cons_succ, List.getD_eq_getElem?_getD, Option.getD_some]
                refine Plan.wpWay_seg ?_
                repeat go_big_quiet_step (fail)
                refine wpQuiet_nil ?_; refine Plan.wpWay_act ?_
                go_wp2_with (fail)
                refine And.intro Plan.again_nil ?_
                refine Plan.wpWay_last ?_
                refine wpQuiet_nil ?_; refine NoPanic.normal ?_
                obtain ⟨w9, hw9⟩ : ∃ w9, w9 = (w8.setCell ⟨p, 10, none⟩ (.int .i64 (s8.bump + (1 + s8.bump / 16)))).drew := ⟨_, rfl⟩
                rw [← hw9]
                have HS10 := Lib.hid (HS9.out.frm0 (w'' := w9) (by rw [hw9]; exact (Frm.refl _ _).drew) HIN.out)
                clear hw9 e0 hx1 hx2 hx3 c10 hzp HS9 HSX
                obtain ⟨s9, hs9⟩ : ∃ s9 : St, s9 = { s8 with bump := s8.bump + (1 + s8.bump / 16) } := ⟨_, rfl⟩
                rw [← hs9] at HS10 HSE2
                clear hs9
                by_cases hlim : 0 < limit ∧ limit ≤ count + 1
                · have hl1 := hlim.1
                  have hl2 := hlim.2
                  have hse := HSE2.out
                  rw [if_pos hlim] at hse
                  obtain ⟨s10, hb10, hrs⟩ := Option.map_eq_some_iff.1 hse
                  injection hrs with hr1 hr2
                  subst hr2
                  have hra := HRR.out
                  rw [← hr1] at hra
                  injection hra with hr3 hr4
                  subst hr3
                  subst hr4
                  have HB10 := Lib.hid (back_calls HS10.out.sol 0 hb10)
                  clear hse hlim hr1 hb10 HSE2
                  go_wp2_with fail
                  refine HB10.out.mono ?_
                  rintro e w11 ⟨rfl, R11, HS11, HM11⟩
                  have HS12 := Lib.hid (HS10.out.step HS11 (HM11.any.toB HS10.out.base) HIN.out)
                  clear HS11 HM11 HS10 HB10
                  dsimp only
                  have b0 : w11.cell? ⟨w.heap.size, 0, none⟩ = some (.bool false) := blk_cell HS12.out.ans 0
                  have b1 : w11.cell? ⟨w.heap.size, 1, none⟩ = some (.slice none 0 0) := blk_cell HS12.out.ans 1
                  have b2 : w11.cell? ⟨w.heap.size, 2, none⟩ = some (.slice none 0 0) := blk_cell HS12.out.ans 2
                  have bz : ∀ i, w11.frozen? ⟨w.heap.size, i, none⟩ = false := fun i => blk_free HS12.out.ans i
                  obtain ⟨hh, hp⟩ := HS12.out.done (a := noAns) (err := 70) (Nat.le_refl _) HM0.out (Row.nil _ _ _) (Row.nil _ _ _) (fun g hg => by rcases hg with hg | hg <;> cases hg)
                  have HHH := Lib.hid hh
                  have HPP := Lib.hid hp
                  clear hh hp
                  go_wp2
                  try rw [Exit.noGoto_ret]
                  refine bodyPost_ret (results_ans rfl _ _ w.heap.size _ _ _ _ _ rfl HHH.out) rfl ?_
                  exact HPP.out
                · have hse := HSE2.out
                  rw [if_neg hlim] at hse
                  obtain ⟨s10, hb10, hrs⟩ := Option.bind_eq_some_iff.1 hse
                  split at hrs
                  case isTrue => cases hrs
                  rename_i hnb
                  have HSE3 := Lib.hid hrs
                  have HNB := Lib.hid hnb
                  have hwm : Int.tmod (count + 1) 64 = (count + 1) % 64 := Int.tmod_eq_emod_of_nonneg (by have := HCNT.out; omega)
                  have hwn : wrap64 ((count + 1) % 64) = (count + 1) % 64 := by unfold wrap64; omega
                  have hsel : (0 < limit ∧ ¬ limit ≤ count + 1) ∨ (¬ 0 < limit ∧ True) := by
                    by_cases hq : 0 < limit
                    · exact .inl ⟨hq, fun e => hlim ⟨hq, e⟩⟩
                    · exact .inr ⟨hq, trivial⟩
                  clear hse hrs hnb hlim HSE2
                  cases k1 with
                  | zero => cases HSE3.out
                  | succ k2 =>
                  have hsr := HSE3.out
                  rw [searchF_succ, if_neg HNB.out] at hsr
                  obtain ⟨q2, hsp2, hse4⟩ := Option.bind_eq_some_iff.1 hsr
                  obtain ⟨res2, s12⟩ := q2
                  have HSP2 := Lib.hid hsp2
                  have HSE4 := Lib.hid hse4
                  clear hsr hsp2 hse4 HSE3 HNB
                  by_cases hm : (count + 1) % 64 = 0
                  · have em : ((count + 1) % 64 == 0) = true := by simpa using hm
                    rw [if_pos hm] at hb10
                    have HB10 := Lib.hid (back_calls HS10.out.sol 0 hb10)
                    clear hm hb10
                    rcases hsel with ⟨hl1, hl2⟩ | ⟨hl1, hl2⟩
                    all_goals
                      go_wp2_with fail
                      refine HB10.out.mono ?_
                      rintro e w11 ⟨rfl, R11, HS11, HM11⟩
                      have HS12 := Lib.hid (HS10.out.step HS11 (HM11.any.toB HS10.out.base) HIN.out)
                      clear HS11 HM11 HS10 HB10
                      dsimp only
                      go_wp2_with fail
                      refine (spread_calls HS12.out.sol fuel res2 HSP2.out).mono ?_
                      rintro e w13 ⟨A13, R13, rfl, hcl13, HS13, HM13⟩
                      have HS14 := Lib.hid (HS12.out.step HS13 (HM13.any.toB HS12.out.base) HIN.out)
                      have HIE : Hid (InI R w1 w.heap.size p (.slice VA assume.length vc) fuel limit assume r s' k2 (.int .i64 (count + 1)) (.pointer A13) w13) := Lib.hid ⟨s12, R13, count + 1, res2, A13, rfl, rfl, hcl13, HSE4.out, HS14.out⟩
                      clear HS13 HM13 hcl13 HS14 HS12
                      dsimp only
                      go_wp2
                      go_roundw
                      case rel => exact Lib.hid ⟨k2, Nat.lt_of_succ_lt HK1L.out, HIE.out⟩
                      case measure =>
                        rw [← HK1.out]
                        exact Nat.lt_of_le_of_lt ((leastK_spec (P := fun k => InI R w1 w.heap.size p (.slice VA assume.length vc) fuel limit assume r s' k (.int .i64 (count + 1)) (.pointer A13) w13) ⟨k2, HIE.out⟩).2 k2 HIE.out) (Nat.lt_succ_self _)
                  · have em : ((count + 1) % 64 == 0) = false := by simpa using hm
                    rw [if_neg hm] at hb10
                    obtain rfl := Option.some.inj hb10
                    clear hm hb10
                    rcases hsel with ⟨hl1, hl2⟩ | ⟨hl1, hl2⟩
                    all_goals
                      go_wp2_with fail
                      refine (spread_calls HS10.out.sol fuel res2 HSP2.out).mono ?_
                      rintro e w13 ⟨A13, R13, rfl, hcl13, HS13, HM13⟩
                      have HS14 := Lib.hid (HS10.out.step HS13 (HM13.any.toB HS10.out.base) HIN.out)
                      have HIE : Hid (InI R w1 w.heap.size p (.slice VA assume.length vc) fuel limit assume r s' k2 (.int .i64 (count + 1)) (.pointer A13) w13) := Lib.hid ⟨s12, R13, count + 1, res2, A13, rfl, rfl, hcl13, HSE4.out, HS14.out⟩
                      clear HS13 HM13 hcl13 HS14 HS10
                      dsimp only
                      go_wp2
                      go_roundw
                      case rel => exact Lib.hid ⟨k2, Nat.lt_of_succ_lt HK1L.out, HIE.out⟩
                      case measure =>
                        rw [← HK1.out]
                        exact Nat.lt_of_le_of_lt ((leastK_spec (P := fun k => InI R w1 w.heap.size p (.slice VA assume.length vc) fuel limit assume r s' k (.int .i64 (count + 1)) (.pointer A13) w13) ⟨k2, HIE.out⟩).2 k2 HIE.out) (Nat.lt_succ_self _)
end
end SaW
end Go.Proofs.Ytfpjfogddepbkaa
/- A solver that is a call's own; the document's Same, Has, Right, walked. -/
namespace Go.Proofs.Ytfpjfogddepbkaa
open Go.RowKit Go.Mem Go.Sat
namespace SaW
/-- A solver made since a world: nothing that was there has turned. -/
structure Own (w : World) (R : Nat → Option Role) (w' : World) (p : Nat) (s : St) : Prop where
  sol : SolverAt w' R p s
  frm : Frm (fun _ => False) w w'
  new : ∀ b, R b ≠ none → w.heap.size ≤ b
section
variable {w w1 w2 : World} {R R' : Nat → Option Role} {p : Nat} {s s' : St}
theorem Own.step {T : Role → Prop} (h : Own w R w1 p s) (hS : SolverAt w2 R' p s') (hM : SMov T R w1 R' w2) : Own w R' w2 p s' :=
  ⟨hS, h.frm.trans hM.1 fun x hx ⟨r, hr, _⟩ => by have := h.new x (by rw [hr]; exact fun e => by cases e); omega,
    fun b hb => (hM.2.2 b hb).elim (h.new b) fun e => Nat.le_trans h.frm.size e⟩
theorem Own.frm0 (h : Own w R w1 p s) (hf : Frm (fun _ => False) w1 w2) : Own w R w2 p s := ⟨h.sol.frm0 hf, h.frm.trans hf fun _ _ e => e.elim, h.new⟩
theorem Own.out (h : Own w R w1 p s) {b : Nat} (hb : b < w.heap.size) : R b = none := by
  cases hq : R b with
  | none => rfl
  | some r => have := h.new b (by rw [hq]; exact fun e => by cases e); omega
theorem Own.fresh (h : Own w R w1 p s) {b : Nat} (hb : w1.heap.size ≤ b) : R b = none := by
  obtain ⟨_, _, _, _, _, _, _, _, _, H⟩ := h.sol
  exact none_of H hb
theorem outOf_new {R : Nat → Option Role} {n len cap : Nat} (h : R n = none) : OutOf R (.slice (some ⟨n, 0, none⟩) len cap) := fun g hg => by
  obtain ⟨o, n', c, e⟩ := hg
  cases e
  exact h
theorem outOf_nil {R : Nat → Option Role} : OutOf R (.slice none 0 0) := fun g hg => by
  obtain ⟨o, n', c, e⟩ := hg
  cases e
end
section
variable {w : World}
set_option maxRecDepth 100000 in
set_option maxHeartbeats 1000000 in
theorem same_calls (va vb : Value) (a b : List Int) (hA : Sees w iI va a) (hB : Sees w iI vb b) : Calls Try.prog 11 #[va, vb] w fun e w' => e = .returned (.bool (decide (a = b))) ∧ Frm (fun _ => False) w w' := by
  have hla : a.length ≤ 9223372036854775807 := hA.len
  have hlb : b.length ≤ 9223372036854775807 := hB.len
  obtain ⟨VA, ca, rfl, hca⟩ := sees_slice hA
  obtain ⟨VB, cb, rfl, hcb⟩ := sees_slice hB
  have HA := Lib.hid hA
  have HB := Lib.hid hB
  clear hA hB
  go_enter Try.func11, Try.ntmps11
  by_cases hl : a.length = b.length
  · have e1 : ((a.length : Int) != (b.length : Int)) = false := by simp [hl]
    have HL := Lib.hid hl
    have hcA := Lib.hid hca
    have hcB := Lib.hid hcb
    clear hl hca hcb
    go_wp2_with fail
    go_loopw [5] (fun v5 w' => ∃ j : Nat, v5 = .int .i64 j ∧ j ≤ a.length ∧ Hid (a.take j = b.take j) ∧ Frm (fun _ => False) w w') (fun v5 _ => a.length - (intOf v5).toNat)
    case atStart => exact ⟨0, rfl, by omega, Lib.hid rfl, Frm.refl _ _⟩
    case round =>
      obtain ⟨j, rfl, hj, hT, hF⟩ := hrel
      by_cases hjl : j < a.length
      · have hjI : (j : Int) < (a.length : Int) := by omega
        obtain ⟨x, hx⟩ : ∃ x, a[j]? = some x := ⟨_, List.getElem?_eq_getElem hjl⟩
        obtain ⟨y, hy⟩ : ∃ y, b[j]? = some y := ⟨_, List.getElem?_eq_getElem (by have := HL.out; omega)⟩
        obtain ⟨ga, oa, rfl, xa⟩ := hcA.out j x hx
        obtain ⟨gb, ob, rfl, xb⟩ := hcB.out j y hy
        have ya : wr.cell? ⟨ga, oa + j, none⟩ = some (.int .i64 x) := by
          rw [← xa]; simp only [World.cell?, hF.block ga (World.block_lt_of_cell? _ _ xa) id]
        have yb : wr.cell? ⟨gb, ob + j, none⟩ = some (.int .i64 y) := by
          rw [← xb]; simp only [World.cell?, hF.block gb (World.block_lt_of_cell? _ _ xb) id]
        have hjb : j < b.length := by have := HL.out; omega
        have HX := Lib.hid hx
        have HY := Lib.hid hy
        have HF := Lib.hid hF
        clear hx hy hF xa xb HL
        by_cases hxy : x = y
        · have exy : (x == y) = true := by simpa using hxy
          have HXY := Lib.hid hxy
          clear hxy
          go_wp2_with fail
          go_quiet (fail)
          go_wp2
          go_roundw
          case rel => exact ⟨j + 1, rfl, hjl, Lib.hid (by rw [List.take_add_one, List.take_add_one, hT.out, HX.out, HY.out, HXY.out]), HF.out.drewN _⟩
          case measure => simp only [intOf]; omega
        · have exy : (x == y) = false := by simpa using hxy
          have hne : Hid (decide (a = b) = false) := Lib.hid <| by
            rw [decide_eq_false_iff_not]
            intro e
            have h1 := HX.out
            rw [e, HY.out] at h1
            exact hxy (Option.some.inj h1).symm
          clear hxy
          go_wp2_with fail
          go_quiet (fail)
          go_wp2
          go_ret
          exact ⟨by rw [hne.out]; rfl, HF.out.drewN _⟩
      · have hjI : ¬ (j : Int) < (a.length : Int) := by omega
        have heq : Hid (decide (a = b) = true) := Lib.hid <| by
          rw [decide_eq_true_iff]
          have h1 := hT.out
          rw [List.take_of_length_le (by omega), List.take_of_length_le (by have := HL.out; omega)] at h1
          exact h1
        have HF := Lib.hid hF
        clear hF hT
        go_wp2
        go_ret
        exact ⟨by rw [heq.out]; rfl, HF.out⟩
  · have e1 : ((a.length : Int) != (b.length : Int)) = true := by simp only [bne_iff_ne, ne_eq]; omega
    have hne : Hid (decide (a = b) = false) := Lib.hid <| by
      rw [decide_eq_false_iff_not]
      intro e
      exact hl (by rw [e])
    clear hl hca hcb
    go_wp2
    go_ret
    exact ⟨by rw [hne.out]; rfl, Frm.refl _ _⟩
set_option maxRecDepth 100000 in
set_option maxHeartbeats 1000000 in
theorem rright_calls (n : Int) : Calls Try.prog 40 #[.int .i64 n] w fun e w' => e = .returned (.bool (rightF n)) ∧ w' = w := by
  by_cases h0 : n = 0
  · subst h0
    go_enter Try.func40, Try.ntmps40
    go_wp2
    go_ret
    exact ⟨rfl, rfl⟩
  · have e0 : (n != 0) = true := by simpa using h0
    by_cases h1 : -1048576 ≤ n
    · have e1 : decide (-1048576 ≤ n) = true := by simpa using h1
      have hr : Hid (rightF n = decide (n ≤ 1048576)) := Lib.hid (by unfold rightF; simp [h0, h1])
      clear h0 h1
      go_enter Try.func40, Try.ntmps40
      go_wp2
      go_ret
      exact ⟨by rw [hr.out]; rfl, rfl⟩
    · have e1 : decide (-1048576 ≤ n) = false := by simpa using h1
      have hr : Hid (rightF n = false) := Lib.hid (by unfold rightF; simp [h1])
      clear h0 h1
      go_enter Try.func40, Try.ntmps40
      go_wp2
      go_ret
      exact ⟨by rw [hr.out]; rfl, rfl⟩
set_option maxRecDepth 100000 in
set_option maxHeartbeats 1000000 in
theorem has_calls (va : Value) (a : List Int) (n : Int) (hA : Sees w iI va a) : Calls Try.prog 41 #[va, .int .i64 n] w fun e w' => e = .returned (.bool (decide (n ∈ a))) ∧ w' = w := by
  have hla : a.length ≤ 9223372036854775807 := hA.len
  obtain ⟨VA, ca, rfl, hca⟩ := sees_slice hA
  have hcA := Lib.hid hca
  clear hca hA
  go_enter Try.func41, Try.ntmps41
  go_wp2_with fail
  go_loopw [5] (fun v5 w' => ∃ j : Nat, v5 = .int .i64 j ∧ j ≤ a.length ∧ Hid (n ∉ a.take j) ∧ w' = w) (fun v5 _ => a.length - (intOf v5).toNat)
  case atStart => exact ⟨0, rfl, by omega, Lib.hid (by simp), rfl⟩
  case round =>
    obtain ⟨j, rfl, hj, hT, hF⟩ := hrel
    subst hF
    by_cases hjl : j < a.length
    · have hjI : (j : Int) < (a.length : Int) := by omega
      obtain ⟨x, hx⟩ : ∃ x, a[j]? = some x := ⟨_, List.getElem?_eq_getElem hjl⟩
      obtain ⟨ga, oa, rfl, xa⟩ := hcA.out j x hx
      have ya : wr.cell? ⟨ga, oa + j, none⟩ = some (.int .i64 x) := xa
      have HX := Lib.hid hx
      clear hx xa
      by_cases hxy : x = n
      · have exy : (x == n) = true := by simpa using hxy
        have hm : Hid (decide (n ∈ a) = true) := Lib.hid <| by
          rw [decide_eq_true_iff, ← hxy]
          exact List.mem_of_getElem? HX.out
        clear hxy
        go_wp2
        go_ret
        exact ⟨by rw [hm.out]; rfl, rfl⟩
      · have exy : (x == n) = false := by simpa using hxy
        have hT2 : Hid (n ∉ a.take (j + 1)) := Lib.hid (by
          rw [List.take_add_one, HX.out]
          intro e
          rcases List.mem_append.1 e with e | e
          · exact hT.out e
          · simp at e; exact hxy e.symm)
        clear hxy hT
        go_wp2
        go_roundw
        case rel => exact ⟨j + 1, rfl, hjl, hT2, by trivial⟩
        case measure => simp only [intOf]; omega
    · have hjI : ¬ (j : Int) < (a.length : Int) := by omega
      have hm : Hid (decide (n ∈ a) = false) := Lib.hid <| by
        rw [decide_eq_false_iff_not]
        have h1 := hT.out
        rw [List.take_of_length_le (by omega)] at h1
        exact h1
      clear hT
      go_wp2
      go_ret
      exact ⟨by rw [hm.out]; rfl, rfl⟩
end
end SaW
end Go.Proofs.Ytfpjfogddepbkaa
/- What came in: slices of any make, read; append of all of one onto a row of the call's own. -/
namespace Go.Mem
open Go.RowKit
/-- A slice that came in: an empty one may point anywhere. -/
def SeesW {α : Type} (w : World) (enc : α → Value) (v : Value) (xs : List α) : Prop :=
  ∃ A c, v = .slice A xs.length c ∧ xs.length ≤ maxLen ∧ ∀ (i : Nat) x, xs[i]? = some x → ∃ g o, A = some ⟨g, o, none⟩ ∧ w.cell? ⟨g, o + i, none⟩ = some (enc x)
section
variable {α : Type} {w w' : World} {enc : α → Value} {v : Value} {xs : List α}
theorem SeesW.len (h : SeesW w enc v xs) : xs.length ≤ maxLen := by obtain ⟨_, _, _, h, _⟩ := h; exact h
theorem SeesW.slice (h : SeesW w enc v xs) : ∃ A c, v = .slice A xs.length c ∧ ∀ (i : Nat) x, xs[i]? = some x → ∃ g o, A = some ⟨g, o, none⟩ ∧ w.cell? ⟨g, o + i, none⟩ = some (enc x) := by obtain ⟨A, c, h1, _, h2⟩ := h; exact ⟨A, c, h1, h2⟩
theorem Sees.weak (h : Sees w enc v xs) : SeesW w enc v xs := by
  have hl := h.len
  rcases h with ⟨rfl, rfl⟩ | ⟨g, o, cap, rfl, _, _, hc⟩
  · exact ⟨none, 0, rfl, hl, fun i x hx => by simp at hx⟩
  · exact ⟨_, cap, rfl, hl, fun i x hx => ⟨g, o, rfl, hc i x hx⟩⟩
theorem SeesW.frm0 (h : SeesW w enc v xs) (hf : Frm (fun _ => False) w w') : SeesW w' enc v xs := by
  obtain ⟨A, c, h1, h2, h3⟩ := h
  refine ⟨A, c, h1, h2, fun i x hx => ?_⟩
  obtain ⟨g, o, e, hc⟩ := h3 i x hx
  exact ⟨g, o, e, (World.cell?_of_block (hf.block g (World.block_lt_of_cell? _ _ hc) id)).trans hc⟩
end
section
variable {P : Program} {w : World}
theorem run_append_seesw (t ty e : TypeId) (i : TypeInfo) (z : Value) (bytes : Nat) (ht : P.underlying t = some (.slice e)) (hi : P.info? e = some i) (hz : i.zero = some z)
    (hsize : i.size = 1) (hby : i.bytes = bytes) (hzs : z.cells.size = 1) {α : Type} {enc : α → Value} (h1 : ∀ y, (enc y).oneCell' = true)
    (v : Value) (xs ys : List α) (hrow : Row w e enc v xs) (u : Value) (hs : SeesW w enc u ys) (h63 : xs.length + ys.length ≤ maxLen) (hbytes : (xs.length + ys.length) * bytes ≤ 140737488355328) :
    ∃ v' w', (Builtin.append_ #[t, t] ty #[v, u]).run P w = .ok v' w' ∧ Row w' e enc v' (xs ++ ys) ∧ Frm (fun b => v.ownBlock = some b) w w' ∧ ∀ g, v'.ownBlock = some g → v.ownBlock = some g ∨ g = w.heap.size := by
  obtain ⟨A, c, rfl, hl, hc⟩ := hs
  cases ys with
  | nil =>
    refine ⟨v, w, ?_, by simpa using hrow, Frm.refl _ _, fun g hg => .inl hg⟩
    rcases hrow.2 with ⟨rfl, hl⟩ | ⟨g, cap, cur, rfl, _, _, hnc, _⟩
    · cases A <;> simp [Builtin.append_, run_underlying ht, sizeOf, typeInfo, hi, Builtin.lenOf, Builtin.firstCells, loadCells, loadCellsFrom]
    · cases A <;> simp [Builtin.append_, run_underlying ht, sizeOf, typeInfo, hi, Builtin.lenOf, Builtin.firstCells, hnc, storeCells, loadCells, loadCellsFrom]
  | cons y r =>
    obtain ⟨g, o, rfl, _⟩ := hc 0 y rfl
    obtain ⟨v', w', hrun, h2, h3, _, h5⟩ := run_append_own_at (P := P) (ty := ty) w 0 t e i z 1 bytes ht hi hz hsize hby hzs (by decide) v xs.length (xs.map enc) hrow ⟨g, o, none⟩ (y :: r).length c ((y :: r).map enc) (by simp) (fun j u hj => by
      rw [List.getElem?_map] at hj
      obtain ⟨y', hy, rfl⟩ := Option.map_eq_some_iff.1 hj
      obtain ⟨g', o', e', hcell⟩ := hc j y' hy
      cases e'
      have e : (⟨g, o, none⟩ : Addr).add j = ⟨g, o + j, none⟩ := by simp only [Addr.add]; split <;> simp_all
      rw [e]; exact hcell) (fun u hu => by
      obtain ⟨y, _, rfl⟩ := List.mem_map.1 hu
      exact h1 y) h63 hbytes (Nat.zero_le _)
    refine ⟨v', w', hrun, ?_, Frm.of_grown h3, fun g' hg' => ?_⟩
    · show w'.ownsRow 0 e 1 v' (xs ++ y :: r).length ((xs ++ y :: r).map enc)
      rw [List.length_append, List.map_append]; exact h2
    · rcases h5 with h5 | h5
      · exact .inl (by rw [← h5]; exact hg')
      · rw [h5] at hg'; cases hg'; exact .inr rfl
theorem wpList_append_seesw {ops : Array Oper} {rest : List Oper} {o : Oper} {a : Act} {Q : Exit → Act → World → Prop} (hgd : o.guard = none) (s x : Operand) (t : TypeId)
    (ho : o.op = .call { callee := .builtin .append, args := #[s, x], argTypes := #[t, t] })
    (e : TypeId) (i : TypeInfo) (z : Value) (bytes : Nat) (ht : P.underlying t = some (.slice e)) (hi : P.info? e = some i) (hz : i.zero = some z)
    (hsize : i.size = 1) (hby : i.bytes = bytes) (hzs : z.cells.size = 1) {α : Type} {enc : α → Value} (h1 : ∀ y, (enc y).oneCell' = true)
    (v : Value) (xs ys : List α) (hv : a.eval s = v) (hrow : Row w e enc v xs) (u : Value) (hu : a.eval x = u) (hs : SeesW w enc u ys) (h63 : xs.length + ys.length ≤ maxLen) (hbytes : (xs.length + ys.length) * bytes ≤ 140737488355328)
    (h : ∀ v' w', Row w' e enc v' (xs ++ ys) → Frm (fun b => v.ownBlock = some b) w w' → (∀ g, v'.ownBlock = some g → v.ownBlock = some g ∨ g = w.heap.size) → wpList P ops Q rest (a.put o.dst v') w') : wpList P ops Q (o :: rest) a w := by
  refine wpList_plain hgd fun K hK => ?_
  obtain ⟨v', w', hrun, h2, h3, h4⟩ := run_append_seesw (P := P) t o.type e i z bytes ht hi hz hsize hby hzs h1 v xs ys hrow u hs h63 hbytes
  unfold Oper.wp execOp
  simp only [ho, resolve, invoke, builtin, Sem.run_bind, Sem.run_pure, Result.andThen_ok, List.map_toArray, List.map_cons, List.map_nil, hv, hu, hrun]
  exact hK _ _ (h v' w' h2 h3 h4)
theorem wpList_append_want {ops : Array Oper} {rest : List Oper} {o : Oper} {a : Act} {Q : Exit → Act → World → Prop} (hw : Region.wanted o (yielded ops a.tmps) = true) (s x : Operand) (t : TypeId)
    (ho : o.op = .call { callee := .builtin .append, args := #[s, x], argTypes := #[t, t] })
    (e : TypeId) (i : TypeInfo) (z : Value) (bytes : Nat) (ht : P.underlying t = some (.slice e)) (hi : P.info? e = some i) (hz : i.zero = some z)
    (hsize : i.size = 1) (hby : i.bytes = bytes) (hzs : z.cells.size = 1) {α : Type} {enc : α → Value} (h1 : ∀ y, (enc y).oneCell' = true)
    (v : Value) (xs ys : List α) (hv : a.eval s = v) (hrow : Row w e enc v xs) (u : Value) (hu : a.eval x = u) (hs : SeesW w enc u ys) (h63 : xs.length + ys.length ≤ maxLen) (hbytes : (xs.length + ys.length) * bytes ≤ 140737488355328)
    (h : ∀ v' w', Row w' e enc v' (xs ++ ys) → Frm (fun b => v.ownBlock = some b) w w' → (∀ g, v'.ownBlock = some g → v.ownBlock = some g ∨ g = w.heap.size) → wpList P ops Q rest (a.put o.dst v') w') : wpList P ops Q (o :: rest) a w := by
  refine BigFrame.wpList_want hw fun K hK => ?_
  obtain ⟨v', w', hrun, h2, h3, h4⟩ := run_append_seesw (P := P) t o.type e i z bytes ht hi hz hsize hby hzs h1 v xs ys hrow u hs h63 hbytes
  unfold Oper.wp execOp
  simp only [ho, resolve, invoke, builtin, Sem.run_bind, Sem.run_pure, Result.andThen_ok, List.map_toArray, List.map_cons, List.map_nil, hv, hu, hrun]
  exact hK _ _ (h v' w' h2 h3 h4)
end
end Go.Mem
