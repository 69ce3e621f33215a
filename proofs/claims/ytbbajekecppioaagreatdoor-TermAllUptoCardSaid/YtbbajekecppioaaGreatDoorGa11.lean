/- The pool's meet, join, choice walked. -/
import Derived.Test.YtbbajekecppioaaGreatDoorGa10
set_option linter.unusedSimpArgs false
set_option linter.unusedVariables false
namespace Go.Proofs.YtbbajekecppioaaGreatDoor
open Go.RowKit Go.Mem Go.Wd Go.Tp
namespace TmW
abbrev mx : Nat := 18446744073709551615
def meetF (s : TPool) (a b : Int) : Int × Bool :=
 if (a == b) = true then (a, true) else if isNumF s b mx = true then (a, true) else if isNumF s a mx = true then (b, true) else if isNumF s a 0 = true then (a, true) else if isNumF s b 0 = true then (b, true) else (0, false)
def joinF (s : TPool) (a b : Int) : Int × Bool :=
 if (a == b) = true then (a, true) else if isNumF s b 0 = true then (a, true) else if isNumF s a 0 = true then (b, true) else if isNumF s a mx = true then (a, true) else if isNumF s b mx = true then (b, true) else (0, false)
theorem isNum_lit {w : World} {own : Nat → Prop} {p : Nat} {s : TPool} (hE : Env w) (h : PoolAt w own p s) (f : Int) (v : Nat) (c : Int) (hc : ((v : Nat) : Int) = c) (hv : v < 2 ^ 64) :
  Calls Tryz.prog 74 #[.pointer (some ⟨p, 0, none⟩), .int .i64 f, .int .u64 c] w fun e w' => e = .returned (.bool (isNumF s f v)) ∧ Frm (fun _ => False) w w' := by
 subst hc; exact isNum_calls hE h f v hv
set_option maxRecDepth 100000 in
set_option maxHeartbeats 2000000 in
theorem meet_calls {w : World} {own : Nat → Prop} {p : Nat} {s : TPool} (hE : Env w) (h : PoolAt w own p s) (a b : Int) :
  Calls Tryz.prog 72 #[.pointer (some ⟨p, 0, none⟩), .int .i64 a, .int .i64 b] w fun e w' => e = .returned (.tuple #[.int .i64 (meetF s a b).1, .bool (meetF s a b).2]) ∧ Frm (fun _ => False) w w' := by
 have H0 := Lib.hid (fun f w1 (hf : Frm (fun _ => False) w w1) => isNum_lit (hE.frm0 hf) (h.frm0 hf) f 0 0 rfl (by decide))
 have HM := Lib.hid (fun f w1 (hf : Frm (fun _ => False) w w1) => isNum_lit (hE.frm0 hf) (h.frm0 hf) f mx 18446744073709551615 rfl (by decide))
 have HF := Lib.hid (Frm.refl (fun _ => False) w)
 have hs : Hid (meetF s a b = _) := Lib.hid (by unfold meetF; rfl)
 clear hE h
 by_cases hab : a = b
 ·subst hab
  have hs' := Lib.hid (hs.out.trans (if_pos (by simp)))
  clear hs
  go_enter Tryz.func72, Tryz.ntmps72
  go_wp2_with (go_at_call 74; first | ((with_reducible refine (H0.out _ _ HF.out).mono ?_); rintro e w' ⟨rfl, hf⟩; have HF := Lib.hid (frm_then HF.out hf); clear hf) | ((with_reducible refine (HM.out _ _ HF.out).mono ?_); rintro e w' ⟨rfl, hf⟩; have HF := Lib.hid (frm_then HF.out hf); clear hf))
  go_ret2
  exact ⟨by rw [hs'.out]; rfl, HF.out⟩
 ·have d : (a == b) = false := by simp [hab]
  clear hab
  go_enter Tryz.func72, Tryz.ntmps72
  go_wp2_with (go_at_call 74; first | ((with_reducible refine (H0.out _ _ HF.out).mono ?_); rintro e w' ⟨rfl, hf⟩; have HF := Lib.hid (frm_then HF.out hf); clear hf) | ((with_reducible refine (HM.out _ _ HF.out).mono ?_); rintro e w' ⟨rfl, hf⟩; have HF := Lib.hid (frm_then HF.out hf); clear hf))
  all_goals go_ret2
  all_goals
   refine ⟨?_, HF.out⟩
   rw [hs.out]
   simp [*]
set_option maxRecDepth 100000 in
set_option maxHeartbeats 2000000 in
theorem join_calls {w : World} {own : Nat → Prop} {p : Nat} {s : TPool} (hE : Env w) (h : PoolAt w own p s) (a b : Int) :
  Calls Tryz.prog 73 #[.pointer (some ⟨p, 0, none⟩), .int .i64 a, .int .i64 b] w fun e w' => e = .returned (.tuple #[.int .i64 (joinF s a b).1, .bool (joinF s a b).2]) ∧ Frm (fun _ => False) w w' := by
 have H0 := Lib.hid (fun f w1 (hf : Frm (fun _ => False) w w1) => isNum_lit (hE.frm0 hf) (h.frm0 hf) f 0 0 rfl (by decide))
 have HM := Lib.hid (fun f w1 (hf : Frm (fun _ => False) w w1) => isNum_lit (hE.frm0 hf) (h.frm0 hf) f mx 18446744073709551615 rfl (by decide))
 have HF := Lib.hid (Frm.refl (fun _ => False) w)
 have hs : Hid (joinF s a b = _) := Lib.hid (by unfold joinF; rfl)
 clear hE h
 by_cases hab : a = b
 ·subst hab
  have hs' := Lib.hid (hs.out.trans (if_pos (by simp)))
  clear hs
  go_enter Tryz.func73, Tryz.ntmps73
  go_wp2_with (go_at_call 74; first | ((with_reducible refine (H0.out _ _ HF.out).mono ?_); rintro e w' ⟨rfl, hf⟩; have HF := Lib.hid (frm_then HF.out hf); clear hf) | ((with_reducible refine (HM.out _ _ HF.out).mono ?_); rintro e w' ⟨rfl, hf⟩; have HF := Lib.hid (frm_then HF.out hf); clear hf))
  go_ret2
  exact ⟨by rw [hs'.out]; rfl, HF.out⟩
 ·have d : (a == b) = false := by simp [hab]
  clear hab
  go_enter Tryz.func73, Tryz.ntmps73
  go_wp2_with (go_at_call 74; first | ((with_reducible refine (H0.out _ _ HF.out).mono ?_); rintro e w' ⟨rfl, hf⟩; have HF := Lib.hid (frm_then HF.out hf); clear hf) | ((with_reducible refine (HM.out _ _ HF.out).mono ?_); rintro e w' ⟨rfl, hf⟩; have HF := Lib.hid (frm_then HF.out hf); clear hf))
  all_goals go_ret2
  all_goals
   refine ⟨?_, HF.out⟩
   rw [hs.out]
   simp [*]
/-- Of a choice: the condition, and both. -/
def choiceF (s : TPool) (c a b : Int) : Int × Bool :=
 if (a == b) = true then (a, true) else if (constF s c).2 = true then (if (((constF s c).1 : Nat) : Int) == 1 then (a, true) else (b, true))
 else if typeF s a = (1, false) ∧ isNumF s a 1 = true ∧ isNumF s b 0 = true then (c, true) else (0, false)
set_option maxRecDepth 100000 in
set_option maxHeartbeats 4000000 in
theorem choice_calls {w : World} {own : Nat → Prop} {p : Nat} {s : TPool} (hE : Env w) (h : PoolAt w own p s) (c a b : Int) (lv : Value) (hl : Sees w (Value.int .i64) lv [c, a, b]) (ha : inP s a = true) :
  Calls Tryz.prog 71 #[.pointer (some ⟨p, 0, none⟩), lv] w fun e w' => e = .returned (.tuple #[.int .i64 (choiceF s c a b).1, .bool (choiceF s c a b).2]) ∧ Frm (fun _ => False) w w' := by
 have HB := Lib.hid (fun w1 (hf : Frm (fun _ => False) w w1) => isNum_lit (hE.frm0 hf) (h.frm0 hf) b 0 0 rfl (by decide))
 have HA := Lib.hid (fun w1 (hf : Frm (fun _ => False) w w1) => isNum_lit (hE.frm0 hf) (h.frm0 hf) a 1 1 rfl (by decide))
 have HC := Lib.hid (Const_calls h c)
 have HP := Lib.hid h
 obtain ⟨n, hn⟩ := nth_some (l := s.l) (f := a) (by simpa [inP] using ha)
 obtain ⟨l0, l1⟩ := nth_lt hn
 obtain ⟨op, ⟨x, sg⟩, num, v, kids⟩ := n
 have HN := Lib.hid hn
 have ht : typeF s a = (x, sg) := by unfold typeF; rw [hn]
 have hs : Hid (choiceF s c a b = _) := Lib.hid (by unfold choiceF; rw [ht])
 rcases hl with ⟨_, h⟩ | ⟨g, o, cap, rfl, hc1, hc2, hc⟩
 ·cases h
 have c0 : w.cell? ⟨g, o, none⟩ = _ := hc 0 c rfl
 have c1 := hc 1 a rfl
 have c2 := hc 2 b rfl
 generalize constF s c = cc at *
 obtain ⟨cn, ci⟩ := cc
 dsimp only at hs HC
 clear hE h ha hn ht hc
 by_cases hab : a = b
 ·have hs' := Lib.hid (hs.out.trans (if_pos (by simp [hab])))
  have dab : (a == b) = true := by simp [hab]
  clear hs hab
  go_enter Tryz.func71, Tryz.ntmps71
  go_wp2_with fail
  refine HC.out.mono ?_
  rintro e w1 ⟨rfl, hf1⟩
  have HF := Lib.hid hf1
  have d0 := frm_cell hf1 c0
  have d1 := frm_cell hf1 c1
  have d2 := frm_cell hf1 c2
  clear hf1
  go_wp2
  go_quiet (fail)
  go_wp2
  go_ret2
  exact ⟨by rw [hs'.out]; rfl, HF.out.drewN _⟩
 ·have dab : (a == b) = false := by simp [hab]
  have hs2 := Lib.hid (hs.out.trans (if_neg (by simp [hab])))
  clear hs hab
  cases ci
  case true =>
   have hs3 := Lib.hid (hs2.out.trans (if_pos rfl))
   cases dc : ((cn : Int) == 1)
   ·have hs' := Lib.hid (hs3.out.trans (if_neg (by rw [dc]; decide)))
    clear hs2 hs3
    go_enter Tryz.func71, Tryz.ntmps71
    go_wp2_with fail
    refine HC.out.mono ?_
    rintro e w1 ⟨rfl, hf1⟩
    have HF := Lib.hid hf1
    have d0 := frm_cell hf1 c0
    have d1 := frm_cell hf1 c1
    have d2 := frm_cell hf1 c2
    clear hf1
    go_wp2
    go_quiet (fail)
    go_wp2
    go_ret2
    exact ⟨by rw [hs'.out]; rfl, HF.out.drewN _⟩
   ·have hs' := Lib.hid (hs3.out.trans (if_pos (by rw [dc])))
    clear hs2 hs3
    go_enter Tryz.func71, Tryz.ntmps71
    go_wp2_with fail
    refine HC.out.mono ?_
    rintro e w1 ⟨rfl, hf1⟩
    have HF := Lib.hid hf1
    have d0 := frm_cell hf1 c0
    have d1 := frm_cell hf1 c1
    have d2 := frm_cell hf1 c2
    clear hf1
    go_wp2
    go_quiet (fail)
    go_wp2
    go_ret2
    exact ⟨by rw [hs'.out]; rfl, HF.out.drewN _⟩
  case false =>
   have hs3 := Lib.hid (hs2.out.trans (if_neg (by decide)))
   clear hs2
   by_cases hx : x = 1
   ·subst hx
    cases sg
    ·cases h1 : isNumF s a 1
     ·have hs' := Lib.hid (hs3.out.trans (if_neg (by rw [h1]; simp)))
      rw [h1] at HA
      clear hs3 h1
      go_enter Tryz.func71, Tryz.ntmps71
      go_wp2_with fail
      refine HC.out.mono ?_
      rintro e w1 ⟨rfl, hf1⟩
      have HF := Lib.hid hf1
      have d0 := frm_cell hf1 c0
      have d1 := frm_cell hf1 c1
      have d2 := frm_cell hf1 c2
      clear hf1
      go_wp2
      go_quiet (fail)
      obtain ⟨w2, hw2⟩ : ∃ w2, w2 = w1.drewN nq := ⟨_, rfl⟩
      rw [← hw2]
      have HF := Lib.hid (show Frm (fun _ => False) w w2 by rw [hw2]; exact HF.out.drewN _)
      have d0 := frm_cell HF.out c0
      have d1 := frm_cell HF.out c1
      have d2 := frm_cell HF.out c2
      obtain ⟨gp, cp, kv, p0, _, _, _, e0, e1, e2, e3, e4, e5⟩ := (HP.out.frm0 HF.out).node HN.out
      dsimp only at e0 e1 e2 e3 e4 e5
      clear hw2 e0 e3 e4 e5
      go_wp2
      refine Plan.wp_region_plan [0, 1, 3, 7, 0, 16, 48, 127, 255, 511, 0, 2047, 4095, 8191, 8191, 24575, 57343, 131071, 262143, 524287, 1048575, 1048575, 3145727, 7340031, 16777215, 33554431, 67108863] [.mk [0, 1, 2, 3, 4, 5, 6, 7, 8, 9] 10 [0, 1, 2, 3, 4, 5, 6, 7, 8, 9], .mk [11, 12, 13, 14, 15, 16] 17 [], .mk [18, 19, 20, 21, 22, 23] 24 []] [25, 26] (by kernel_rfl) (by kernel_rfl) ?_
      simp only [Plan.wayOf, Plan.pickAll, List.getElem?_cons_zero, List.getElem?_cons_succ, List.getD_eq_getElem?_getD, Option.getD_some]
      refine Plan.wpWay_seg ?_
      repeat go_big_quiet_step (fail)
      refine wpQuiet_nil ?_; refine Plan.wpWay_act ?_
      go_wp2_with fail
      refine (boolean_calls _).mono ?_
      rintro e w3 ⟨rfl, hf⟩
      have p0' := frm_cellD hf p0
      have e1' := frm_cellD hf e1
      have e2' := frm_cellD hf e2
      have HF := Lib.hid (frm_then HF.out.drew hf)
      have j0 := frm_cell HF.out c0
      have j1 := frm_cell HF.out c1
      have j2 := frm_cell HF.out c2
      clear hf
      go_wp2_with fail
      refine And.intro ?_ ?_; focus ((iterate 10 (refine Plan.again_cons ?_ ?_; focus (go_big_quiet_step (fail); exact wpQuiet_nil rfl))); exact Plan.again_nil)
      refine Plan.wpWay_seg ?_
      repeat go_big_quiet_step (fail)
      refine wpQuiet_nil ?_; refine Plan.wpWay_act ?_
      go_wp2_with fail
      refine (HA.out _ HF.out).mono ?_
      rintro e w4 ⟨rfl, hf⟩
      have HF := Lib.hid (frm_then HF.out hf)
      have k0 := frm_cell HF.out c0
      have k1 := frm_cell HF.out c1
      have k2 := frm_cell HF.out c2
      clear hf
      go_wp2_with fail
      refine And.intro Plan.again_nil ?_
      refine Plan.wpWay_seg ?_
      repeat go_big_quiet_step (fail)
      refine wpQuiet_nil ?_; refine Plan.wpWay_act ?_
      go_wp2_with (fail)
      refine And.intro Plan.again_nil ?_
      refine Plan.wpWay_last ?_
      repeat go_big_quiet_step (fail)
      refine wpQuiet_nil ?_; refine NoPanic.normal ?_
      go_wp2
      go_ret2
      exact ⟨by rw [hs'.out]; rfl, HF.out⟩
     ·cases h0 : isNumF s b 0
      ·have hs' := Lib.hid (hs3.out.trans (if_neg (by rw [h0]; simp)))
       rw [h1] at HA
       rw [h0] at HB
       clear hs3 h1 h0
       go_enter Tryz.func71, Tryz.ntmps71
       go_wp2_with fail
       refine HC.out.mono ?_
       rintro e w1 ⟨rfl, hf1⟩
       have HF := Lib.hid hf1
       have d0 := frm_cell hf1 c0
       have d1 := frm_cell hf1 c1
       have d2 := frm_cell hf1 c2
       clear hf1
       go_wp2
       go_quiet (fail)
       obtain ⟨w2, hw2⟩ : ∃ w2, w2 = w1.drewN nq := ⟨_, rfl⟩
       rw [← hw2]
       have HF := Lib.hid (show Frm (fun _ => False) w w2 by rw [hw2]; exact HF.out.drewN _)
       have d0 := frm_cell HF.out c0
       have d1 := frm_cell HF.out c1
       have d2 := frm_cell HF.out c2
       obtain ⟨gp, cp, kv, p0, _, _, _, e0, e1, e2, e3, e4, e5⟩ := (HP.out.frm0 HF.out).node HN.out
       dsimp only at e0 e1 e2 e3 e4 e5
       clear hw2 e0 e3 e4 e5
       go_wp2
       refine Plan.wp_region_plan [0, 1, 3, 7, 0, 16, 48, 127, 255, 511, 0, 2047, 4095, 8191, 8191, 24575, 57343, 131071, 262143, 524287, 1048575, 1048575, 3145727, 7340031, 16777215, 33554431, 67108863] [.mk [0, 1, 2, 3, 4, 5, 6, 7, 8, 9] 10 [0, 1, 2, 3, 4, 5, 6, 7, 8, 9], .mk [11, 12, 13, 14, 15, 16] 17 [], .mk [18, 19, 20, 21, 22, 23] 24 []] [25, 26] (by kernel_rfl) (by kernel_rfl) ?_
       simp only [Plan.wayOf, Plan.pickAll, List.getElem?_cons_zero, List.getElem?_cons_succ, List.getD_eq_getElem?_getD, Option.getD_some]
       refine Plan.wpWay_seg ?_
       repeat go_big_quiet_step (fail)
       refine wpQuiet_nil ?_; refine Plan.wpWay_act ?_
       go_wp2_with fail
       refine (boolean_calls _).mono ?_
       rintro e w3 ⟨rfl, hf⟩
       have p0' := frm_cellD hf p0
       have e1' := frm_cellD hf e1
       have e2' := frm_cellD hf e2
       have HF := Lib.hid (frm_then HF.out.drew hf)
       have j0 := frm_cell HF.out c0
       have j1 := frm_cell HF.out c1
       have j2 := frm_cell HF.out c2
       clear hf
       go_wp2_with fail
       refine And.intro ?_ ?_; focus ((iterate 10 (refine Plan.again_cons ?_ ?_; focus (go_big_quiet_step (fail); exact wpQuiet_nil rfl))); exact Plan.again_nil)
       refine Plan.wpWay_seg ?_
       repeat go_big_quiet_step (fail)
       refine wpQuiet_nil ?_; refine Plan.wpWay_act ?_
       go_wp2_with fail
       refine (HA.out _ HF.out).mono ?_
       rintro e w4 ⟨rfl, hf⟩
       have HF := Lib.hid (frm_then HF.out hf)
       have k0 := frm_cell HF.out c0
       have k1 := frm_cell HF.out c1
       have k2 := frm_cell HF.out c2
       clear hf
       go_wp2_with fail
       refine And.intro Plan.again_nil ?_
       refine Plan.wpWay_seg ?_
       repeat go_big_quiet_step (fail)
       refine wpQuiet_nil ?_; refine Plan.wpWay_act ?_
       go_wp2_with fail
       refine (HB.out _ HF.out).mono ?_
       rintro e w4 ⟨rfl, hf⟩
       have HF := Lib.hid (frm_then HF.out hf)
       have k0 := frm_cell HF.out c0
       have k1 := frm_cell HF.out c1
       have k2 := frm_cell HF.out c2
       clear hf
       go_wp2_with fail
       refine And.intro Plan.again_nil ?_
       refine Plan.wpWay_last ?_
       repeat go_big_quiet_step (fail)
       refine wpQuiet_nil ?_; refine NoPanic.normal ?_
       go_wp2
       go_ret2
       exact ⟨by rw [hs'.out]; rfl, HF.out⟩
      ·have hs' := Lib.hid (hs3.out.trans (if_pos ⟨rfl, h1, h0⟩))
       rw [h1] at HA
       rw [h0] at HB
       clear hs3 h1 h0
       go_enter Tryz.func71, Tryz.ntmps71
       go_wp2_with fail
       refine HC.out.mono ?_
       rintro e w1 ⟨rfl, hf1⟩
       have HF := Lib.hid hf1
       have d0 := frm_cell hf1 c0
       have d1 := frm_cell hf1 c1
       have d2 := frm_cell hf1 c2
       clear hf1
       go_wp2
       go_quiet (fail)
       obtain ⟨w2, hw2⟩ : ∃ w2, w2 = w1.drewN nq := ⟨_, rfl⟩
       rw [← hw2]
       have HF := Lib.hid (show Frm (fun _ => False) w w2 by rw [hw2]; exact HF.out.drewN _)
       have d0 := frm_cell HF.out c0
       have d1 := frm_cell HF.out c1
       have d2 := frm_cell HF.out c2
       obtain ⟨gp, cp, kv, p0, _, _, _, e0, e1, e2, e3, e4, e5⟩ := (HP.out.frm0 HF.out).node HN.out
       dsimp only at e0 e1 e2 e3 e4 e5
       clear hw2 e0 e3 e4 e5
       go_wp2
       refine Plan.wp_region_plan [0, 1, 3, 7, 0, 16, 48, 127, 255, 511, 0, 2047, 4095, 8191, 8191, 24575, 57343, 131071, 262143, 524287, 1048575, 1048575, 3145727, 7340031, 16777215, 33554431, 67108863] [.mk [0, 1, 2, 3, 4, 5, 6, 7, 8, 9] 10 [0, 1, 2, 3, 4, 5, 6, 7, 8, 9], .mk [11, 12, 13, 14, 15, 16] 17 [], .mk [18, 19, 20, 21, 22, 23] 24 []] [25, 26] (by kernel_rfl) (by kernel_rfl) ?_
       simp only [Plan.wayOf, Plan.pickAll, List.getElem?_cons_zero, List.getElem?_cons_succ, List.getD_eq_getElem?_getD, Option.getD_some]
       refine Plan.wpWay_seg ?_
       repeat go_big_quiet_step (fail)
       refine wpQuiet_nil ?_; refine Plan.wpWay_act ?_
       go_wp2_with fail
       refine (boolean_calls _).mono ?_
       rintro e w3 ⟨rfl, hf⟩
       have p0' := frm_cellD hf p0
       have e1' := frm_cellD hf e1
       have e2' := frm_cellD hf e2
       have HF := Lib.hid (frm_then HF.out.drew hf)
       have j0 := frm_cell HF.out c0
       have j1 := frm_cell HF.out c1
       have j2 := frm_cell HF.out c2
       clear hf
       go_wp2_with fail
       refine And.intro ?_ ?_; focus ((iterate 10 (refine Plan.again_cons ?_ ?_; focus (go_big_quiet_step (fail); exact wpQuiet_nil rfl))); exact Plan.again_nil)
       refine Plan.wpWay_seg ?_
       repeat go_big_quiet_step (fail)
       refine wpQuiet_nil ?_; refine Plan.wpWay_act ?_
       go_wp2_with fail
       refine (HA.out _ HF.out).mono ?_
       rintro e w4 ⟨rfl, hf⟩
       have HF := Lib.hid (frm_then HF.out hf)
       have k0 := frm_cell HF.out c0
       have k1 := frm_cell HF.out c1
       have k2 := frm_cell HF.out c2
       clear hf
       go_wp2_with fail
       refine And.intro Plan.again_nil ?_
       refine Plan.wpWay_seg ?_
       repeat go_big_quiet_step (fail)
       refine wpQuiet_nil ?_; refine Plan.wpWay_act ?_
       go_wp2_with fail
       refine (HB.out _ HF.out).mono ?_
       rintro e w4 ⟨rfl, hf⟩
       have HF := Lib.hid (frm_then HF.out hf)
       have k0 := frm_cell HF.out c0
       have k1 := frm_cell HF.out c1
       have k2 := frm_cell HF.out c2
       clear hf
       go_wp2_with fail
       refine And.intro Plan.again_nil ?_
       refine Plan.wpWay_last ?_
       repeat go_big_quiet_step (fail)
       refine wpQuiet_nil ?_; refine NoPanic.normal ?_
       go_wp2
       go_ret2
       exact ⟨by rw [hs'.out]; rfl, HF.out⟩
    ·have hs' := Lib.hid (hs3.out.trans (if_neg (by simp)))
     clear hs3
     go_enter Tryz.func71, Tryz.ntmps71
     go_wp2_with fail
     refine HC.out.mono ?_
     rintro e w1 ⟨rfl, hf1⟩
     have HF := Lib.hid hf1
     have d0 := frm_cell hf1 c0
     have d1 := frm_cell hf1 c1
     have d2 := frm_cell hf1 c2
     clear hf1
     go_wp2
     go_quiet (fail)
     obtain ⟨w2, hw2⟩ : ∃ w2, w2 = w1.drewN nq := ⟨_, rfl⟩
     rw [← hw2]
     have HF := Lib.hid (show Frm (fun _ => False) w w2 by rw [hw2]; exact HF.out.drewN _)
     have d0 := frm_cell HF.out c0
     have d1 := frm_cell HF.out c1
     have d2 := frm_cell HF.out c2
     obtain ⟨gp, cp, kv, p0, _, _, _, e0, e1, e2, e3, e4, e5⟩ := (HP.out.frm0 HF.out).node HN.out
     dsimp only at e0 e1 e2 e3 e4 e5
     clear hw2 e0 e3 e4 e5
     go_wp2
     refine Plan.wp_region_plan [0, 1, 3, 7, 0, 16, 48, 127, 255, 511, 0, 2047, 4095, 8191, 8191, 24575, 57343, 131071, 262143, 524287, 1048575, 1048575, 3145727, 7340031, 16777215, 33554431, 67108863] [.mk [0, 1, 2, 3, 4, 5, 6, 7, 8, 9] 10 [0, 1, 2, 3, 4, 5, 6, 7, 8, 9], .mk [11, 12, 13, 14, 15, 16] 17 [], .mk [18, 19, 20, 21, 22, 23] 24 []] [25, 26] (by kernel_rfl) (by kernel_rfl) ?_
     simp only [Plan.wayOf, Plan.pickAll, List.getElem?_cons_zero, List.getElem?_cons_succ, List.getD_eq_getElem?_getD, Option.getD_some]
     refine Plan.wpWay_seg ?_
     repeat go_big_quiet_step (fail)
     refine wpQuiet_nil ?_; refine Plan.wpWay_act ?_
     go_wp2_with fail
     refine (boolean_calls _).mono ?_
     rintro e w3 ⟨rfl, hf⟩
     have p0' := frm_cellD hf p0
     have e1' := frm_cellD hf e1
     have e2' := frm_cellD hf e2
     have HF := Lib.hid (frm_then HF.out.drew hf)
     have j0 := frm_cell HF.out c0
     have j1 := frm_cell HF.out c1
     have j2 := frm_cell HF.out c2
     clear hf
     go_wp2_with fail
     refine And.intro ?_ ?_; focus ((iterate 10 (refine Plan.again_cons ?_ ?_; focus (go_big_quiet_step (fail); exact wpQuiet_nil rfl))); exact Plan.again_nil)
     refine Plan.wpWay_seg ?_
     repeat go_big_quiet_step (fail)
     refine wpQuiet_nil ?_; refine Plan.wpWay_act ?_
     go_wp2_with (fail)
     refine And.intro Plan.again_nil ?_
     refine Plan.wpWay_seg ?_
     repeat go_big_quiet_step (fail)
     refine wpQuiet_nil ?_; refine Plan.wpWay_act ?_
     go_wp2_with (fail)
     refine And.intro Plan.again_nil ?_
     refine Plan.wpWay_last ?_
     repeat go_big_quiet_step (fail)
     refine wpQuiet_nil ?_; refine NoPanic.normal ?_
     go_wp2
     go_ret2
     exact ⟨by rw [hs'.out]; rfl, HF.out⟩
   ·have dx : (x == 1) = false := by simp [hx]
    have hs' := Lib.hid (hs3.out.trans (if_neg (by simp [hx])))
    clear hs3 hx
    go_enter Tryz.func71, Tryz.ntmps71
    go_wp2_with fail
    refine HC.out.mono ?_
    rintro e w1 ⟨rfl, hf1⟩
    have HF := Lib.hid hf1
    have d0 := frm_cell hf1 c0
    have d1 := frm_cell hf1 c1
    have d2 := frm_cell hf1 c2
    clear hf1
    go_wp2
    go_quiet (fail)
    obtain ⟨w2, hw2⟩ : ∃ w2, w2 = w1.drewN nq := ⟨_, rfl⟩
    rw [← hw2]
    have HF := Lib.hid (show Frm (fun _ => False) w w2 by rw [hw2]; exact HF.out.drewN _)
    have d0 := frm_cell HF.out c0
    have d1 := frm_cell HF.out c1
    have d2 := frm_cell HF.out c2
    obtain ⟨gp, cp, kv, p0, _, _, _, e0, e1, e2, e3, e4, e5⟩ := (HP.out.frm0 HF.out).node HN.out
    dsimp only at e0 e1 e2 e3 e4 e5
    clear hw2 e0 e3 e4 e5
    go_wp2
    refine Plan.wp_region_plan [0, 1, 3, 7, 0, 16, 48, 127, 255, 511, 0, 2047, 4095, 8191, 8191, 24575, 57343, 131071, 262143, 524287, 1048575, 1048575, 3145727, 7340031, 16777215, 33554431, 67108863] [.mk [0, 1, 2, 3, 4, 5, 6, 7, 8, 9] 10 [0, 1, 2, 3, 4, 5, 6, 7, 8, 9], .mk [11, 12, 13, 14, 15, 16] 17 [], .mk [18, 19, 20, 21, 22, 23] 24 []] [25, 26] (by kernel_rfl) (by kernel_rfl) ?_
    simp only [Plan.wayOf, Plan.pickAll, List.getElem?_cons_zero, List.getElem?_cons_succ, List.getD_eq_getElem?_getD, Option.getD_some]
    refine Plan.wpWay_seg ?_
    repeat go_big_quiet_step (fail)
    refine wpQuiet_nil ?_; refine Plan.wpWay_act ?_
    go_wp2_with fail
    refine (boolean_calls _).mono ?_
    rintro e w3 ⟨rfl, hf⟩
    have p0' := frm_cellD hf p0
    have e1' := frm_cellD hf e1
    have e2' := frm_cellD hf e2
    have HF := Lib.hid (frm_then HF.out.drew hf)
    have j0 := frm_cell HF.out c0
    have j1 := frm_cell HF.out c1
    have j2 := frm_cell HF.out c2
    clear hf
    go_wp2_with fail
    refine And.intro ?_ ?_; focus ((iterate 10 (refine Plan.again_cons ?_ ?_; focus (go_big_quiet_step (fail); exact wpQuiet_nil rfl))); exact Plan.again_nil)
    refine Plan.wpWay_seg ?_
    repeat go_big_quiet_step (fail)
    refine wpQuiet_nil ?_; refine Plan.wpWay_act ?_
    go_wp2_with (fail)
    refine And.intro Plan.again_nil ?_
    refine Plan.wpWay_seg ?_
    repeat go_big_quiet_step (fail)
    refine wpQuiet_nil ?_; refine Plan.wpWay_act ?_
    go_wp2_with (fail)
    refine And.intro Plan.again_nil ?_
    refine Plan.wpWay_last ?_
    repeat go_big_quiet_step (fail)
    refine wpQuiet_nil ?_; refine NoPanic.normal ?_
    go_wp2
    go_ret2
    exact ⟨by rw [hs'.out]; rfl, HF.out⟩
end TmW
end Go.Proofs.YtbbajekecppioaaGreatDoor
