/- The statements, walked: BddBuilds. -/
import Derived.Test.YtjajpdmmoiiojaaLawW5
import Derived.Test.YtjajpdmmoiiojaaLawW6
namespace Go.Proofs.Ytjajpdmmoiiojaa
open Go.RowKit Go.Mem Go.Bdd
namespace LawW
open TabW BddW

/-- What a loop over what was built reads. -/
theorem Lay.at {w : World} {own : Nat → Prop} {gl cl gt ct : Nat} {l : List Int} {t : List (List Bool)} (h : Lay w own (.slice (some ⟨gl, 0, none⟩) l.length cl) (.slice (some ⟨gt, 0, none⟩) t.length ct) l t) {i : Nat} (hi : i < l.length) (hlt : l.length = t.length) :
    w.cell? ⟨gl, i, none⟩ = some (.int .i64 (lat l i)) ∧ ∃ u, w.cell? ⟨gt, i, none⟩ = some u ∧ Sees w Value.bool u (tab t i) := by
  obtain ⟨g, o, c, e, hat⟩ := sees_ints h.rl.sees (by omega)
  cases e
  have h1 := hat i ⟨by omega, by omega⟩
  obtain ⟨g', o', c', u, e', hc, hs, _⟩ := h.tabs.at (a := i) ⟨by omega, by omega⟩
  cases e'
  rw [Nat.zero_add] at h1 hc
  exact ⟨h1, u, hc, hs⟩

theorem frm0_cell {w w' : World} (hf : Frm (fun _ => False) w w') {a : Addr} {v : Value} (h : w.cell? a = some v) : w'.cell? a = some v :=
  (World.cell?_of_block (w := w) (hf.block a.block (World.block_lt_of_cell? _ _ h) id)).trans h

set_option maxRecDepth 100000 in
set_option maxHeartbeats 4000000 in
theorem builds_walk (a0 : Int) (h : 0 ≤ a0 ∧ a0 ≤ 255) (va : Value) (xs : List ActF) (w : World) (hA : ActsIn w (fun _ => False) va xs) :
    Calls Try.prog 7 #[.int .u8 a0, va] w fun e w' => e = .returned (.bool true) ∧ Below w.heap.size w w' := by
  obtain ⟨h0, h255⟩ := h
  obtain ⟨n, hn, hn1, hn6⟩ : ∃ n : Nat, 1 + a0 % 6 = (n : Int) ∧ 1 ≤ n ∧ n ≤ 6 := ⟨(1 + a0 % 6).toNat, by omega, by omega, by omega⟩
  have hn64 : (n : Int) ≤ 64 := by omega
  have HN := Lib.hid (New_ok w n 100000 (by omega) (by omega) (by omega) (by omega))
  have HA := Lib.hid hA
  have Hn1 := Lib.hid hn1
  have Hn6 := Lib.hid hn6
  obtain ⟨A2, c2, rfl, _, _⟩ := hA.slice
  clear hA hn1 hn6
  go_enter Try.func7, Try.ntmps7
  go_wp2_with fail
  refine HN.out.mono ?_
  rintro e w1 ⟨own, p, rfl, hS, hnew, hF⟩
  have HAW := Lib.hid (awake_calls w1)
  have HM1 : Hid (Moves (fun _ => False) w own w1) := Lib.hid ⟨hF, fun b hb => .inr (hnew b hb)⟩
  have HS := Lib.hid hS
  clear hS hnew hF HN
  go_wp2_with fail
  refine HAW.out.mono ?_
  rintro e w2 ⟨rfl, hf2⟩
  have HM2 := Lib.hid (HM1.out.trans (.of_frm (hf2.mono fun _ _ h => h.elim) fun _ h => .inl h))
  have HB := Lib.hid (built_calls n Hn1.out Hn6.out (HS.out.frm hf2 fun _ _ => id) (good0 (n := n) (room := 100000) (by omega)) _ xs (HA.out.move HM2.out) (by show (0 : Int) + 12002 < 100000; omega))
  clear hf2 HAW
  go_wp2_with fail
  refine HB.out.mono ?_
  rintro e w3 ⟨vl, vt, l, t, own3, s3, rfl, hS3, hM3, hG3, hL3, hE3, hW3, hN3⟩
  have HM3 := Lib.hid (HM2.out.trans hM3)
  have HS3 := Lib.hid hS3
  have HG3 := Lib.hid hG3
  have HL3 := Lib.hid hL3
  have hl2 := hG3.two
  have hlt := hG3.len
  obtain ⟨vs, rt1, rt2, rt3⟩ := hL3.rt
  obtain ⟨gl, cl, rfl⟩ : ∃ gl cl, vl = .slice (some ⟨gl, 0, none⟩) l.length cl := by
    rcases hL3.rl.shape with ⟨_, e⟩ | ⟨g, c, e, _⟩
    · subst e; simp at hl2
    · exact ⟨g, c, e⟩
  obtain ⟨gt, ct, rfl⟩ : ∃ gt ct, vt = .slice (some ⟨gt, 0, none⟩) t.length ct := by
    rcases rt1.shape with ⟨_, e⟩ | ⟨g, c, e, _⟩
    · subst e; simp at rt2; omega
    · exact ⟨g, c, by rw [rt2] at e; exact e⟩
  have HN3 := Lib.hid hN3
  have Hlt := Lib.hid hlt
  clear hS3 hM3 hG3 hL3 hE3 hW3 hN3 rt1 rt2 rt3 HB hlt
  go_wp2
  go_loopw [11] (fun v11 w' => ∃ i : Nat, i ≤ l.length ∧ v11 = .int .i64 i ∧ Hid (Frm (fun _ => False) w3 w')) (fun v11 _ => l.length - (intOf v11).toNat)
  case atStart => exact ⟨0, Nat.zero_le _, rfl, Lib.hid (Frm.refl _ _)⟩
  case round =>
    obtain ⟨i, hi, rfl, HF⟩ := hrel
    have hl32 := HN3.out
    by_cases hil : i < l.length
    · have hilI : (i : Int) < (l.length : Int) := by omega
      have hitI : (i : Int) < (t.length : Int) := by have := Hlt.out; omega
      obtain ⟨hli, u, hti, htu⟩ := HL3.out.at hil Hlt.out
      obtain ⟨hIn, hTab⟩ := HG3.out.get (a := i) (by omega) hilI
      obtain ⟨Au, cu, rfl, hbit⟩ := sees_slice htu
      have hlen : (tab t i).length = 2 ^ n := by rw [hTab, tabOf_len]
      have h30 : 2 ^ n ≤ 64 := by
        have h2 : 2 ^ n ≤ 2 ^ 6 := Nat.pow_le_pow_right (by omega) Hn6.out
        have h3 : (2 : Nat) ^ 6 = 64 := by decide
        omega
      have Htab := Lib.hid hTab
      have Hlen := Lib.hid hlen
      have Hbit := Lib.hid hbit
      have Hli := Lib.hid hli
      have Hti := Lib.hid hti
      have hlenb : (tab t i).length ≤ 64 := by omega
      clear hTab hlen htu h30 hti hli hbit
      go_wp2
      obtain ⟨wo, rfl⟩ : ∃ wo : World, wo = wr := ⟨_, rfl⟩
      go_loopw [12] (fun v12 w' => ∃ k : Nat, k ≤ (tab t i).length ∧ v12 = .int .i64 k ∧ Hid (Frm (fun _ => False) w3 w')) (fun v12 _ => (tab t i).length - (intOf v12).toNat)
      case atStart => exact ⟨0, Nat.zero_le _, rfl, HF⟩
      case round =>
        obtain ⟨k, hk, rfl, HFK⟩ := hrel
        have r1 := frm0_cell HFK.out Hli.out
        have r2 := frm0_cell HFK.out Hti.out
        by_cases hkl : k < (tab t i).length
        · have hklI : (k : Int) < ((tab t i).length : Int) := by omega
          have hy := tat_get hkl
          obtain ⟨gu, ou, e, hu⟩ := Hbit.out k _ hy
          subst e
          have Hu := Lib.hid hu
          have HEV : Hid (evalF 100 s3 (lat l i) (wayF n k) = some (tat (tab t i) k, 0)) := Lib.hid (by
            rw [eval_res HG3.out.inv hIn (by rw [wayF_length]; exact HG3.out.vars) (by have := HG3.out.vars; omega), Htab.out, tabOf_at _ (by rw [← Hlen.out]; exact hkl)]; rfl)
          have HW := Lib.hid (Way_calls wr.drew n k (by omega) (by rw [← Hlen.out]; exact hkl))
          generalize tat (tab t i) k = b at *
          clear hy hu
          go_wp2
          refine Plan.wp_region_plan [0, 0, 0, 6, 14, 0, 0, 96, 255, 511, 1023, 1023, 2047, 8191] (List.cons (Plan.Seg.mk (List.cons 0 (List.cons 1 (List.cons 2 (List.cons 3 (List.cons 4 (List.cons 5 (List.cons 6 List.nil))))))) 7 (List.cons 0 (List.cons 1 (List.cons 2 (List.cons 3 (List.cons 4 List.nil)))))) (List.cons (Plan.Seg.mk List.nil 8 List.nil) List.nil)) (List.cons 9 (List.cons 10 (List.cons 11 (List.cons 12 (List.cons 13 List.nil))))) (by kernel_rfl) (by kernel_rfl) ?_
          simp only [Plan.wayOf, Plan.pickAll, List.getElem?_cons_zero, List.getElem?_cons_succ, List.getD_eq_getElem?_getD, Option.getD_some]
          refine Plan.wpWay_seg ?_
          repeat go_big_quiet_step (fail)
          refine wpQuiet_nil ?_
          refine Plan.wpWay_act ?_
          go_wp2_with fail
          refine HW.out.mono ?_
          rintro e w4 ⟨vw, rfl, hrw, hfw, _⟩
          have HF4 := Lib.hid (HFK.out.drew.trans hfw fun _ _ h => h)
          have HRW := Lib.hid hrw.sees
          have q1 := frm0_cell HF4.out Hli.out
          clear hrw hfw
          go_wp2_with fail
          refine And.intro ?_ ?_
          focus
            refine Plan.again_cons ?_ ?_
            focus
              go_big_quiet_step (fail)
              exact wpQuiet_nil rfl
            refine Plan.again_cons ?_ ?_
            focus
              go_big_quiet_step (fail)
              exact wpQuiet_nil rfl
            refine Plan.again_cons ?_ ?_
            focus
              go_big_quiet_step (fail)
              exact wpQuiet_nil rfl
            refine Plan.again_cons ?_ ?_
            focus
              go_big_quiet_step (fail)
              exact wpQuiet_nil rfl
            refine Plan.again_cons ?_ ?_
            focus
              go_big_quiet_step (fail)
              exact wpQuiet_nil rfl
            exact Plan.again_nil
          refine Plan.wpWay_seg ?_
          refine wpQuiet_nil ?_
          refine Plan.wpWay_act ?_
          go_wp2_with fail
          refine (Eval_calls (HS3.out.frm HF4.out fun _ _ => id) 100 (lat l i) vw (wayF n k) HRW.out _ HEV.out).mono ?_
          rintro e w5 ⟨rfl, hf5⟩
          have HF5 := Lib.hid (HF4.out.trans hf5 fun _ _ h => h)
          have q2 := frm0_cell HF5.out Hti.out
          have q3 := frm0_cell HF5.out Hu.out
          clear hf5
          go_wp2_with fail
          refine And.intro Plan.again_nil ?_
          refine Plan.wpWay_last ?_
          repeat go_big_quiet_step (fail)
          refine wpQuiet_nil ?_
          refine NoPanic.normal ?_
          go_wp2
          go_roundw
          case rel => exact ⟨k + 1, by omega, by go_num, HF5⟩
          case measure => simp [intOf]; omega
        · have hkl' : k = (tab t i).length := by omega
          have hkn : ¬ (k : Int) < ((tab t i).length : Int) := by omega
          clear hkl'
          go_wp2
          go_roundw
          case rel => exact ⟨i + 1, by omega, by go_num, HFK⟩
          case measure => simp [intOf]; omega
    · have hiln : ¬ (i : Int) < (l.length : Int) := by omega
      have hfin := Lib.hid (show Below w.heap.size w wr from ((HM3.out.1.trans HF.out fun _ _ h => h.elim)).below)
      go_wp2
      go_ret
      exact ⟨rfl, hfin.out⟩
end LawW
end Go.Proofs.Ytjajpdmmoiiojaa
