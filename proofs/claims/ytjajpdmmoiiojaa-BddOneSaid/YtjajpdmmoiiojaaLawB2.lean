/- The statements, walked: BddOne. -/
import Derived.Test.YtjajpdmmoiiojaaLawB1
namespace Go.Bdd
theorem Good.same {n : Nat} {s : Sto} {l : List Int} {t : List (List Bool)} (G : Good n s l t) {a b : Int} (ha : 0 ≤ a ∧ a < l.length) (hb : 0 ≤ b ∧ b < l.length) : tab t a = tab t b ↔ lat l a = lat l b := by
  obtain ⟨ia, ta⟩ := G.get ha.1 ha.2
  obtain ⟨ib, tb⟩ := G.get hb.1 hb.2
  rw [ta, tb]
  constructor
  · exact fun h => canon G.inv.ok ia ib fun e => tabOf_inj (G.depN ia) (G.depN ib) h e
  · intro h; rw [h]
end Go.Bdd
namespace Go.Proofs.Ytjajpdmmoiiojaa
open Go.RowKit Go.Mem Go.Bdd
namespace LawW
open TabW BddW

set_option maxRecDepth 100000 in
set_option maxHeartbeats 4000000 in
theorem one_walk (a0 : Int) (h : 0 ≤ a0 ∧ a0 ≤ 255) (va : Value) (xs : List ActF) (w : World) (hA : ActsIn w (fun _ => False) va xs) :
    Calls Try.prog 3 #[.int .u8 a0, va] w fun e w' => e = .returned (.bool true) ∧ Below w.heap.size w w' := by
  obtain ⟨h0, h255⟩ := h
  obtain ⟨n, hn, hn1, hn6⟩ : ∃ n : Nat, 1 + a0 % 6 = (n : Int) ∧ 1 ≤ n ∧ n ≤ 6 := ⟨(1 + a0 % 6).toNat, by omega, by omega, by omega⟩
  have hn64 : (n : Int) ≤ 64 := by omega
  have HN := Lib.hid (New_ok w n 100000 (by omega) (by omega) (by omega) (by omega))
  have HA := Lib.hid hA
  have Hn1 := Lib.hid hn1
  have Hn6 := Lib.hid hn6
  obtain ⟨A2, c2, rfl, _, _⟩ := hA.slice
  clear hA hn1 hn6
  go_enter Try.func3, Try.ntmps3
  go_wp2_with fail
  refine HN.out.mono ?_
  rintro e w1 ⟨own, p, rfl, hS, hnew, hF⟩
  have HAW := Lib.hid (awake_calls w1)
  have HM1 : Hid (Moves (fun _ => False) w own w1) := Lib.hid ⟨hF, fun b hb => .inr (hnew b hb)⟩
  have HS := Lib.hid hS
  clear hS hnew hF HN
  go_wp2_with fail
  refine HAW.out.mono ?_
  rintro e w2 ⟨rfl, hf2⟩
  have HM2 := Lib.hid (HM1.out.trans (.of_frm (hf2.mono fun _ _ h => h.elim) fun _ h => .inl h))
  have HB := Lib.hid (built_calls n Hn1.out Hn6.out (HS.out.frm hf2 fun _ _ => id) (good0 (n := n) (room := 100000) (by omega)) _ xs (HA.out.move HM2.out) (by show (0 : Int) + 12002 < 100000; omega))
  clear hf2 HAW
  go_wp2_with fail
  refine HB.out.mono ?_
  rintro e w3 ⟨vl, vt, l, t, own3, s3, rfl, hS3, hM3, hG3, hL3, hE3, hW3, hN3⟩
  have HM3 := Lib.hid (HM2.out.trans hM3)
  have HS3 := Lib.hid hS3
  have HG3 := Lib.hid hG3
  have HL3 := Lib.hid hL3
  have hl2 := hG3.two
  have hlt := hG3.len
  obtain ⟨vs, rt1, rt2, rt3⟩ := hL3.rt
  obtain ⟨gl, cl, rfl⟩ : ∃ gl cl, vl = .slice (some ⟨gl, 0, none⟩) l.length cl := by
    rcases hL3.rl.shape with ⟨_, e⟩ | ⟨g, c, e, _⟩
    · subst e; simp at hl2
    · exact ⟨g, c, e⟩
  obtain ⟨gt, ct, rfl⟩ : ∃ gt ct, vt = .slice (some ⟨gt, 0, none⟩) t.length ct := by
    rcases rt1.shape with ⟨_, e⟩ | ⟨g, c, e, _⟩
    · subst e; simp at rt2; omega
    · exact ⟨g, c, by rw [rt2] at e; exact e⟩
  have HN3 := Lib.hid hN3
  have Hlt := Lib.hid hlt
  clear hS3 hM3 hG3 hL3 hE3 hW3 hN3 rt1 rt2 rt3 HB hlt
  go_wp2
  go_loopw [11] (fun v11 w' => ∃ i : Nat, i ≤ l.length ∧ v11 = .int .i64 i ∧ Hid (Frm (fun _ => False) w3 w')) (fun v11 _ => l.length - (intOf v11).toNat)
  case atStart => exact ⟨0, Nat.zero_le _, rfl, Lib.hid (Frm.refl _ _)⟩
  case round =>
    obtain ⟨i, hi, rfl, HF⟩ := hrel
    have hl32 := HN3.out
    by_cases hil : i < l.length
    · have hilI : (i : Int) < (l.length : Int) := by omega
      have hitI : (i : Int) < (t.length : Int) := by have := Hlt.out; omega
      obtain ⟨hli, u, hti, htu⟩ := HL3.out.at hil Hlt.out
      have Htu := Lib.hid htu
      have Hli := Lib.hid hli
      have Hti := Lib.hid hti
      clear htu hti hli
      go_wp2
      obtain ⟨wo, rfl⟩ : ∃ wo : World, wo = wr := ⟨_, rfl⟩
      go_loopw [12] (fun v12 w' => ∃ k : Nat, k ≤ i ∧ v12 = .int .i64 k ∧ Hid (Frm (fun _ => False) w3 w')) (fun v12 _ => i - (intOf v12).toNat)
      case atStart => exact ⟨0, Nat.zero_le _, rfl, HF⟩
      case round =>
        obtain ⟨k, hk, rfl, HFK⟩ := hrel
        by_cases hkl : k < i
        · have hkI : (k : Int) < (i : Int) := by omega
          have hklI : (k : Int) < (l.length : Int) := by omega
          have hktI : (k : Int) < (t.length : Int) := by omega
          obtain ⟨hlk, u2, htk, htu2⟩ := HL3.out.at (i := k) (by omega) Hlt.out
          have r1 := frm0_cell HFK.out Hli.out
          have r2 := frm0_cell HFK.out Hti.out
          have r3 := frm0_cell HFK.out hlk
          have r4 := frm0_cell HFK.out htk
          have Hlk := Lib.hid hlk
          have hsm := HG3.out.same (a := i) (b := k) ⟨by omega, hilI⟩ ⟨by omega, hklI⟩
          have HSM := Lib.hid (Same_calls u u2 (tab t i) (tab t k) wr.drew (Htu.out.frm HFK.out.drew fun _ _ _ => id) (htu2.frm HFK.out.drew fun _ _ _ => id))
          obtain ⟨b, hb1, hb2⟩ : ∃ b : Bool, (lat l i == lat l k) = b ∧ decide (tab t i = tab t k) = b := by
            by_cases he : lat l i = lat l k
            · exact ⟨true, by simp [he], by simp [hsm.2 he]⟩
            · exact ⟨false, by simp [he], decide_eq_false fun h => he (hsm.1 h)⟩
          rw [hb2] at HSM
          clear hlk htk htu2 hsm hb2
          go_wp2
          refine Plan.wp_region_plan [0, 0, 3, 7, 0, 0, 48, 112, 255, 0, 0, 1536, 3584, 0, 0, 24576, 57344, 130560, 262143] (List.cons (Plan.Seg.mk (List.cons 0 (List.cons 1 (List.cons 2 (List.cons 3 (List.cons 4 (List.cons 5 (List.cons 6 (List.cons 7 (List.cons 8 (List.cons 9 (List.cons 10 (List.cons 11 (List.cons 12 (List.cons 13 (List.cons 14 (List.cons 15 (List.cons 16 List.nil))))))))))))))))) 17 (List.cons 0 (List.cons 1 (List.cons 2 (List.cons 3 (List.cons 4 (List.cons 5 (List.cons 6 (List.cons 7 (List.cons 8 List.nil)))))))))) List.nil) (List.cons 18 List.nil) (by kernel_rfl) (by kernel_rfl) ?_
          simp only [Plan.wayOf, Plan.pickAll, List.getElem?_cons_zero, List.getElem?_cons_succ, List.getD_eq_getElem?_getD, Option.getD_some]
          refine Plan.wpWay_seg ?_
          repeat go_big_quiet_step (fail)
          refine wpQuiet_nil ?_
          refine Plan.wpWay_act ?_
          go_wp2_with fail
          refine HSM.out.mono ?_
          rintro e w4 ⟨rfl, hf4⟩
          have HF4 := Lib.hid (HFK.out.drew.trans hf4 fun _ _ h => h)
          have q1 := frm0_cell HF4.out Hli.out
          have q2 := frm0_cell HF4.out Hlk.out
          clear hf4
          go_wp2_with fail
          refine And.intro ?_ ?_
          focus
            refine Plan.again_cons ?_ ?_
            focus
              go_big_quiet_step (fail)
              exact wpQuiet_nil rfl
            refine Plan.again_cons ?_ ?_
            focus
              go_big_quiet_step (fail)
              exact wpQuiet_nil rfl
            refine Plan.again_cons ?_ ?_
            focus
              go_big_quiet_step (fail)
              exact wpQuiet_nil rfl
            refine Plan.again_cons ?_ ?_
            focus
              go_big_quiet_step (fail)
              exact wpQuiet_nil rfl
            refine Plan.again_cons ?_ ?_
            focus
              go_big_quiet_step (fail)
              exact wpQuiet_nil rfl
            refine Plan.again_cons ?_ ?_
            focus
              go_big_quiet_step (fail)
              exact wpQuiet_nil rfl
            refine Plan.again_cons ?_ ?_
            focus
              go_big_quiet_step (fail)
              exact wpQuiet_nil rfl
            refine Plan.again_cons ?_ ?_
            focus
              go_big_quiet_step (fail)
              exact wpQuiet_nil rfl
            refine Plan.again_cons ?_ ?_
            focus
              go_big_quiet_step (fail)
              exact wpQuiet_nil rfl
            exact Plan.again_nil
          refine Plan.wpWay_last ?_
          repeat go_big_quiet_step (fail)
          refine wpQuiet_nil ?_
          refine NoPanic.normal ?_
          go_wp2
          go_roundw
          case rel => exact ⟨k + 1, by omega, by go_num, HF4⟩
          case measure => simp [intOf]; omega
        · have hkn : ¬ (k : Int) < (i : Int) := by omega
          go_wp2
          go_roundw
          case rel => exact ⟨i + 1, by omega, by go_num, HFK⟩
          case measure => simp [intOf]; omega
    · have hiln : ¬ (i : Int) < (l.length : Int) := by omega
      have hfin := Lib.hid (show Below w.heap.size w wr from ((HM3.out.1.trans HF.out fun _ _ h => h.elim)).below)
      go_wp2
      go_ret
      exact ⟨rfl, hfin.out⟩
end LawW
end Go.Proofs.Ytjajpdmmoiiojaa
