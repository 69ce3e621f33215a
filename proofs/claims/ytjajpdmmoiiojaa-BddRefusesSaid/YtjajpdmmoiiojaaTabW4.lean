/- The document's answer, walked: Renames. -/
import Derived.Test.YtjajpdmmoiiojaaTabW3
namespace Go.Proofs.Ytjajpdmmoiiojaa
open Go.RowKit Go.Mem Go.Bdd
namespace TabW

theorem toAt_get {to : List Int} {v : Nat} (h : v < to.length) : to[v]? = some (toAt to v) := by simp [toAt, h]

set_option maxRecDepth 100000 in
set_option maxHeartbeats 2000000 in
theorem Renames_calls (w : World) (vt vo : Value) (t : List Bool) (n : Nat) (to : List Int) (hn : n ≤ 60) (ht : t.length = 2 ^ n) (hs : Sees w Value.bool vt t) (ho : Sees w (Value.int .i64) vo to) :
    Calls Try.prog 35 #[vt, .int .i64 n, vo] w fun e w' => e = .returned (.bool (renamesF t n to)) ∧ Frm (fun _ => False) w w' := by
  have hso := ho.len
  obtain ⟨A, c, rfl, hc⟩ := sees_slice ho
  have Hc := Lib.hid hc
  have Hs := Lib.hid hs
  have Ht := Lib.hid ht
  clear hc hs ho ht
  by_cases hl : to.length = n
  case neg =>
    have hfin := Lib.hid (show renamesF t n to = false by unfold renamesF; rw [decide_eq_false hl]; rfl)
    have hb : ((to.length : Int) != (n : Int)) = true := by simp; omega
    clear hl
    go_enter Try.func35, Try.ntmps35
    go_wp2
    go_ret
    exact ⟨by rw [hfin.out]; rfl, Frm.refl _ _⟩
  case pos =>
    have hb : ((to.length : Int) != (n : Int)) = false := by simp; omega
    go_enter Try.func35, Try.ntmps35
    go_wp2
    clear hb
    go_loopw [7, 8] (fun v7 v8 w' => ∃ k : Nat, k ≤ n ∧ v7 = .int .i64 k ∧ Hid (∀ v < k, goodVar t n to v = true) ∧ Hid (Frm (fun _ => False) w w')) (fun v7 _ _ => n - (intOf v7).toNat)
    case atStart => exact ⟨0, Nat.zero_le _, rfl, Lib.hid fun i hi => by omega, Lib.hid (Frm.refl _ _)⟩
    case round =>
      obtain ⟨k, hk, rfl, HG, HF⟩ := hrel
      by_cases hlt : k < n
      · have hx := toAt_get (to := to) (v := k) (by omega)
        obtain ⟨g, o, rfl, hcell⟩ := Hc.out k _ hx
        have hcell' := (World.cell?_of_block (w := w) (a := ⟨g, o + k, none⟩) (HF.out.block g (World.block_lt_of_cell? _ _ hcell) id)).trans hcell
        have hltl : (k : Int) < (to.length : Int) := by omega
        generalize hX0 : toAt to k = x at *
        have HX0 := Lib.hid hX0
        clear hcell hx hX0
        by_cases hr : 0 ≤ x ∧ x < n
        case neg =>
          have hfin := Lib.hid (show renamesF t n to = false by
            unfold renamesF
            rw [Bool.and_eq_false_iff]; right
            rw [List.all_eq_false]
            exact ⟨k, by simp; omega, by unfold goodVar; rw [HX0.out, decide_eq_false hr]; simp⟩)
          by_cases h0 : x < 0
          · have hd : decide (x < 0) = true := by simp [h0]
            clear hr h0 hl
            go_wp2
            go_ret
            exact ⟨by rw [hfin.out]; rfl, HF.out⟩
          · have hd : decide (x < 0) = false := by simp; omega
            have hd2 : decide (x ≥ (n : Int)) = true := by simp; omega
            clear hr h0 hl
            go_wp2
            go_ret
            exact ⟨by rw [hfin.out]; rfl, HF.out⟩
        case pos =>
          have hd : decide (x < 0) = false := by simp; omega
          have hd2 : decide (x ≥ (n : Int)) = false := by simp; omega
          go_wp2
          clear hd hd2
          go_loopw [8] (fun v8 w' => ∃ j : Nat, j ≤ k ∧ v8 = .int .i64 j ∧ Hid (∀ u < j, badPair t n to k u = false) ∧ Hid (Frm (fun _ => False) w w')) (fun v8 _ => k - (intOf v8).toNat)
          case atStart => exact ⟨0, Nat.zero_le _, rfl, Lib.hid fun i hi => by omega, HF⟩
          case round =>
            obtain ⟨j, hj, rfl, HB, HF2⟩ := hrel
            clear hcell'
            by_cases hjt : j < k
            · have hy := toAt_get (to := to) (v := j) (by omega)
              have hx := toAt_get (to := to) (v := k) (by omega)
              rw [HX0.out] at hx
              obtain ⟨g2, o2, e2, hcell2⟩ := Hc.out j _ hy
              obtain ⟨g3, o3, e3, hcell3⟩ := Hc.out k _ hx
              cases e2
              cases e3
              have hcell2' := (World.cell?_of_block (w := w) (a := ⟨g, o + j, none⟩) (HF2.out.block g (World.block_lt_of_cell? _ _ hcell2) id)).trans hcell2
              have hcell3' := (World.cell?_of_block (w := w) (a := ⟨g, o + k, none⟩) (HF2.out.block g (World.block_lt_of_cell? _ _ hcell3) id)).trans hcell3
              have hltj : (j : Int) < (to.length : Int) := by omega
              generalize hY0 : toAt to j = y at *
              have HY0 := Lib.hid hY0
              clear hcell2 hcell3 hx hy hY0
              have hgood : badPair t n to k j = false → ∀ u < j + 1, badPair t n to k u = false := fun h u hu => by
                by_cases e : u = j
                · subst e; exact h
                · exact HB.out u (by omega)
              by_cases hxy : x = y
              case neg =>
                have hd : (x == y) = false := by simp [hxy]
                have hfin := Lib.hid (hgood (by unfold badPair; rw [HX0.out, HY0.out, hd]; rfl))
                clear hgood hxy hl
                go_wp2
                refine Plan.wp_region_plan [0, 0, 3, 7, 0, 0, 48, 112, 255, 511, 1023, 1023, 1023, 8191, 16383, 32767, 65535, 65535, 65535, 524287, 1048575] (List.cons (Plan.Seg.mk (List.cons 0 (List.cons 1 (List.cons 2 (List.cons 3 (List.cons 4 (List.cons 5 (List.cons 6 (List.cons 7 (List.cons 8 (List.cons 9 (List.cons 10 (List.cons 11 (List.cons 12 List.nil))))))))))))) 13 List.nil) (List.cons (Plan.Seg.mk (List.cons 14 (List.cons 15 (List.cons 16 (List.cons 17 (List.cons 18 List.nil))))) 19 List.nil) List.nil)) (List.cons 20 List.nil) (by kernel_rfl) (by kernel_rfl) ?_
                simp only [Plan.wayOf, Plan.pickAll, List.getElem?_cons_zero, List.getElem?_cons_succ, List.getD_eq_getElem?_getD, Option.getD_some]
                refine Plan.wpWay_seg ?_
                repeat go_big_quiet_step (fail)
                refine wpQuiet_nil ?_
                refine Plan.wpWay_act ?_
                go_wp2_with (fail)
                refine And.intro Plan.again_nil ?_
                refine Plan.wpWay_seg ?_
                repeat go_big_quiet_step (fail)
                refine wpQuiet_nil ?_
                refine Plan.wpWay_act ?_
                go_wp2_with (fail)
                refine And.intro Plan.again_nil ?_
                refine Plan.wpWay_last ?_
                repeat go_big_quiet_step (fail)
                refine wpQuiet_nil ?_
                refine NoPanic.normal ?_
                go_wp2
                go_roundw
                case rel => exact ⟨j + 1, by omega, by go_num, hfin, Lib.hid HF2.out.drew⟩
                case measure => simp [intOf]; omega
              case pos =>
                have hd : (x == y) = true := by simp [hxy]
                have Ha := Lib.hid (asks_calls wr.drew vt t n k hn (by omega) Ht.out (Hs.out.frm HF2.out.drew fun _ _ _ => id))
                cases ha : asksF t n k with
                | false =>
                  have hfin := Lib.hid (hgood (by unfold badPair; rw [ha]; simp))
                  rw [ha] at Ha
                  clear hgood hxy hl ha
                  go_wp2
                  refine Plan.wp_region_plan [0, 0, 3, 7, 0, 0, 48, 112, 255, 511, 1023, 1023, 1023, 8191, 16383, 32767, 65535, 65535, 65535, 524287, 1048575] (List.cons (Plan.Seg.mk (List.cons 0 (List.cons 1 (List.cons 2 (List.cons 3 (List.cons 4 (List.cons 5 (List.cons 6 (List.cons 7 (List.cons 8 (List.cons 9 (List.cons 10 (List.cons 11 (List.cons 12 List.nil))))))))))))) 13 List.nil) (List.cons (Plan.Seg.mk (List.cons 14 (List.cons 15 (List.cons 16 (List.cons 17 (List.cons 18 List.nil))))) 19 List.nil) List.nil)) (List.cons 20 List.nil) (by kernel_rfl) (by kernel_rfl) ?_
                  simp only [Plan.wayOf, Plan.pickAll, List.getElem?_cons_zero, List.getElem?_cons_succ, List.getD_eq_getElem?_getD, Option.getD_some]
                  refine Plan.wpWay_seg ?_
                  repeat go_big_quiet_step (fail)
                  refine wpQuiet_nil ?_
                  refine Plan.wpWay_act ?_
                  go_wp2_with fail
                  refine Ha.out.mono ?_
                  rintro e w2 ⟨rfl, hf2⟩
                  have HF3 := Lib.hid (HF2.out.drew.trans hf2 fun _ _ => id)
                  clear hf2
                  go_wp2_with fail
                  refine And.intro Plan.again_nil ?_
                  refine Plan.wpWay_seg ?_
                  repeat go_big_quiet_step (fail)
                  refine wpQuiet_nil ?_
                  refine Plan.wpWay_act ?_
                  go_wp2_with (fail)
                  refine And.intro Plan.again_nil ?_
                  refine Plan.wpWay_last ?_
                  repeat go_big_quiet_step (fail)
                  refine wpQuiet_nil ?_
                  refine NoPanic.normal ?_
                  go_wp2
                  go_roundw
                  case rel => exact ⟨j + 1, by omega, by go_num, hfin, HF3⟩
                  case measure => simp [intOf]; omega
                | true =>
                  rw [ha] at Ha
                  cases hb : asksF t n j with
                  | false =>
                    have hfin := Lib.hid (hgood (by unfold badPair; rw [hb]; simp))
                    have Hb := Lib.hid hb
                    clear hgood hxy hl ha hb
                    go_wp2
                    refine Plan.wp_region_plan [0, 0, 3, 7, 0, 0, 48, 112, 255, 511, 1023, 1023, 1023, 8191, 16383, 32767, 65535, 65535, 65535, 524287, 1048575] (List.cons (Plan.Seg.mk (List.cons 0 (List.cons 1 (List.cons 2 (List.cons 3 (List.cons 4 (List.cons 5 (List.cons 6 (List.cons 7 (List.cons 8 (List.cons 9 (List.cons 10 (List.cons 11 (List.cons 12 List.nil))))))))))))) 13 List.nil) (List.cons (Plan.Seg.mk (List.cons 14 (List.cons 15 (List.cons 16 (List.cons 17 (List.cons 18 List.nil))))) 19 List.nil) List.nil)) (List.cons 20 List.nil) (by kernel_rfl) (by kernel_rfl) ?_
                    simp only [Plan.wayOf, Plan.pickAll, List.getElem?_cons_zero, List.getElem?_cons_succ, List.getD_eq_getElem?_getD, Option.getD_some]
                    refine Plan.wpWay_seg ?_
                    repeat go_big_quiet_step (fail)
                    refine wpQuiet_nil ?_
                    refine Plan.wpWay_act ?_
                    go_wp2_with fail
                    refine Ha.out.mono ?_
                    rintro e w2 ⟨rfl, hf2⟩
                    have HF3 := Lib.hid (HF2.out.drew.trans hf2 fun _ _ => id)
                    have Hb2 := Lib.hid (asks_calls w2 vt t n j hn (by omega) Ht.out (Hs.out.frm HF3.out fun _ _ _ => id))
                    rw [Hb.out] at Hb2
                    clear hf2
                    go_wp2_with fail
                    refine And.intro Plan.again_nil ?_
                    refine Plan.wpWay_seg ?_
                    repeat go_big_quiet_step (fail)
                    refine wpQuiet_nil ?_
                    refine Plan.wpWay_act ?_
                    go_wp2_with fail
                    refine Hb2.out.mono ?_
                    rintro e w3 ⟨rfl, hf3⟩
                    have HF4 := Lib.hid (HF3.out.trans hf3 fun _ _ => id)
                    clear hf3
                    go_wp2_with fail
                    refine And.intro Plan.again_nil ?_
                    refine Plan.wpWay_last ?_
                    repeat go_big_quiet_step (fail)
                    refine wpQuiet_nil ?_
                    refine NoPanic.normal ?_
                    go_wp2
                    go_roundw
                    case rel => exact ⟨j + 1, by omega, by go_num, hfin, HF4⟩
                    case measure => simp [intOf]; omega
                  | true =>
                    have hfin := Lib.hid (show renamesF t n to = false by
                      unfold renamesF
                      rw [Bool.and_eq_false_iff]; right
                      rw [List.all_eq_false]
                      refine ⟨k, by simp; omega, ?_⟩
                      unfold goodVar
                      rw [Bool.and_eq_true, not_and]
                      intro _
                      rw [List.all_eq_true]
                      intro h
                      have := h j (by simp; omega)
                      unfold badPair at this
                      rw [ha, hb, HX0.out, HY0.out, hd] at this
                      simp at this)
                    have Hb := Lib.hid hb
                    clear hgood hxy hl ha hb
                    go_wp2
                    refine Plan.wp_region_plan [0, 0, 3, 7, 0, 0, 48, 112, 255, 511, 1023, 1023, 1023, 8191, 16383, 32767, 65535, 65535, 65535, 524287, 1048575] (List.cons (Plan.Seg.mk (List.cons 0 (List.cons 1 (List.cons 2 (List.cons 3 (List.cons 4 (List.cons 5 (List.cons 6 (List.cons 7 (List.cons 8 (List.cons 9 (List.cons 10 (List.cons 11 (List.cons 12 List.nil))))))))))))) 13 List.nil) (List.cons (Plan.Seg.mk (List.cons 14 (List.cons 15 (List.cons 16 (List.cons 17 (List.cons 18 List.nil))))) 19 List.nil) List.nil)) (List.cons 20 List.nil) (by kernel_rfl) (by kernel_rfl) ?_
                    simp only [Plan.wayOf, Plan.pickAll, List.getElem?_cons_zero, List.getElem?_cons_succ, List.getD_eq_getElem?_getD, Option.getD_some]
                    refine Plan.wpWay_seg ?_
                    repeat go_big_quiet_step (fail)
                    refine wpQuiet_nil ?_
                    refine Plan.wpWay_act ?_
                    go_wp2_with fail
                    refine Ha.out.mono ?_
                    rintro e w2 ⟨rfl, hf2⟩
                    have HF3 := Lib.hid (HF2.out.drew.trans hf2 fun _ _ => id)
                    have Hb2 := Lib.hid (asks_calls w2 vt t n j hn (by omega) Ht.out (Hs.out.frm HF3.out fun _ _ _ => id))
                    rw [Hb.out] at Hb2
                    clear hf2
                    go_wp2_with fail
                    refine And.intro Plan.again_nil ?_
                    refine Plan.wpWay_seg ?_
                    repeat go_big_quiet_step (fail)
                    refine wpQuiet_nil ?_
                    refine Plan.wpWay_act ?_
                    go_wp2_with fail
                    refine Hb2.out.mono ?_
                    rintro e w3 ⟨rfl, hf3⟩
                    have HF4 := Lib.hid (HF3.out.trans hf3 fun _ _ => id)
                    clear hf3
                    go_wp2_with fail
                    refine And.intro Plan.again_nil ?_
                    refine Plan.wpWay_last ?_
                    repeat go_big_quiet_step (fail)
                    refine wpQuiet_nil ?_
                    refine NoPanic.normal ?_
                    go_wp2
                    go_ret
                    exact ⟨by rw [hfin.out]; rfl, HF4.out⟩
            · have hjk : j = k := by omega
              have hfin := Lib.hid (show ∀ v < k + 1, goodVar t n to v = true from fun v hv => by
                by_cases e : v = k
                · subst e
                  unfold goodVar
                  rw [HX0.out, decide_eq_true hr, Bool.true_and, List.all_eq_true]
                  intro u hu
                  rw [HB.out u (by simp at hu; omega)]; rfl
                · exact HG.out v (by omega))
              clear hjk
              go_wp2
              go_roundw
              case rel => exact ⟨k + 1, by omega, by go_num, hfin, HF2⟩
              case measure => simp [intOf]; omega
      · have hke : k = n := by omega
        have hfin := Lib.hid (show renamesF t n to = true by
          unfold renamesF
          rw [decide_eq_true hl, Bool.true_and, List.all_eq_true]
          intro v hv
          exact HG.out v (by simp at hv; omega))
        clear hke
        go_wp2
        go_ret
        exact ⟨by rw [hfin.out]; rfl, HF.out⟩
end TabW
end Go.Proofs.Ytjajpdmmoiiojaa
