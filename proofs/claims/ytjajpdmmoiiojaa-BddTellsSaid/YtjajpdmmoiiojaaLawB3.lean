/- The statements, walked: BddTells. -/
import Derived.Test.YtjajpdmmoiiojaaLawB1
namespace Go.Bdd
theorem Good.zero {n : Nat} {s : Sto} {l : List Int} {t : List (List Bool)} (G : Good n s l t) {a : Int} (ha : 0 ≤ a ∧ a < l.length) (h0 : lat l a = 0) (k : Nat) (hk : k < (tab t a).length) : tat (tab t a) k = false := by
  obtain ⟨ia, ta⟩ := G.get ha.1 ha.2
  rw [ta, tabOf_len] at hk
  rw [ta, tabOf_at _ hk, h0, D_end (f := 0) _ (by omega)]; rfl
end Go.Bdd
namespace Go.Proofs.Ytjajpdmmoiiojaa
open Go.RowKit Go.Mem Go.Bdd
namespace LawW
open TabW BddW

set_option maxRecDepth 100000 in
set_option maxHeartbeats 4000000 in
theorem tells_walk (a0 : Int) (h : 0 ≤ a0 ∧ a0 ≤ 255) (va : Value) (xs : List ActF) (w : World) (hA : ActsIn w (fun _ => False) va xs) :
    Calls Try.prog 4 #[.int .u8 a0, va] w fun e w' => e = .returned (.bool true) ∧ Below w.heap.size w w' := by
  obtain ⟨h0, h255⟩ := h
  obtain ⟨n, hn, hn1, hn6⟩ : ∃ n : Nat, 1 + a0 % 6 = (n : Int) ∧ 1 ≤ n ∧ n ≤ 6 := ⟨(1 + a0 % 6).toNat, by omega, by omega, by omega⟩
  have hn64 : (n : Int) ≤ 64 := by omega
  have HN := Lib.hid (New_ok w n 100000 (by omega) (by omega) (by omega) (by omega))
  have HA := Lib.hid hA
  have Hn1 := Lib.hid hn1
  have Hn6 := Lib.hid hn6
  obtain ⟨A2, c2, rfl, _, _⟩ := hA.slice
  clear hA hn1 hn6
  go_enter Try.func4, Try.ntmps4
  go_wp2_with fail
  refine HN.out.mono ?_
  rintro e w1 ⟨own, p, rfl, hS, hnew, hF⟩
  have HAW := Lib.hid (awake_calls w1)
  have HM1 : Hid (Moves (fun _ => False) w own w1) := Lib.hid ⟨hF, fun b hb => .inr (hnew b hb)⟩
  have HS := Lib.hid hS
  clear hS hnew hF HN
  go_wp2_with fail
  refine HAW.out.mono ?_
  rintro e w2 ⟨rfl, hf2⟩
  have HM2 := Lib.hid (HM1.out.trans (.of_frm (hf2.mono fun _ _ h => h.elim) fun _ h => .inl h))
  have HB := Lib.hid (built_calls n Hn1.out Hn6.out (HS.out.frm hf2 fun _ _ => id) (good0 (n := n) (room := 100000) (by omega)) _ xs (HA.out.move HM2.out) (by show (0 : Int) + 12002 < 100000; omega))
  clear hf2 HAW
  go_wp2_with fail
  refine HB.out.mono ?_
  rintro e w3 ⟨vl, vt, l, t, own3, s3, rfl, hS3, hM3, hG3, hL3, hE3, hW3, hN3⟩
  have HM3 := Lib.hid (HM2.out.trans hM3)
  have HS3 := Lib.hid hS3
  have HG3 := Lib.hid hG3
  have HL3 := Lib.hid hL3
  have hl2 := hG3.two
  have hlt := hG3.len
  obtain ⟨vs, rt1, rt2, rt3⟩ := hL3.rt
  obtain ⟨gl, cl, rfl⟩ : ∃ gl cl, vl = .slice (some ⟨gl, 0, none⟩) l.length cl := by
    rcases hL3.rl.shape with ⟨_, e⟩ | ⟨g, c, e, _⟩
    · subst e; simp at hl2
    · exact ⟨g, c, e⟩
  obtain ⟨gt, ct, rfl⟩ : ∃ gt ct, vt = .slice (some ⟨gt, 0, none⟩) t.length ct := by
    rcases rt1.shape with ⟨_, e⟩ | ⟨g, c, e, _⟩
    · subst e; simp at rt2; omega
    · exact ⟨g, c, by rw [rt2] at e; exact e⟩
  have HN3 := Lib.hid hN3
  have Hlt := Lib.hid hlt
  clear hS3 hM3 hG3 hL3 hE3 hW3 hN3 rt1 rt2 rt3 HB hlt
  go_wp2
  go_loopw [11] (fun v11 w' => ∃ i : Nat, i ≤ l.length ∧ v11 = .int .i64 i ∧ Hid (Frm (fun _ => False) w3 w')) (fun v11 _ => l.length - (intOf v11).toNat)
  case atStart => exact ⟨0, Nat.zero_le _, rfl, Lib.hid (Frm.refl _ _)⟩
  case round =>
    obtain ⟨i, hi, rfl, HF⟩ := hrel
    have hl32 := HN3.out
    by_cases hil : i < l.length
    · have hilI : (i : Int) < (l.length : Int) := by omega
      have hitI : (i : Int) < (t.length : Int) := by have := Hlt.out; omega
      obtain ⟨hli, u, hti, htu⟩ := HL3.out.at hil Hlt.out
      obtain ⟨hIn, hTab⟩ := HG3.out.get (a := i) (by omega) hilI
      obtain ⟨Au, cu, rfl, hbit⟩ := sees_slice htu
      have hlen : (tab t i).length = 2 ^ n := by rw [hTab, tabOf_len]
      have h30 : 2 ^ n ≤ 64 := by
        have h2 : 2 ^ n ≤ 2 ^ 6 := Nat.pow_le_pow_right (by omega) Hn6.out
        have h3 : (2 : Nat) ^ 6 = 64 := by decide
        omega
      have hvars : (n : Int) = s3.vars := HG3.out.vars
      have hcr := count_res (k := 100) HG3.out.inv HG3.out.vars (by omega) hIn (by omega)
      rw [← hTab] at hcr
      have HC := Lib.hid (Count_calls (HS3.out.frm HF.out fun _ _ => id) 100 (lat l i) _ hcr)
      have Htab := Lib.hid hTab
      have Hlen := Lib.hid hlen
      have Hbit := Lib.hid hbit
      have Hli := Lib.hid hli
      have Hti := Lib.hid hti
      have Htu := Lib.hid htu
      have r1 := frm0_cell HF.out hli
      have hlenb : (tab t i).length ≤ 64 := by omega
      have hvb : 0 ≤ s3.vars ∧ s3.vars ≤ 256 := by omega
      have HVB := Lib.hid hvb
      clear hcr hTab hlen htu h30 hti hli hbit hvars hvb
      go_wp2_with fail
      refine HC.out.mono ?_
      rintro e w4 ⟨rfl, hf4⟩
      have HF4 := Lib.hid (HF.out.trans hf4 fun _ _ h => h)
      have r2 := frm0_cell HF4.out Hli.out
      clear hf4 r1
      by_cases hz : lat l i = 0
      · have hP : pickF 100 s3 (lat l i) = some ([], 92) := by unfold pickF; rw [if_pos (.inr hz)]
        have HP := Lib.hid (Pick_calls (HS3.out.frm HF4.out fun _ _ => id) HVB.out.1 HVB.out.2 100 (lat l i) _ hP)
        have HZ := Lib.hid (HG3.out.zero (a := i) ⟨by omega, hilI⟩ hz)
        clear hP hz
        go_wp2_with fail
        refine HP.out.mono ?_
        rintro e w5 ⟨vp, rfl, hrp, hop, hf5⟩
        have HF5 := Lib.hid (HF4.out.trans hf5 fun _ _ h => h)
        clear hrp hop hf5
        go_wp2
        go_loop [16] (fun v16 => ∃ k : Nat, k ≤ (tab t i).length ∧ v16 = .int .i64 k) (fun v16 => (tab t i).length - (intOf v16).toNat)
        case atStart => exact ⟨0, Nat.zero_le _, rfl⟩
        case round =>
          obtain ⟨k, hk, rfl⟩ := hrel
          have q2 := frm0_cell HF5.out Hti.out
          by_cases hkl : k < (tab t i).length
          · have hklI : (k : Int) < ((tab t i).length : Int) := by omega
            have hy := tat_get hkl
            obtain ⟨gu, ou, e, hu⟩ := Hbit.out k _ hy
            subst e
            rw [HZ.out k hkl] at hu
            have q3 := frm0_cell HF5.out hu
            clear hy hu
            go_wp2
            go_round
            case rel => exact ⟨k + 1, by omega, by go_num⟩
            case measure => simp [intOf]; omega
          · have hkl' : k = (tab t i).length := by omega
            have hkn : ¬ (k : Int) < ((tab t i).length : Int) := by omega
            have hkn2 : decide ((k : Int) < ((tab t i).length : Int)) = false := by simp; omega
            have HCT := Lib.hid (TabW.Count_calls (.slice Au (tab t i).length cu) (tab t i) w5 (Htu.out.frm HF5.out fun _ _ _ => id))
            clear hkl'
            go_wp2_with fail
            refine HCT.out.mono ?_
            rintro e w' ⟨rfl, rfl⟩
            go_wp2
            go_roundw
            case rel => exact ⟨i + 1, by omega, by go_num, HF5⟩
            case measure => simp [intOf]; omega
      · obtain ⟨wy, hP, hwl, hw1, hw2, hw3⟩ := pick_res (k := 100) HG3.out.inv HG3.out.vars hIn hz (by have := Hn6.out; omega)
        rw [← Htab.out] at hw2 hw3
        rw [← Hlen.out] at hw1
        have HP := Lib.hid (Pick_calls (HS3.out.frm HF4.out fun _ _ => id) HVB.out.1 HVB.out.2 100 (lat l i) _ hP)
        have HW2 := Lib.hid hw2
        have HW3 := Lib.hid hw3
        have HWL := Lib.hid hwl
        have HW1 := Lib.hid hw1
        clear hP hz hw2 hw3 hwl hw1
        go_wp2_with fail
        refine HP.out.mono ?_
        rintro e w5 ⟨vp, rfl, hrp, hop, hf5⟩
        have HF5 := Lib.hid (HF4.out.trans hf5 fun _ _ h => h)
        obtain ⟨Bp, dp, rfl, _⟩ := sees_slice hrp.sees
        have HRP := Lib.hid hrp.sees
        clear hrp hop hf5
        go_wp2
        go_loop [16] (fun v16 => ∃ k : Nat, k ≤ atF wy ∧ v16 = .int .i64 k) (fun v16 => atF wy - (intOf v16).toNat)
        case atStart => exact ⟨0, Nat.zero_le _, rfl⟩
        case round =>
          obtain ⟨k, hk, rfl⟩ := hrel
          have q2 := frm0_cell HF5.out Hti.out
          have hkl : k < (tab t i).length := by have := HW1.out; omega
          have hklI : (k : Int) < ((tab t i).length : Int) := by omega
          have hy := tat_get hkl
          obtain ⟨gu, ou, e, hu⟩ := Hbit.out k _ hy
          subst e
          by_cases hkw : k < atF wy
          · rw [HW3.out k hkw] at hu
            have q3 := frm0_cell HF5.out hu
            clear hy hu
            go_wp2
            go_round
            case rel => exact ⟨k + 1, by omega, by go_num⟩
            case measure => simp [intOf]; omega
          · obtain rfl : k = atF wy := by omega
            rw [HW2.out] at hu
            have q3 := frm0_cell HF5.out hu
            have HCT := Lib.hid (TabW.Count_calls (.slice (some ⟨gu, ou, none⟩) (tab t i).length cu) (tab t i) w5 (Htu.out.frm HF5.out fun _ _ _ => id))
            have HAT := Lib.hid (TabW.At_calls (.slice Bp wy.length dp) wy w5 HRP.out (by rw [HWL.out]; have := Hn6.out; omega))
            have HWLI := Lib.hid (show (wy.length : Int) = n by rw [HWL.out])
            clear hy hu hkw
            go_wp2_with fail
            refine HCT.out.mono ?_
            rintro e w' ⟨rfl, rfl⟩
            go_wp2_with fail
            refine HAT.out.mono ?_
            rintro e w' ⟨rfl, rfl⟩
            have hwl := HWLI.out
            go_wp2
            clear hwl
            go_roundw
            case rel => exact ⟨i + 1, by omega, by go_num, HF5⟩
            case measure => simp [intOf]; omega
    · have hiln : ¬ (i : Int) < (l.length : Int) := by omega
      have hfin := Lib.hid (show Below w.heap.size w wr from ((HM3.out.1.trans HF.out fun _ _ h => h.elim)).below)
      go_wp2
      go_ret
      exact ⟨rfl, hfin.out⟩
end LawW
end Go.Proofs.Ytjajpdmmoiiojaa
