/- The statements, walked: BddSizes. -/
import Derived.Test.YtjajpdmmoiiojaaLawB1
import Derived.Test.YtjajpdmmoiiojaaLawW7
namespace Go.Proofs.Ytjajpdmmoiiojaa
open Go.RowKit Go.Mem Go.Bdd
namespace LawW
open TabW BddW

set_option maxRecDepth 100000 in
set_option maxHeartbeats 4000000 in
theorem sizes_walk (a0 : Int) (h : 0 ≤ a0 ∧ a0 ≤ 255) (va : Value) (xs : List ActF) (w : World) (hA : ActsIn w (fun _ => False) va xs) :
    Calls Try.prog 6 #[.int .u8 a0, va] w fun e w' => e = .returned (.bool true) ∧ Below w.heap.size w w' := by
  obtain ⟨h0, h255⟩ := h
  obtain ⟨n, hn, hn1, hn6⟩ : ∃ n : Nat, 1 + a0 % 5 = (n : Int) ∧ 1 ≤ n ∧ n ≤ 6 := ⟨(1 + a0 % 5).toNat, by omega, by omega, by omega⟩
  have hn64 : (n : Int) ≤ 64 := by omega
  have HN := Lib.hid (New_ok w n 100000 (by omega) (by omega) (by omega) (by omega))
  have HA := Lib.hid hA
  have Hn1 := Lib.hid hn1
  have Hn6 := Lib.hid hn6
  obtain ⟨A2, c2, rfl, _, _⟩ := hA.slice
  clear hA hn1 hn6
  go_enter Try.func6, Try.ntmps6
  go_wp2_with fail
  refine HN.out.mono ?_
  rintro e w1 ⟨own, p, rfl, hS, hnew, hF⟩
  have HAW := Lib.hid (awake_calls w1)
  have HM1 : Hid (Moves (fun _ => False) w own w1) := Lib.hid ⟨hF, fun b hb => .inr (hnew b hb)⟩
  have HS := Lib.hid hS
  clear hS hnew hF HN
  go_wp2_with fail
  refine HAW.out.mono ?_
  rintro e w2 ⟨rfl, hf2⟩
  have HM2 := Lib.hid (HM1.out.trans (.of_frm (hf2.mono fun _ _ h => h.elim) fun _ h => .inl h))
  have HB := Lib.hid (built_calls n Hn1.out Hn6.out (HS.out.frm hf2 fun _ _ => id) (good0 (n := n) (room := 100000) (by omega)) _ xs (HA.out.move HM2.out) (by show (0 : Int) + 12002 < 100000; omega))
  clear hf2 HAW
  go_wp2_with fail
  refine HB.out.mono ?_
  rintro e w3 ⟨vl, vt, l, t, own3, s3, rfl, hS3, hM3, hG3, hL3, hE3, hW3, hN3⟩
  have HM3 := Lib.hid (HM2.out.trans hM3)
  have HS3 := Lib.hid hS3
  have HG3 := Lib.hid hG3
  have HL3 := Lib.hid hL3
  have hl2 := hG3.two
  have hlt := hG3.len
  obtain ⟨vs, rt1, rt2, rt3⟩ := hL3.rt
  obtain ⟨gl, cl, rfl⟩ : ∃ gl cl, vl = .slice (some ⟨gl, 0, none⟩) l.length cl := by
    rcases hL3.rl.shape with ⟨_, e⟩ | ⟨g, c, e, _⟩
    · subst e; simp at hl2
    · exact ⟨g, c, e⟩
  obtain ⟨gt, ct, rfl⟩ : ∃ gt ct, vt = .slice (some ⟨gt, 0, none⟩) t.length ct := by
    rcases rt1.shape with ⟨_, e⟩ | ⟨g, c, e, _⟩
    · subst e; simp at rt2; omega
    · exact ⟨g, c, by rw [rt2] at e; exact e⟩
  have HN3 := Lib.hid hN3
  have Hlt := Lib.hid hlt
  clear hS3 hM3 hG3 hL3 hE3 hW3 hN3 rt1 rt2 rt3 HB hlt
  go_wp2
  go_loopw [11] (fun v11 w' => ∃ i : Nat, i ≤ l.length ∧ v11 = .int .i64 i ∧ Hid (Frm (fun _ => False) w3 w')) (fun v11 _ => l.length - (intOf v11).toNat)
  case atStart => exact ⟨0, Nat.zero_le _, rfl, Lib.hid (Frm.refl _ _)⟩
  case round =>
    obtain ⟨i, hi, rfl, HF⟩ := hrel
    have hl32 := HN3.out
    by_cases hil : i < l.length
    · have hilI : (i : Int) < (l.length : Int) := by omega
      have hitI : (i : Int) < (t.length : Int) := by have := Hlt.out; omega
      obtain ⟨hli, u, hti, htu⟩ := HL3.out.at hil Hlt.out
      obtain ⟨hIn, hTab⟩ := HG3.out.get (a := i) (by omega) hilI
      have hlen : (tab t i).length = 2 ^ n := by rw [hTab, tabOf_len]
      have hroom : s3.room ≤ 16777216 := by obtain ⟨_, _, _, H⟩ := HS3.out; exact H.room
      have hinv := HG3.out.inv.room
      obtain ⟨hsz, hsl⟩ := size_res (k := 100) HG3.out.inv HG3.out.vars hIn (by have := Hn6.out; omega) (by omega)
      rw [← hTab] at hsz hsl
      have HZ := Lib.hid (Size_calls (HS3.out.frm HF.out fun _ _ => id) 100 (lat l i) _ hsz)
      have HND := Lib.hid fun (w5 : World) (hf : Frm (fun _ => False) w3 w5) => nodes_calls w5 u (tab t i) n Hn1.out Hn6.out hlen (htu.frm hf fun _ _ _ => id)
      have hLl : (s3.l.length : Int) ≤ 16777216 := by omega
      have Hti := Lib.hid hti
      have r1 := frm0_cell HF.out hli
      generalize hpl : (partsF (tab t i) n n).length = pl at *
      generalize hL : s3.l.length = L at *
      have HL := Lib.hid hL
      clear hTab hlen htu hli hti hsz hroom hinv hpl hL
      go_wp2_with fail
      refine HZ.out.mono ?_
      rintro e w4 ⟨rfl, hf4⟩
      have HF4 := Lib.hid (HF.out.trans hf4 fun _ _ h => h)
      have r2 := frm0_cell HF4.out Hti.out
      clear hf4
      go_wp2_with fail
      refine (HND.out _ HF4.out).mono ?_
      rintro e w5 ⟨rfl, hf5⟩
      have HF5 := Lib.hid (HF4.out.trans hf5 fun _ _ h => h)
      have HNO := Lib.hid (Nodes_calls (HS3.out.frm HF5.out fun _ _ => id))
      rw [HL.out] at HNO
      clear hf5
      go_wp2_with fail
      refine HNO.out.mono ?_
      rintro e w' ⟨rfl, rfl⟩
      have hno : ¬ (pl : Int) + 2 > (L : Int) := by omega
      have hno2 : decide ((L : Int) < (pl : Int) + 2) = false := by simp; omega
      go_wp2
      go_roundw
      case rel => exact ⟨i + 1, by omega, by go_num, HF5⟩
      case measure => simp [intOf]; omega
    · have hiln : ¬ (i : Int) < (l.length : Int) := by omega
      have hfin := Lib.hid (show Below w.heap.size w wr from ((HM3.out.1.trans HF.out fun _ _ h => h.elim)).below)
      go_wp2
      go_ret
      exact ⟨rfl, hfin.out⟩
end LawW
end Go.Proofs.Ytjajpdmmoiiojaa
