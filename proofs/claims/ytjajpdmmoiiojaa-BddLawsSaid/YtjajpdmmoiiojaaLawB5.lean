/- The statements, walked: BddLaws. -/
import Derived.Test.YtjajpdmmoiiojaaLawB1
import Derived.Test.YtjajpdmmoiiojaaP9
namespace Go.Proofs.Ytjajpdmmoiiojaa
open Go.RowKit Go.Mem Go.Bdd
namespace LawW
open TabW BddW

set_option maxRecDepth 100000 in
set_option maxHeartbeats 4000000 in
theorem laws_walk (a0 : Int) (h : 0 ≤ a0 ∧ a0 ≤ 255) (va : Value) (xs : List ActF) (q0 q1 q2 : Int) (h0' : 0 ≤ q0 ∧ q0 ≤ 255) (h1' : 0 ≤ q1 ∧ q1 ≤ 255) (h2' : 0 ≤ q2 ∧ q2 ≤ 255) (w : World) (hA : ActsIn w (fun _ => False) va xs) :
    Calls Try.prog 5 #[.int .u8 a0, va, .agg #[.int .u8 q0, .int .u8 q1, .int .u8 q2]] w fun e w' => e = .returned (.bool true) ∧ Below w.heap.size w w' := by
  obtain ⟨h0, h255⟩ := h
  obtain ⟨n, hn, hn1, hn6⟩ : ∃ n : Nat, 1 + a0 % 6 = (n : Int) ∧ 1 ≤ n ∧ n ≤ 6 := ⟨(1 + a0 % 6).toNat, by omega, by omega, by omega⟩
  have hn64 : (n : Int) ≤ 64 := by omega
  have HN := Lib.hid (New_ok (w.alloc (.cells #[.int .u8 q0, .int .u8 q1, .int .u8 q2] 42)) n 200000 (by omega) (by omega) (by omega) (by omega))
  have HA := Lib.hid hA
  have Hn1 := Lib.hid hn1
  have Hn6 := Lib.hid hn6
  obtain ⟨A2, c2, rfl, _, _⟩ := hA.slice
  clear hA hn1 hn6
  go_enter Try.func5, Try.ntmps5
  go_wp2_with fail
  refine HN.out.mono ?_
  rintro e w1 ⟨own, p, rfl, hS, hnew, hF⟩
  have HAW := Lib.hid (awake_calls w1)
  have HM1 : Hid (Moves (fun _ => False) (w.alloc (.cells #[.int .u8 q0, .int .u8 q1, .int .u8 q2] 42)) own w1) := Lib.hid ⟨hF, fun b hb => .inr (hnew b hb)⟩
  have HS := Lib.hid hS
  clear hS hnew hF HN
  go_wp2_with fail
  refine HAW.out.mono ?_
  rintro e w2 ⟨rfl, hf2⟩
  have HM2 := Lib.hid (HM1.out.trans (.of_frm (hf2.mono fun _ _ h => h.elim) fun _ h => .inl h))
  have HB := Lib.hid (built_calls n Hn1.out Hn6.out (HS.out.frm hf2 fun _ _ => id) (good0 (n := n) (room := 200000) (by omega)) _ xs ((HA.out.move (w' := (w.alloc (.cells #[.int .u8 q0, .int .u8 q1, .int .u8 q2] 42))) (own' := fun _ => False) (.of_frm ((Frm.refl _ _).alloc _) fun _ h => .inl h)).move HM2.out) (by show (0 : Int) + 12002 < 200000; omega))
  clear hf2 HAW
  go_wp2_with fail
  refine HB.out.mono ?_
  rintro e w3 ⟨vl, vt, l, t, own3, s3, rfl, hS3, hM3, hG3, hL3, hE3, hW3, hN3⟩
  have HM3 := Lib.hid (HM2.out.trans hM3)
  have HS3 := Lib.hid hS3
  have HG3 := Lib.hid hG3
  have HL3 := Lib.hid hL3
  have hl2 := hG3.two
  have hlt := hG3.len
  obtain ⟨vs, rt1, rt2, rt3⟩ := hL3.rt
  obtain ⟨gl, cl, rfl⟩ : ∃ gl cl, vl = .slice (some ⟨gl, 0, none⟩) l.length cl := by
    rcases hL3.rl.shape with ⟨_, e⟩ | ⟨g, c, e, _⟩
    · subst e; simp at hl2
    · exact ⟨g, c, e⟩
  obtain ⟨gt, ct, rfl⟩ : ∃ gt ct, vt = .slice (some ⟨gt, 0, none⟩) t.length ct := by
    rcases rt1.shape with ⟨_, e⟩ | ⟨g, c, e, _⟩
    · subst e; simp at rt2; omega
    · exact ⟨g, c, by rw [rt2] at e; exact e⟩
  have HN3 := Lib.hid hN3
  have HW3 := Lib.hid (show s3.works ≤ 12000 from by have h9 : (newSto n 200000).works = 0 := rfl; rw [h9] at hW3; omega)
  have HR3 := Lib.hid (show s3.room = 200000 from hE3.room)
  have Hlt := Lib.hid hlt
  clear hS3 hM3 hG3 hL3 hE3 hW3 hN3 rt1 rt2 rt3 HB hlt
  obtain ⟨aq, haq, hal⟩ : ∃ aq : Nat, q0 % (l.length : Int) = (aq : Int) ∧ aq < l.length := ⟨(q0 % (l.length : Int)).toNat, by have := Int.emod_nonneg q0 (show (l.length : Int) ≠ 0 by omega); omega, by have := Int.emod_lt_of_pos q0 (show (0 : Int) < l.length by omega); have := Int.emod_nonneg q0 (show (l.length : Int) ≠ 0 by omega); omega⟩
  obtain ⟨bq, hbq, hbl⟩ : ∃ bq : Nat, q1 % (l.length : Int) = (bq : Int) ∧ bq < l.length := ⟨(q1 % (l.length : Int)).toNat, by have := Int.emod_nonneg q1 (show (l.length : Int) ≠ 0 by omega); omega, by have := Int.emod_lt_of_pos q1 (show (0 : Int) < l.length by omega); have := Int.emod_nonneg q1 (show (l.length : Int) ≠ 0 by omega); omega⟩
  have hn1' := Hn1.out
  obtain ⟨vq, hvq, hvl⟩ : ∃ vq : Nat, q2 % (n : Int) = (vq : Int) ∧ vq < n := ⟨(q2 % (n : Int)).toNat, by have := Int.emod_nonneg q2 (show (n : Int) ≠ 0 by omega); omega, by have := Int.emod_lt_of_pos q2 (show (0 : Int) < n by omega); have := Int.emod_nonneg q2 (show (n : Int) ≠ 0 by omega); omega⟩
  have halI : (aq : Int) < (l.length : Int) := by omega
  have hblI : (bq : Int) < (l.length : Int) := by omega
  have hlpos : (0 : Int) < (l.length : Int) := by omega
  have hl32 : (l.length : Int) ≤ 32 := by have := HN3.out; omega
  have hlne : ((l.length : Int) == 0) = false := beq_false_of_ne (by omega)
  have hnne : ((n : Int) == 0) = false := beq_false_of_ne (by omega)
  obtain ⟨hfa, _⟩ := HL3.out.at hal Hlt.out
  obtain ⟨hgb, _⟩ := HL3.out.at hbl Hlt.out
  obtain ⟨inf, _⟩ := HG3.out.get (a := aq) (by omega) halI
  obtain ⟨ing, _⟩ := HG3.out.get (a := bq) (by omega) hblI
  obtain ⟨a1, s4, a2, s5, a3, s6, a4, s7, a5, s8, a6, s9, a7, s10, a8, s11, a9, s12, a10, s13, a11, s14, e1, e2, e3, e4, e5, e6, e7, e8, e9, e10, e11, k1, k2, k3⟩ := laws_res HG3.out.inv HG3.out.vars Hn6.out (by have := HW3.out; have := HR3.out; omega) (by have := HR3.out; omega) inf ing (v := vq) ⟨by omega, by omega⟩
  have hqb := blk_frm (blk_new (w := w) (.cells #[.int .u8 q0, .int .u8 q1, .int .u8 q2] 42)) HM3.out.1 id
  have c0 : w3.cell? ⟨w.heap.size, 0, none⟩ = some (.int .u8 q0) := blk_cell hqb 0
  have c1 : w3.cell? ⟨w.heap.size, 1, none⟩ = some (.int .u8 q1) := blk_cell hqb 1
  have c2' : w3.cell? ⟨w.heap.size, 2, none⟩ = some (.int .u8 q2) := blk_cell hqb 2
  have hqb2 := blk_alloc hqb (.cells #[.int .i64 vq] 3)
  have d0 : (w3.alloc (.cells #[.int .i64 vq] 3)).cell? ⟨w.heap.size, 0, none⟩ = some (.int .u8 q0) := blk_cell hqb2 0
  have d1 : (w3.alloc (.cells #[.int .i64 vq] 3)).cell? ⟨w.heap.size, 1, none⟩ = some (.int .u8 q1) := blk_cell hqb2 1
  have d2 : (w3.alloc (.cells #[.int .i64 vq] 3)).cell? ⟨w.heap.size, 2, none⟩ = some (.int .u8 q2) := blk_cell hqb2 2
  have hfa2 := frm0_cell ((Frm.refl (fun _ => False) w3).alloc (.cells #[.int .i64 vq] 3)) hfa
  have hgb2 := frm0_cell ((Frm.refl (fun _ => False) w3).alloc (.cells #[.int .i64 vq] 3)) hgb
  generalize lat l aq = f at *
  generalize lat l bq = g at *
  have HSE := Lib.hid (show Sees (w3.alloc (.cells #[.int .i64 vq] 3)).drew (Value.int .i64) (.slice (some ⟨w3.heap.size, 0, none⟩) 1 1) [(vq : Int)] from sees_of_blk (w := (w3.alloc (.cells #[.int .i64 vq] 3)).drew) (blk_new (w := w3) _) rfl rfl (by decide))
  have HOW := Lib.hid (HS3.out.ownlt)
  have HS := Lib.hid ((HS3.out.alloc (.cells #[.int .i64 vq] 3)).drew)
  have HM := Lib.hid (HM3.out.trans (.of_frm (((Frm.refl _ _).alloc (.cells #[.int .i64 vq] 3)).drew) fun _ h => .inl h))
  have E1 := Lib.hid e1
  have E2 := Lib.hid e2
  have E3 := Lib.hid e3
  have E4 := Lib.hid e4
  have E5 := Lib.hid e5
  have E6 := Lib.hid e6
  have E7 := Lib.hid e7
  have E8 := Lib.hid e8
  have E9 := Lib.hid e9
  have E10 := Lib.hid e10
  have E11 := Lib.hid e11
  have K1 := Lib.hid k1
  have K2 := Lib.hid k2
  have K3 := Lib.hid k3
  clear e1 e2 e3 e4 e5 e6 e7 e8 e9 e10 e11 k1 k2 k3 hqb hqb2 inf ing hal hbl hvl hn1'
  have HSZ0 : Hid (w3.heap.size < (w3.alloc (.cells #[.int .i64 vq] 3)).drew.heap.size) := Lib.hid (by simp [World.drew])
  have HNO0 : Hid (¬ own3 w3.heap.size) := Lib.hid fun ho => by have := HOW.out _ ho; omega
  go_wp2
  refine Plan.wp_region_plan [0, 0, 2, 6, 0, 16, 62, 127, 255, 0, 0, 1024, 3072, 0, 8192, 31744, 65024, 130560, 0, 262144, 786432, 0, 3932160, 8126464, 511, 17039359, 67108863] (List.cons (Plan.Seg.mk (List.cons 0 (List.cons 1 (List.cons 2 (List.cons 3 (List.cons 4 (List.cons 5 (List.cons 6 (List.cons 7 (List.cons 8 (List.cons 9 (List.cons 10 (List.cons 11 (List.cons 12 (List.cons 13 (List.cons 14 (List.cons 15 (List.cons 16 (List.cons 17 (List.cons 18 (List.cons 19 (List.cons 20 (List.cons 21 (List.cons 22 (List.cons 24 (List.cons 25 List.nil))))))))))))))))))))))))) 23 (List.cons 0 (List.cons 1 (List.cons 2 (List.cons 3 (List.cons 4 (List.cons 5 (List.cons 6 (List.cons 7 (List.cons 8 (List.cons 9 (List.cons 10 (List.cons 11 (List.cons 12 (List.cons 13 (List.cons 14 (List.cons 15 (List.cons 16 (List.cons 17 (List.cons 24 (List.cons 25 List.nil))))))))))))))))))))) List.nil) (List.cons 26 List.nil) (by kernel_rfl) (by kernel_rfl) ?_
  simp only [Plan.wayOf, Plan.pickAll, List.getElem?_cons_zero, List.getElem?_cons_succ, List.getD_eq_getElem?_getD, Option.getD_some]
  refine Plan.wpWay_seg ?_
  repeat go_big_quiet_step (fail)
  refine wpQuiet_nil ?_
  refine Plan.wpWay_act ?_
  go_wp2_with (fail)
  refine And.intro ?_ ?_
  focus
    refine Plan.again_cons ?_ ?_
    focus
      go_big_quiet_step (fail)
      exact wpQuiet_nil rfl
    refine Plan.again_cons ?_ ?_
    focus
      go_big_quiet_step (fail)
      exact wpQuiet_nil rfl
    refine Plan.again_cons ?_ ?_
    focus
      go_big_quiet_step (fail)
      exact wpQuiet_nil rfl
    refine Plan.again_cons ?_ ?_
    focus
      go_big_quiet_step (fail)
      exact wpQuiet_nil rfl
    refine Plan.again_cons ?_ ?_
    focus
      go_big_quiet_step (fail)
      exact wpQuiet_nil rfl
    refine Plan.again_cons ?_ ?_
    focus
      go_big_quiet_step (fail)
      exact wpQuiet_nil rfl
    refine Plan.again_cons ?_ ?_
    focus
      go_big_quiet_step (fail)
      exact wpQuiet_nil rfl
    refine Plan.again_cons ?_ ?_
    focus
      go_big_quiet_step (fail)
      exact wpQuiet_nil rfl
    refine Plan.again_cons ?_ ?_
    focus
      go_big_quiet_step (fail)
      exact wpQuiet_nil rfl
    refine Plan.again_cons ?_ ?_
    focus
      go_big_quiet_step (fail)
      exact wpQuiet_nil rfl
    refine Plan.again_cons ?_ ?_
    focus
      go_big_quiet_step (fail)
      exact wpQuiet_nil rfl
    refine Plan.again_cons ?_ ?_
    focus
      go_big_quiet_step (fail)
      exact wpQuiet_nil rfl
    refine Plan.again_cons ?_ ?_
    focus
      go_big_quiet_step (fail)
      exact wpQuiet_nil rfl
    refine Plan.again_cons ?_ ?_
    focus
      go_big_quiet_step (fail)
      exact wpQuiet_nil rfl
    refine Plan.again_cons ?_ ?_
    focus
      go_big_quiet_step (fail)
      exact wpQuiet_nil rfl
    refine Plan.again_cons ?_ ?_
    focus
      go_big_quiet_step (fail)
      exact wpQuiet_nil rfl
    refine Plan.again_cons ?_ ?_
    focus
      go_big_quiet_step (fail)
      exact wpQuiet_nil rfl
    refine Plan.again_cons ?_ ?_
    focus
      go_big_quiet_step (fail)
      exact wpQuiet_nil rfl
    refine Plan.again_cons ?_ ?_
    focus
      go_big_quiet_step (fail)
      exact wpQuiet_nil rfl
    refine Plan.again_cons ?_ ?_
    focus
      go_big_quiet_step (fail)
      exact wpQuiet_nil rfl
    exact Plan.again_nil
  refine Plan.wpWay_last ?_
  repeat go_big_quiet_step (fail)
  refine wpQuiet_nil ?_
  refine NoPanic.normal ?_
  clear c0 c1 c2' d0 d1 d2 hfa hgb hfa2 hgb2 haq hbq hvq
  go_wp2_with fail
  refine (And_calls HS.out 100 f g _ _ E1.out).mono ?_
  rintro e w4 ⟨rfl, own4, hS, hM⟩
  have HS1 := Lib.hid hS
  have HSZ1 : Hid (w3.heap.size < w4.heap.size) := Lib.hid (Nat.lt_of_lt_of_le HSZ0.out hM.1.size)
  have HM1 := Lib.hid (HM.out.trans hM)
  have HSE1 := Lib.hid (HSE.out.frm hM.1 fun g hg _ ho => by obtain ⟨o9, n9, c9, e9⟩ := hg; cases e9; exact HNO0.out ho)
  have HNO1 : Hid (¬ own4 w3.heap.size) := Lib.hid fun ho => by rcases hM.2 _ ho with h9 | h9; exact HNO0.out h9; have h10 := HSZ0.out; omega
  clear hS hM
  go_wp2_with fail
  refine (Not_calls HS1.out 100 a1 _ _ E2.out).mono ?_
  rintro e w5 ⟨rfl, own5, hS, hM⟩
  have HS2 := Lib.hid hS
  have HSZ2 : Hid (w3.heap.size < w5.heap.size) := Lib.hid (Nat.lt_of_lt_of_le HSZ1.out hM.1.size)
  have HM2 := Lib.hid (HM1.out.trans hM)
  have HSE2 := Lib.hid (HSE1.out.frm hM.1 fun g hg _ ho => by obtain ⟨o9, n9, c9, e9⟩ := hg; cases e9; exact HNO1.out ho)
  have HNO2 : Hid (¬ own5 w3.heap.size) := Lib.hid fun ho => by rcases hM.2 _ ho with h9 | h9; exact HNO1.out h9; have h10 := HSZ1.out; omega
  clear hS hM
  go_wp2_with fail
  refine (Not_calls HS2.out 100 f _ _ E3.out).mono ?_
  rintro e w6 ⟨rfl, own6, hS, hM⟩
  have HS3 := Lib.hid hS
  have HSZ3 : Hid (w3.heap.size < w6.heap.size) := Lib.hid (Nat.lt_of_lt_of_le HSZ2.out hM.1.size)
  have HM3 := Lib.hid (HM2.out.trans hM)
  have HSE3 := Lib.hid (HSE2.out.frm hM.1 fun g hg _ ho => by obtain ⟨o9, n9, c9, e9⟩ := hg; cases e9; exact HNO2.out ho)
  have HNO3 : Hid (¬ own6 w3.heap.size) := Lib.hid fun ho => by rcases hM.2 _ ho with h9 | h9; exact HNO2.out h9; have h10 := HSZ2.out; omega
  clear hS hM
  go_wp2_with fail
  refine (Not_calls HS3.out 100 g _ _ E4.out).mono ?_
  rintro e w7 ⟨rfl, own7, hS, hM⟩
  have HS4 := Lib.hid hS
  have HSZ4 : Hid (w3.heap.size < w7.heap.size) := Lib.hid (Nat.lt_of_lt_of_le HSZ3.out hM.1.size)
  have HM4 := Lib.hid (HM3.out.trans hM)
  have HSE4 := Lib.hid (HSE3.out.frm hM.1 fun g hg _ ho => by obtain ⟨o9, n9, c9, e9⟩ := hg; cases e9; exact HNO3.out ho)
  have HNO4 : Hid (¬ own7 w3.heap.size) := Lib.hid fun ho => by rcases hM.2 _ ho with h9 | h9; exact HNO3.out h9; have h10 := HSZ3.out; omega
  clear hS hM
  go_wp2_with fail
  refine (Or_calls HS4.out 100 a3 a4 _ _ E5.out).mono ?_
  rintro e w8 ⟨rfl, own8, hS, hM⟩
  have HS5 := Lib.hid hS
  have HSZ5 : Hid (w3.heap.size < w8.heap.size) := Lib.hid (Nat.lt_of_lt_of_le HSZ4.out hM.1.size)
  have HM5 := Lib.hid (HM4.out.trans hM)
  have HSE5 := Lib.hid (HSE4.out.frm hM.1 fun g hg _ ho => by obtain ⟨o9, n9, c9, e9⟩ := hg; cases e9; exact HNO4.out ho)
  have HNO5 : Hid (¬ own8 w3.heap.size) := Lib.hid fun ho => by rcases hM.2 _ ho with h9 | h9; exact HNO4.out h9; have h10 := HSZ4.out; omega
  clear hS hM
  go_wp2_with fail
  refine (Or_calls HS5.out 100 f g _ _ E6.out).mono ?_
  rintro e w9 ⟨rfl, own9, hS, hM⟩
  have HS6 := Lib.hid hS
  have HSZ6 : Hid (w3.heap.size < w9.heap.size) := Lib.hid (Nat.lt_of_lt_of_le HSZ5.out hM.1.size)
  have HM6 := Lib.hid (HM5.out.trans hM)
  have HSE6 := Lib.hid (HSE5.out.frm hM.1 fun g hg _ ho => by obtain ⟨o9, n9, c9, e9⟩ := hg; cases e9; exact HNO5.out ho)
  have HNO6 : Hid (¬ own9 w3.heap.size) := Lib.hid fun ho => by rcases hM.2 _ ho with h9 | h9; exact HNO5.out h9; have h10 := HSZ5.out; omega
  clear hS hM
  go_wp2_with fail
  refine (Exists_calls HS6.out 100 a6 _ _ HSE6.out (fun g hg _ ho => by obtain ⟨o9, n9, c9, e9⟩ := hg; cases e9; exact HNO6.out ho) _ _ E7.out).mono ?_
  rintro e w10 ⟨rfl, own10, hS, hM⟩
  have HS7 := Lib.hid hS
  have HSZ7 : Hid (w3.heap.size < w10.heap.size) := Lib.hid (Nat.lt_of_lt_of_le HSZ6.out hM.1.size)
  have HM7 := Lib.hid (HM6.out.trans hM)
  have HSE7 := Lib.hid (HSE6.out.frm hM.1 fun g hg _ ho => by obtain ⟨o9, n9, c9, e9⟩ := hg; cases e9; exact HNO6.out ho)
  have HNO7 : Hid (¬ own10 w3.heap.size) := Lib.hid fun ho => by rcases hM.2 _ ho with h9 | h9; exact HNO6.out h9; have h10 := HSZ6.out; omega
  clear hS hM
  go_wp2_with fail
  refine (Exists_calls HS7.out 100 f _ _ HSE7.out (fun g hg _ ho => by obtain ⟨o9, n9, c9, e9⟩ := hg; cases e9; exact HNO7.out ho) _ _ E8.out).mono ?_
  rintro e w11 ⟨rfl, own11, hS, hM⟩
  have HS8 := Lib.hid hS
  have HSZ8 : Hid (w3.heap.size < w11.heap.size) := Lib.hid (Nat.lt_of_lt_of_le HSZ7.out hM.1.size)
  have HM8 := Lib.hid (HM7.out.trans hM)
  have HSE8 := Lib.hid (HSE7.out.frm hM.1 fun g hg _ ho => by obtain ⟨o9, n9, c9, e9⟩ := hg; cases e9; exact HNO7.out ho)
  have HNO8 : Hid (¬ own11 w3.heap.size) := Lib.hid fun ho => by rcases hM.2 _ ho with h9 | h9; exact HNO7.out h9; have h10 := HSZ7.out; omega
  clear hS hM
  go_wp2_with fail
  refine (Exists_calls HS8.out 100 g _ _ HSE8.out (fun g hg _ ho => by obtain ⟨o9, n9, c9, e9⟩ := hg; cases e9; exact HNO8.out ho) _ _ E9.out).mono ?_
  rintro e w12 ⟨rfl, own12, hS, hM⟩
  have HS9 := Lib.hid hS
  have HSZ9 : Hid (w3.heap.size < w12.heap.size) := Lib.hid (Nat.lt_of_lt_of_le HSZ8.out hM.1.size)
  have HM9 := Lib.hid (HM8.out.trans hM)
  have HSE9 := Lib.hid (HSE8.out.frm hM.1 fun g hg _ ho => by obtain ⟨o9, n9, c9, e9⟩ := hg; cases e9; exact HNO8.out ho)
  have HNO9 : Hid (¬ own12 w3.heap.size) := Lib.hid fun ho => by rcases hM.2 _ ho with h9 | h9; exact HNO8.out h9; have h10 := HSZ8.out; omega
  clear hS hM
  go_wp2_with fail
  refine (Or_calls HS9.out 100 a8 a9 _ _ E10.out).mono ?_
  rintro e w13 ⟨rfl, own13, hS, hM⟩
  have HS10 := Lib.hid hS
  have HSZ10 : Hid (w3.heap.size < w13.heap.size) := Lib.hid (Nat.lt_of_lt_of_le HSZ9.out hM.1.size)
  have HM10 := Lib.hid (HM9.out.trans hM)
  have HSE10 := Lib.hid (HSE9.out.frm hM.1 fun g hg _ ho => by obtain ⟨o9, n9, c9, e9⟩ := hg; cases e9; exact HNO9.out ho)
  have HNO10 : Hid (¬ own13 w3.heap.size) := Lib.hid fun ho => by rcases hM.2 _ ho with h9 | h9; exact HNO9.out h9; have h10 := HSZ9.out; omega
  clear hS hM
  go_wp2_with fail
  refine (Iff_calls HS10.out 100 f g _ _ E11.out).mono ?_
  rintro e w14 ⟨rfl, own14, hS, hM⟩
  have HS11 := Lib.hid hS
  have HSZ11 : Hid (w3.heap.size < w14.heap.size) := Lib.hid (Nat.lt_of_lt_of_le HSZ10.out hM.1.size)
  have HM11 := Lib.hid (HM10.out.trans hM)
  have HSE11 := Lib.hid (HSE10.out.frm hM.1 fun g hg _ ho => by obtain ⟨o9, n9, c9, e9⟩ := hg; cases e9; exact HNO10.out ho)
  have HNO11 : Hid (¬ own14 w3.heap.size) := Lib.hid fun ho => by rcases hM.2 _ ho with h9 | h9; exact HNO10.out h9; have h10 := HSZ10.out; omega
  clear hS hM
  have k1 := K1.out
  have k2 := K2.out
  subst k1
  subst k2
  have hfin := Lib.hid (show Below w.heap.size w w14 from ((((Frm.refl (fun _ => False) w).alloc (.cells #[.int .u8 q0, .int .u8 q1, .int .u8 q2] 42)).trans HM11.out.1 fun _ _ h => h)).below)
  by_cases hfg : f = g
  · have ha11 := K3.out.2 hfg
    subst hfg
    subst ha11
    go_wp2
    go_ret
    exact ⟨rfl, hfin.out⟩
  · have ha11 : (a11 == 1) = false := by simp; exact fun h => hfg (K3.out.1 h)
    have hfg' : (f == g) = false := by simp [hfg]
    clear hfg
    go_wp2
    go_ret
    exact ⟨rfl, hfin.out⟩
end LawW
end Go.Proofs.Ytjajpdmmoiiojaa
