/- The statements, walked: BddRefuses, case by case (one). -/
import Derived.Test.YtjajpdmmoiiojaaLawB6
namespace Go.Proofs.Ytjajpdmmoiiojaa
open Go.RowKit Go.Mem Go.Bdd
namespace LawW
open TabW BddW

set_option maxRecDepth 100000 in
set_option maxHeartbeats 4000000 in
theorem refuses_aa (vars f v : Int) (h0 : 0 ≤ vars) (h1 : vars ≤ 256) (hf : f < 0) (hvv : v < 0) (w : World) : Calls Try.prog 9 #[.int .i64 vars, .int .i64 f, .int .i64 v] w fun e w' => e = .returned (.bool true) ∧ Below w.heap.size w w' := by
  have HN := Lib.hid (New_ok w vars 50 h0 h1 (by omega) (by omega))
  have REF := refuses_res h0 f v
  have HVB := Lib.hid (show 0 ≤ (sto0 vars 50).vars ∧ (sto0 vars 50).vars ≤ 256 from ⟨h0, h1⟩)
  have HKY : Hid ((([] : List Int).length : Int) = (sto0 vars 50).vars → ∀ out, supportF 10 (sto0 vars 50) f = some out → ∀ u ∈ out.map (·.1), (nth ([] : List Int) u).isSome = true) := Lib.hid fun hz out ho u hu => by
    rw [support0 ho] at hu; simp at hu
  have d1 : ¬ vars < 0 := by omega
  have d2 : ¬ vars > 256 := by omega
  rw [show decide (0 ≤ f) = false from decide_eq_false (by omega), Bool.false_and] at REF
  rw [show decide (0 ≤ v) = false from decide_eq_false (by omega), Bool.false_and] at REF
  obtain ⟨⟨ra, ea, na⟩, ⟨rb, eb, nb⟩, ⟨rc, ec, nc⟩, ⟨rd, ed, nd⟩, ⟨re, ee, ne⟩, ⟨rp, ep, np⟩, ⟨rr, er, nr⟩, ⟨rv, sv, ev, nv, nv2⟩⟩ := REF
  have NA := Lib.hid na
  have NB := Lib.hid nb
  have NC := Lib.hid nc
  have ND := Lib.hid nd
  have NE := Lib.hid ne
  have NR := Lib.hid nr
  have EA := Lib.hid ea
  have EB := Lib.hid eb
  have EC := Lib.hid ec
  have ED := Lib.hid ed
  have EE := Lib.hid ee
  have EP := Lib.hid ep
  have ER := Lib.hid er
  have EV := Lib.hid ev
  clear na nb nc nd ne nr ea eb ec ed ee ep er ev
  go_enter Try.func9, Try.ntmps9
  go_wp2_with fail
  refine HN.out.mono ?_
  rintro e w1 ⟨own, p, rfl, hS, hnew, hF⟩
  have HAW := Lib.hid (awake_calls w1)
  have HM1 : Hid (Moves (fun _ => False) w own w1) := Lib.hid ⟨hF, fun b hb => .inr (hnew b hb)⟩
  have HS := Lib.hid hS
  clear hS hnew hF HN
  go_wp2_with fail
  refine HAW.out.mono ?_
  rintro e w2 ⟨rfl, hf2⟩
  have HS2 := Lib.hid ((HS.out.frm hf2 fun _ _ => id).alloc (.cells #[.bool false] 4))
  have HM2 := Lib.hid ((HM1.out.trans (.of_frm (hf2.mono fun _ _ h => h.elim) fun _ h => .inl h)).trans (.of_frm ((Frm.refl _ _).alloc (.cells #[.bool false] 4)) fun _ h => .inl h))
  have HB2 := Lib.hid (blk_new (w := w2) (.cells #[.bool false] 4))
  have HO2 : Hid (¬ own w2.heap.size) := Lib.hid fun ho => by have := (HS.out.frm hf2 fun _ _ => id).ownlt _ ho; omega
  clear hf2 HAW
  go_wp2_with fail
  refine (Not_calls HS2.out 10 f _ _ EA.out).mono ?_
  rintro e w3 ⟨rfl, own3, hS3, hM3⟩
  obtain ⟨hB3, hO3⟩ := hM3.keep HB2.out HO2.out
  have HS3 := Lib.hid (hS3.alloc (.cells #[.int .i64 v] 3))
  have HSS := Lib.hid hS3
  have HM3 := Lib.hid ((HM2.out.trans hM3).trans (.of_frm ((Frm.refl _ _).alloc (.cells #[.int .i64 v] 3)) fun _ h => .inl h))
  have HB3 := Lib.hid (blk_alloc hB3 (.cells #[.int .i64 v] 3))
  have HO3 := Lib.hid hO3
  clear hS3 hM3 hB3 hO3
  go_wp2_with fail
  refine (Exists_calls HS3.out 10 f (.slice (some ⟨w3.heap.size, 0, none⟩) 1 1) [v] (sees_of_blk (blk_new _) rfl rfl (by decide)) (fun g hg _ ho => by obtain ⟨o9, n9, c9, e9⟩ := hg; cases e9; have := HSS.out.ownlt _ ho; omega) _ _ EB.out).mono ?_
  rintro e w4 ⟨rfl, own4, hS4, hM4⟩
  obtain ⟨hB4, hO4⟩ := hM4.keep HB3.out HO3.out
  have HS4 := Lib.hid hS4
  have HM4 := Lib.hid (HM3.out.trans hM4)
  have HB4 := Lib.hid hB4
  have HO4 := Lib.hid hO4
  clear hS4 hM4 hB4 hO4
  go_wp2_with fail
  refine (Count_calls HS4.out 10 f _ EC.out).mono ?_
  rintro e w5 ⟨rfl, hf⟩
  have HS5 := Lib.hid (HS4.out.frm hf fun _ _ => id)
  have HM5 := Lib.hid (HM4.out.trans (.of_frm (hf.mono fun _ _ h => h.elim) fun _ h => .inl h))
  have HB5 := Lib.hid (blk_frm HB4.out hf id)
  clear hf
  go_wp2_with fail
  refine (Size_calls HS5.out 10 f _ ED.out).mono ?_
  rintro e w6 ⟨rfl, hf⟩
  have HS6 := Lib.hid (HS5.out.frm hf fun _ _ => id)
  have HM6 := Lib.hid (HM5.out.trans (.of_frm (hf.mono fun _ _ h => h.elim) fun _ h => .inl h))
  have HB6 := Lib.hid (blk_frm HB5.out hf id)
  clear hf
  go_wp2_with fail
  refine (Eval_calls HS6.out 10 f (.slice none 0 0) [] (.inl ⟨rfl, rfl⟩) _ EE.out).mono ?_
  rintro e w7 ⟨rfl, hf⟩
  have HS7 := Lib.hid (HS6.out.frm hf fun _ _ => id)
  have HM7 := Lib.hid (HM6.out.trans (.of_frm (hf.mono fun _ _ h => h.elim) fun _ h => .inl h))
  have HB7 := Lib.hid (blk_frm HB6.out hf id)
  clear hf
  go_wp2_with fail
  refine (Pick_calls HS7.out HVB.out.1 HVB.out.2 10 f _ EP.out).mono ?_
  rintro e w8 ⟨vp, rfl, _, _, hf⟩
  have HS8 := Lib.hid (HS7.out.frm hf fun _ _ => id)
  have HM8 := Lib.hid (HM7.out.trans (.of_frm (hf.mono fun _ _ h => h.elim) fun _ h => .inl h))
  have HB8 := Lib.hid (blk_frm HB7.out hf id)
  clear hf
  go_wp2_with fail
  refine (Rename_calls HS8.out 10 f (.slice none 0 0) [] (.inl ⟨rfl, rfl⟩) (fun g hg => by obtain ⟨o9, n9, c9, e9⟩ := hg; cases e9) HKY.out _ _ ER.out).mono ?_
  rintro e w9 ⟨rfl, own9, hS9, hM9⟩
  obtain ⟨hB9, hO9⟩ := hM9.keep HB8.out HO4.out
  have HS9 := Lib.hid hS9
  have HM9 := Lib.hid (HM8.out.trans hM9)
  have HB9 := Lib.hid hB9
  have HO9 := Lib.hid hO9
  have HV := Lib.hid (var_calls hS9 v)
  rw [EV.out] at HV
  clear hS9 hM9 hB9 hO9
  go_wp2_with fail
  refine HV.out.mono ?_
  rintro e w10 ⟨rfl, own10, hS10, hM10⟩
  obtain ⟨hB10, _⟩ := hM10.keep HB9.out HO9.out
  have HB10 := Lib.hid hB10
  have HM10 := Lib.hid (HM9.out.trans hM10)
  clear hS10 hM10 hB10
  go_wp2_with fail
  refine (node_calls _ true false w2.heap.size w10 HB10.out NA.out).mono ?_
  rintro e w' ⟨rfl, rfl⟩
  go_wp2_with fail
  refine (node_calls _ false false w2.heap.size w10 HB10.out NB.out).mono ?_
  rintro e w' ⟨rfl, rfl⟩
  go_wp2_with fail
  refine (node_calls _ true false w2.heap.size w10 HB10.out NC.out).mono ?_
  rintro e w' ⟨rfl, rfl⟩
  go_wp2_with fail
  refine (node_calls _ true false w2.heap.size w10 HB10.out ND.out).mono ?_
  rintro e w' ⟨rfl, rfl⟩
  go_wp2_with fail
  refine (node_calls _ _ false w2.heap.size w10 HB10.out NE.out).mono ?_
  rintro e w' ⟨rfl, rfl⟩
  go_wp2_with fail
  refine (node_calls _ _ false w2.heap.size w10 HB10.out NR.out).mono ?_
  rintro e w' ⟨rfl, rfl⟩
  go_wp2
  go_ret
  exact ⟨rfl, HM10.out.1.below⟩

set_option maxRecDepth 100000 in
set_option maxHeartbeats 4000000 in
theorem refuses_ab (vars f v : Int) (h0 : 0 ≤ vars) (h1 : vars ≤ 256) (hf : f < 0) (hvv : 0 ≤ v ∧ v < vars) (w : World) : Calls Try.prog 9 #[.int .i64 vars, .int .i64 f, .int .i64 v] w fun e w' => e = .returned (.bool true) ∧ Below w.heap.size w w' := by
  have HN := Lib.hid (New_ok w vars 50 h0 h1 (by omega) (by omega))
  have REF := refuses_res h0 f v
  have HVB := Lib.hid (show 0 ≤ (sto0 vars 50).vars ∧ (sto0 vars 50).vars ≤ 256 from ⟨h0, h1⟩)
  have HKY : Hid ((([] : List Int).length : Int) = (sto0 vars 50).vars → ∀ out, supportF 10 (sto0 vars 50) f = some out → ∀ u ∈ out.map (·.1), (nth ([] : List Int) u).isSome = true) := Lib.hid fun hz out ho u hu => by
    rw [support0 ho] at hu; simp at hu
  have d1 : ¬ vars < 0 := by omega
  have d2 : ¬ vars > 256 := by omega
  rw [show decide (0 ≤ f) = false from decide_eq_false (by omega), Bool.false_and] at REF
  obtain ⟨hv0, hv1⟩ := hvv
  rw [show decide (0 ≤ v) = true from decide_eq_true (by omega), show decide (v < vars) = true from decide_eq_true (by omega), Bool.true_and] at REF
  obtain ⟨⟨ra, ea, na⟩, ⟨rb, eb, nb⟩, ⟨rc, ec, nc⟩, ⟨rd, ed, nd⟩, ⟨re, ee, ne⟩, ⟨rp, ep, np⟩, ⟨rr, er, nr⟩, ⟨rv, sv, ev, nv, nv2⟩⟩ := REF
  have NA := Lib.hid na
  have NB := Lib.hid nb
  have NC := Lib.hid nc
  have ND := Lib.hid nd
  have NE := Lib.hid ne
  have NR := Lib.hid nr
  have EA := Lib.hid ea
  have EB := Lib.hid eb
  have EC := Lib.hid ec
  have ED := Lib.hid ed
  have EE := Lib.hid ee
  have EP := Lib.hid ep
  have ER := Lib.hid er
  have EV := Lib.hid ev
  clear na nb nc nd ne nr ea eb ec ed ee ep er ev
  go_enter Try.func9, Try.ntmps9
  go_wp2_with fail
  refine HN.out.mono ?_
  rintro e w1 ⟨own, p, rfl, hS, hnew, hF⟩
  have HAW := Lib.hid (awake_calls w1)
  have HM1 : Hid (Moves (fun _ => False) w own w1) := Lib.hid ⟨hF, fun b hb => .inr (hnew b hb)⟩
  have HS := Lib.hid hS
  clear hS hnew hF HN
  go_wp2_with fail
  refine HAW.out.mono ?_
  rintro e w2 ⟨rfl, hf2⟩
  have HS2 := Lib.hid ((HS.out.frm hf2 fun _ _ => id).alloc (.cells #[.bool false] 4))
  have HM2 := Lib.hid ((HM1.out.trans (.of_frm (hf2.mono fun _ _ h => h.elim) fun _ h => .inl h)).trans (.of_frm ((Frm.refl _ _).alloc (.cells #[.bool false] 4)) fun _ h => .inl h))
  have HB2 := Lib.hid (blk_new (w := w2) (.cells #[.bool false] 4))
  have HO2 : Hid (¬ own w2.heap.size) := Lib.hid fun ho => by have := (HS.out.frm hf2 fun _ _ => id).ownlt _ ho; omega
  clear hf2 HAW
  go_wp2_with fail
  refine (Not_calls HS2.out 10 f _ _ EA.out).mono ?_
  rintro e w3 ⟨rfl, own3, hS3, hM3⟩
  obtain ⟨hB3, hO3⟩ := hM3.keep HB2.out HO2.out
  have HS3 := Lib.hid (hS3.alloc (.cells #[.int .i64 v] 3))
  have HSS := Lib.hid hS3
  have HM3 := Lib.hid ((HM2.out.trans hM3).trans (.of_frm ((Frm.refl _ _).alloc (.cells #[.int .i64 v] 3)) fun _ h => .inl h))
  have HB3 := Lib.hid (blk_alloc hB3 (.cells #[.int .i64 v] 3))
  have HO3 := Lib.hid hO3
  clear hS3 hM3 hB3 hO3
  go_wp2_with fail
  refine (Exists_calls HS3.out 10 f (.slice (some ⟨w3.heap.size, 0, none⟩) 1 1) [v] (sees_of_blk (blk_new _) rfl rfl (by decide)) (fun g hg _ ho => by obtain ⟨o9, n9, c9, e9⟩ := hg; cases e9; have := HSS.out.ownlt _ ho; omega) _ _ EB.out).mono ?_
  rintro e w4 ⟨rfl, own4, hS4, hM4⟩
  obtain ⟨hB4, hO4⟩ := hM4.keep HB3.out HO3.out
  have HS4 := Lib.hid hS4
  have HM4 := Lib.hid (HM3.out.trans hM4)
  have HB4 := Lib.hid hB4
  have HO4 := Lib.hid hO4
  clear hS4 hM4 hB4 hO4
  go_wp2_with fail
  refine (Count_calls HS4.out 10 f _ EC.out).mono ?_
  rintro e w5 ⟨rfl, hf⟩
  have HS5 := Lib.hid (HS4.out.frm hf fun _ _ => id)
  have HM5 := Lib.hid (HM4.out.trans (.of_frm (hf.mono fun _ _ h => h.elim) fun _ h => .inl h))
  have HB5 := Lib.hid (blk_frm HB4.out hf id)
  clear hf
  go_wp2_with fail
  refine (Size_calls HS5.out 10 f _ ED.out).mono ?_
  rintro e w6 ⟨rfl, hf⟩
  have HS6 := Lib.hid (HS5.out.frm hf fun _ _ => id)
  have HM6 := Lib.hid (HM5.out.trans (.of_frm (hf.mono fun _ _ h => h.elim) fun _ h => .inl h))
  have HB6 := Lib.hid (blk_frm HB5.out hf id)
  clear hf
  go_wp2_with fail
  refine (Eval_calls HS6.out 10 f (.slice none 0 0) [] (.inl ⟨rfl, rfl⟩) _ EE.out).mono ?_
  rintro e w7 ⟨rfl, hf⟩
  have HS7 := Lib.hid (HS6.out.frm hf fun _ _ => id)
  have HM7 := Lib.hid (HM6.out.trans (.of_frm (hf.mono fun _ _ h => h.elim) fun _ h => .inl h))
  have HB7 := Lib.hid (blk_frm HB6.out hf id)
  clear hf
  go_wp2_with fail
  refine (Pick_calls HS7.out HVB.out.1 HVB.out.2 10 f _ EP.out).mono ?_
  rintro e w8 ⟨vp, rfl, _, _, hf⟩
  have HS8 := Lib.hid (HS7.out.frm hf fun _ _ => id)
  have HM8 := Lib.hid (HM7.out.trans (.of_frm (hf.mono fun _ _ h => h.elim) fun _ h => .inl h))
  have HB8 := Lib.hid (blk_frm HB7.out hf id)
  clear hf
  go_wp2_with fail
  refine (Rename_calls HS8.out 10 f (.slice none 0 0) [] (.inl ⟨rfl, rfl⟩) (fun g hg => by obtain ⟨o9, n9, c9, e9⟩ := hg; cases e9) HKY.out _ _ ER.out).mono ?_
  rintro e w9 ⟨rfl, own9, hS9, hM9⟩
  obtain ⟨hB9, hO9⟩ := hM9.keep HB8.out HO4.out
  have HS9 := Lib.hid hS9
  have HM9 := Lib.hid (HM8.out.trans hM9)
  have HB9 := Lib.hid hB9
  have HO9 := Lib.hid hO9
  have HV := Lib.hid (var_calls hS9 v)
  rw [EV.out] at HV
  clear hS9 hM9 hB9 hO9
  go_wp2_with fail
  refine HV.out.mono ?_
  rintro e w10 ⟨rfl, own10, hS10, hM10⟩
  obtain ⟨hB10, _⟩ := hM10.keep HB9.out HO9.out
  have HB10 := Lib.hid hB10
  have HM10 := Lib.hid (HM9.out.trans hM10)
  clear hS10 hM10 hB10
  go_wp2_with fail
  refine (node_calls _ true false w2.heap.size w10 HB10.out NA.out).mono ?_
  rintro e w' ⟨rfl, rfl⟩
  go_wp2_with fail
  refine (node_calls _ true false w2.heap.size w10 HB10.out NB.out).mono ?_
  rintro e w' ⟨rfl, rfl⟩
  go_wp2_with fail
  refine (node_calls _ true false w2.heap.size w10 HB10.out NC.out).mono ?_
  rintro e w' ⟨rfl, rfl⟩
  go_wp2_with fail
  refine (node_calls _ true false w2.heap.size w10 HB10.out ND.out).mono ?_
  rintro e w' ⟨rfl, rfl⟩
  go_wp2_with fail
  refine (node_calls _ _ false w2.heap.size w10 HB10.out NE.out).mono ?_
  rintro e w' ⟨rfl, rfl⟩
  go_wp2_with fail
  refine (node_calls _ _ false w2.heap.size w10 HB10.out NR.out).mono ?_
  rintro e w' ⟨rfl, rfl⟩
  go_wp2
  go_ret
  exact ⟨rfl, HM10.out.1.below⟩

set_option maxRecDepth 100000 in
set_option maxHeartbeats 4000000 in
theorem refuses_ac (vars f v : Int) (h0 : 0 ≤ vars) (h1 : vars ≤ 256) (hf : f < 0) (hvv : 0 ≤ v ∧ vars ≤ v) (w : World) : Calls Try.prog 9 #[.int .i64 vars, .int .i64 f, .int .i64 v] w fun e w' => e = .returned (.bool true) ∧ Below w.heap.size w w' := by
  have HN := Lib.hid (New_ok w vars 50 h0 h1 (by omega) (by omega))
  have REF := refuses_res h0 f v
  have HVB := Lib.hid (show 0 ≤ (sto0 vars 50).vars ∧ (sto0 vars 50).vars ≤ 256 from ⟨h0, h1⟩)
  have HKY : Hid ((([] : List Int).length : Int) = (sto0 vars 50).vars → ∀ out, supportF 10 (sto0 vars 50) f = some out → ∀ u ∈ out.map (·.1), (nth ([] : List Int) u).isSome = true) := Lib.hid fun hz out ho u hu => by
    rw [support0 ho] at hu; simp at hu
  have d1 : ¬ vars < 0 := by omega
  have d2 : ¬ vars > 256 := by omega
  rw [show decide (0 ≤ f) = false from decide_eq_false (by omega), Bool.false_and] at REF
  obtain ⟨hv0, hv1⟩ := hvv
  have hvd : decide (v < vars) = false := decide_eq_false (by omega)
  rw [show decide (0 ≤ v) = true from decide_eq_true (by omega), show decide (v < vars) = false from decide_eq_false (by omega), Bool.true_and] at REF
  obtain ⟨⟨ra, ea, na⟩, ⟨rb, eb, nb⟩, ⟨rc, ec, nc⟩, ⟨rd, ed, nd⟩, ⟨re, ee, ne⟩, ⟨rp, ep, np⟩, ⟨rr, er, nr⟩, ⟨rv, sv, ev, nv, nv2⟩⟩ := REF
  have NA := Lib.hid na
  have NB := Lib.hid nb
  have NC := Lib.hid nc
  have ND := Lib.hid nd
  have NE := Lib.hid ne
  have NR := Lib.hid nr
  have EA := Lib.hid ea
  have EB := Lib.hid eb
  have EC := Lib.hid ec
  have ED := Lib.hid ed
  have EE := Lib.hid ee
  have EP := Lib.hid ep
  have ER := Lib.hid er
  have EV := Lib.hid ev
  clear na nb nc nd ne nr ea eb ec ed ee ep er ev
  go_enter Try.func9, Try.ntmps9
  go_wp2_with fail
  refine HN.out.mono ?_
  rintro e w1 ⟨own, p, rfl, hS, hnew, hF⟩
  have HAW := Lib.hid (awake_calls w1)
  have HM1 : Hid (Moves (fun _ => False) w own w1) := Lib.hid ⟨hF, fun b hb => .inr (hnew b hb)⟩
  have HS := Lib.hid hS
  clear hS hnew hF HN
  go_wp2_with fail
  refine HAW.out.mono ?_
  rintro e w2 ⟨rfl, hf2⟩
  have HS2 := Lib.hid ((HS.out.frm hf2 fun _ _ => id).alloc (.cells #[.bool false] 4))
  have HM2 := Lib.hid ((HM1.out.trans (.of_frm (hf2.mono fun _ _ h => h.elim) fun _ h => .inl h)).trans (.of_frm ((Frm.refl _ _).alloc (.cells #[.bool false] 4)) fun _ h => .inl h))
  have HB2 := Lib.hid (blk_new (w := w2) (.cells #[.bool false] 4))
  have HO2 : Hid (¬ own w2.heap.size) := Lib.hid fun ho => by have := (HS.out.frm hf2 fun _ _ => id).ownlt _ ho; omega
  clear hf2 HAW
  go_wp2_with fail
  refine (Not_calls HS2.out 10 f _ _ EA.out).mono ?_
  rintro e w3 ⟨rfl, own3, hS3, hM3⟩
  obtain ⟨hB3, hO3⟩ := hM3.keep HB2.out HO2.out
  have HS3 := Lib.hid (hS3.alloc (.cells #[.int .i64 v] 3))
  have HSS := Lib.hid hS3
  have HM3 := Lib.hid ((HM2.out.trans hM3).trans (.of_frm ((Frm.refl _ _).alloc (.cells #[.int .i64 v] 3)) fun _ h => .inl h))
  have HB3 := Lib.hid (blk_alloc hB3 (.cells #[.int .i64 v] 3))
  have HO3 := Lib.hid hO3
  clear hS3 hM3 hB3 hO3
  go_wp2_with fail
  refine (Exists_calls HS3.out 10 f (.slice (some ⟨w3.heap.size, 0, none⟩) 1 1) [v] (sees_of_blk (blk_new _) rfl rfl (by decide)) (fun g hg _ ho => by obtain ⟨o9, n9, c9, e9⟩ := hg; cases e9; have := HSS.out.ownlt _ ho; omega) _ _ EB.out).mono ?_
  rintro e w4 ⟨rfl, own4, hS4, hM4⟩
  obtain ⟨hB4, hO4⟩ := hM4.keep HB3.out HO3.out
  have HS4 := Lib.hid hS4
  have HM4 := Lib.hid (HM3.out.trans hM4)
  have HB4 := Lib.hid hB4
  have HO4 := Lib.hid hO4
  clear hS4 hM4 hB4 hO4
  go_wp2_with fail
  refine (Count_calls HS4.out 10 f _ EC.out).mono ?_
  rintro e w5 ⟨rfl, hf⟩
  have HS5 := Lib.hid (HS4.out.frm hf fun _ _ => id)
  have HM5 := Lib.hid (HM4.out.trans (.of_frm (hf.mono fun _ _ h => h.elim) fun _ h => .inl h))
  have HB5 := Lib.hid (blk_frm HB4.out hf id)
  clear hf
  go_wp2_with fail
  refine (Size_calls HS5.out 10 f _ ED.out).mono ?_
  rintro e w6 ⟨rfl, hf⟩
  have HS6 := Lib.hid (HS5.out.frm hf fun _ _ => id)
  have HM6 := Lib.hid (HM5.out.trans (.of_frm (hf.mono fun _ _ h => h.elim) fun _ h => .inl h))
  have HB6 := Lib.hid (blk_frm HB5.out hf id)
  clear hf
  go_wp2_with fail
  refine (Eval_calls HS6.out 10 f (.slice none 0 0) [] (.inl ⟨rfl, rfl⟩) _ EE.out).mono ?_
  rintro e w7 ⟨rfl, hf⟩
  have HS7 := Lib.hid (HS6.out.frm hf fun _ _ => id)
  have HM7 := Lib.hid (HM6.out.trans (.of_frm (hf.mono fun _ _ h => h.elim) fun _ h => .inl h))
  have HB7 := Lib.hid (blk_frm HB6.out hf id)
  clear hf
  go_wp2_with fail
  refine (Pick_calls HS7.out HVB.out.1 HVB.out.2 10 f _ EP.out).mono ?_
  rintro e w8 ⟨vp, rfl, _, _, hf⟩
  have HS8 := Lib.hid (HS7.out.frm hf fun _ _ => id)
  have HM8 := Lib.hid (HM7.out.trans (.of_frm (hf.mono fun _ _ h => h.elim) fun _ h => .inl h))
  have HB8 := Lib.hid (blk_frm HB7.out hf id)
  clear hf
  go_wp2_with fail
  refine (Rename_calls HS8.out 10 f (.slice none 0 0) [] (.inl ⟨rfl, rfl⟩) (fun g hg => by obtain ⟨o9, n9, c9, e9⟩ := hg; cases e9) HKY.out _ _ ER.out).mono ?_
  rintro e w9 ⟨rfl, own9, hS9, hM9⟩
  obtain ⟨hB9, hO9⟩ := hM9.keep HB8.out HO4.out
  have HS9 := Lib.hid hS9
  have HM9 := Lib.hid (HM8.out.trans hM9)
  have HB9 := Lib.hid hB9
  have HO9 := Lib.hid hO9
  have HV := Lib.hid (var_calls hS9 v)
  rw [EV.out] at HV
  clear hS9 hM9 hB9 hO9
  go_wp2_with fail
  refine HV.out.mono ?_
  rintro e w10 ⟨rfl, own10, hS10, hM10⟩
  obtain ⟨hB10, _⟩ := hM10.keep HB9.out HO9.out
  have HB10 := Lib.hid hB10
  have HM10 := Lib.hid (HM9.out.trans hM10)
  clear hS10 hM10 hB10
  go_wp2_with fail
  refine (node_calls _ true false w2.heap.size w10 HB10.out NA.out).mono ?_
  rintro e w' ⟨rfl, rfl⟩
  go_wp2_with fail
  refine (node_calls _ false false w2.heap.size w10 HB10.out NB.out).mono ?_
  rintro e w' ⟨rfl, rfl⟩
  go_wp2_with fail
  refine (node_calls _ true false w2.heap.size w10 HB10.out NC.out).mono ?_
  rintro e w' ⟨rfl, rfl⟩
  go_wp2_with fail
  refine (node_calls _ true false w2.heap.size w10 HB10.out ND.out).mono ?_
  rintro e w' ⟨rfl, rfl⟩
  go_wp2_with fail
  refine (node_calls _ _ false w2.heap.size w10 HB10.out NE.out).mono ?_
  rintro e w' ⟨rfl, rfl⟩
  go_wp2_with fail
  refine (node_calls _ _ false w2.heap.size w10 HB10.out NR.out).mono ?_
  rintro e w' ⟨rfl, rfl⟩
  go_wp2
  go_ret
  exact ⟨rfl, HM10.out.1.below⟩
end LawW
end Go.Proofs.Ytjajpdmmoiiojaa
