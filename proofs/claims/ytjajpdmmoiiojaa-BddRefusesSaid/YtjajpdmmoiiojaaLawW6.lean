/- The law's own functions, walked: awake. -/
import Derived.Test.YtjajpdmmoiiojaaLawW4
import Derived.Test.YtjajpdmmoiiojaaBddW11
namespace Go.Proofs.Ytjajpdmmoiiojaa
open Go.RowKit Go.Mem Go.Bdd
namespace LawW
open TabW BddW

def A0 : Sto := newSto 2 100
def A1 : Sto := (varF A0 0).2
def A2 : Sto := (varF A1 1).2
def A3 : Sto := ((IteF 10 A2 2 3 0).getD ((0, 0), A2)).2
def A4 : Sto := ((IteF 10 A3 2 1 3).getD ((0, 0), A3)).2
def A5 : Sto := ((existsF 10 A4 4 [0]).getD ((0, 0), A4)).2
theorem A1_eq : varF A0 0 = ((2, 0), A1) := by kernel_rfl
theorem A2_eq : varF A1 1 = ((3, 0), A2) := by kernel_rfl
theorem A3_eq : IteF 10 A2 2 3 0 = some ((4, 0), A3) := by kernel_rfl
theorem A4_eq : IteF 10 A3 2 1 3 = some ((5, 0), A4) := by kernel_rfl
theorem A4_count : countF 10 A4 5 = some (3, 0) := by kernel_rfl
theorem A4_pick : pickF 10 A4 5 = some ([false, true], 0) := by kernel_rfl
theorem A5_eq : existsF 10 A4 4 [0] = some ((3, 0), A5) := by kernel_rfl
theorem A5_nodes : A5.l.length = 6 := by kernel_rfl
theorem A5_works : decide (0 < A5.works) = true := by kernel_rfl
theorem A4_vars : A4.vars = 2 := by kernel_rfl

set_option maxRecDepth 100000 in
set_option maxHeartbeats 2000000 in
theorem awake_calls (w : World) : Calls Try.prog 11 #[] w fun e w' => e = .returned (.bool true) ∧ Frm (fun _ => False) w w' := by
  have HN := Lib.hid (New_ok w 2 100 (by omega) (by omega) (by omega) (by omega))
  go_enter Try.func11, Try.ntmps11
  go_wp2_with fail
  refine HN.out.mono ?_
  rintro e w1 ⟨own, p, rfl, hS, hnew, hF⟩
  have HV := Lib.hid (show Calls _ _ _ _ _ from var_calls (s := A0) hS 0)
  rw [A1_eq] at HV
  have HNW := Lib.hid hnew
  have HF1 := Lib.hid hF
  clear hS hnew hF
  go_wp2_with fail
  refine HV.out.mono ?_
  rintro e w2 ⟨rfl, own2, hS2, hM2⟩
  have HV2 := Lib.hid (var_calls hS2 1)
  rw [A2_eq] at HV2
  have HM2 := Lib.hid hM2
  clear hS2 hM2
  go_wp2_with fail
  refine HV2.out.mono ?_
  rintro e w3 ⟨rfl, own3, hS3, hM3⟩
  have HV3 := Lib.hid (And_calls hS3 10 2 3 _ _ A3_eq)
  have HM3 := Lib.hid (HM2.out.trans hM3)
  clear hS3 hM3
  go_wp2_with fail
  refine HV3.out.mono ?_
  rintro e w4 ⟨rfl, own4, hS4, hM4⟩
  have HV4 := Lib.hid (Or_calls hS4 10 2 3 _ _ A4_eq)
  have HM4 := Lib.hid (HM3.out.trans hM4)
  clear hS4 hM4
  go_wp2_with fail
  refine HV4.out.mono ?_
  rintro e w5 ⟨rfl, own5, hS5, hM5⟩
  have HC := Lib.hid (Count_calls hS5 10 5 _ A4_count)
  have HS5 := Lib.hid hS5
  have HM5 := Lib.hid (HM4.out.trans hM5)
  clear hS5 hM5
  go_wp2_with fail
  refine HC.out.mono ?_
  rintro e w6 ⟨rfl, hf6⟩
  have HS6 := Lib.hid (HS5.out.frm hf6 fun _ _ => id)
  have HM6 := Lib.hid (HM5.out.trans (.of_frm (hf6.mono fun _ _ h => h.elim) fun _ h => .inl h))
  have HP := Lib.hid (Pick_calls HS6.out (by rw [A4_vars]; omega) (by rw [A4_vars]; omega) 10 5 _ A4_pick)
  clear hf6
  go_wp2_with fail
  refine HP.out.mono ?_
  rintro e w7 ⟨vp, rfl, hrp, hop, hf7⟩
  obtain ⟨Bp, dp, rfl, _⟩ := sees_slice hrp.sees
  have HS7 := Lib.hid (HS6.out.frm hf7 fun _ _ => id)
  have HM7 := Lib.hid (HM6.out.trans (.of_frm (hf7.mono fun _ _ h => h.elim) fun _ h => .inl h))
  have HRP := Lib.hid hrp
  have HOP := Lib.hid hop
  have HSZ6 := Lib.hid HS6.out.ownlt
  have HSZ7 := Lib.hid hf7.size
  have HX := Lib.hid (Exists_calls (HS7.out.alloc (.cells #[.int .i64 0] 3)) 10 4 (.slice (some ⟨w7.heap.size, 0, none⟩) 1 1) [0] (sees_of_blk (blk_new _) rfl rfl (by decide)) (fun g hg _ ho => by
    obtain ⟨o', n', c', e'⟩ := hg
    cases e'
    have := HS7.out.ownlt _ ho
    omega) _ _ A5_eq)
  clear hrp hop hf7
  go_wp2_with fail
  refine HX.out.mono ?_
  rintro e w8 ⟨rfl, own8, hS8, hM8⟩
  have HS8 := Lib.hid hS8
  have HM8 := Lib.hid ((HM7.out.trans (.of_frm ((Frm.refl _ _).alloc _) fun _ h => .inl h)).trans hM8)
  have HRP8 := Lib.hid (((HRP.out.frm0 ((Frm.refl _ _).alloc (.cells #[.int .i64 0] 3)))).frm hM8.1 fun g hg ho => by have := HOP.out g hg; have := HSZ6.out g ho; omega)
  clear hS8 hM8
  have HSM := Lib.hid (Same_calls _ _ _ [false, true] (w8.alloc (.cells #[.bool false, .bool true] 4)) (HRP8.out.frm0 ((Frm.refl _ _).alloc _)).sees (sees_of_blk (enc := Value.bool) (n := 2) (blk_new _) rfl rfl (by decide)))
  go_wp2_with fail
  refine HSM.out.mono ?_
  rintro e w9 ⟨rfl, hf9⟩
  have HS9 := Lib.hid ((HS8.out.alloc (.cells #[.bool false, .bool true] 4)).frm hf9 fun _ _ => id)
  have HM9 := Lib.hid ((HM8.out.trans (.of_frm ((Frm.refl _ _).alloc (.cells #[.bool false, .bool true] 4)) fun _ h => .inl h)).trans (.of_frm (hf9.mono fun _ _ h => h.elim) fun _ h => .inl h))
  have HND := Lib.hid (Nodes_calls HS9.out)
  rw [A5_nodes] at HND
  have HWK := Lib.hid (Works_calls HS9.out)
  clear hf9
  go_wp2_with fail
  refine HND.out.mono ?_
  rintro e w' ⟨rfl, rfl⟩
  go_wp2_with fail
  refine HWK.out.mono ?_
  rintro e w' ⟨rfl, rfl⟩
  have hw := A5_works
  generalize A5.works = wk at *
  have hw' : 0 < wk := by simpa using hw
  have hw2 : decide (wk > 0) = true := by simpa using hw'
  clear hw
  go_wp2
  go_ret
  exact ⟨by simp [hw2], HF1.out.trans HM9.out.1 fun x hx h => by have := HNW.out x h; omega⟩
end LawW
end Go.Proofs.Ytjajpdmmoiiojaa
