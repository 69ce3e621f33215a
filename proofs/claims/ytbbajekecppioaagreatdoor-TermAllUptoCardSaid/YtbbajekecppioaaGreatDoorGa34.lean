/- The document's type of a tree, walked: what its kids' types come to, by their number. -/
import Derived.Test.YtbbajekecppioaaGreatDoorGa33
set_option linter.unusedSimpArgs false
set_option linter.unusedVariables false
namespace Go.Proofs.YtbbajekecppioaaGreatDoor
open Go.RowKit Go.Mem Go.Wd Go.Tp
namespace RfW
open TmW (frm_alloc frm_then Box wrap_nat64 frm_cellD frm_cell negE eqS countX countL typeX kindsX typeK evalX evalL evalK lastX noTy vtype is64 sNum sVar sCast sIte sUNot sUNeg sUTil sLand sLor)
theorem ret_ok {t : Ty} {p q : Bool} (h : p = q) : Ending.returned (.tuple #[.agg #[.int .i64 t.1, .bool t.2], .bool p]) = .returned (.tuple #[.agg #[.int .i64 t.1, .bool t.2], .bool q]) := by rw [h]
set_option maxRecDepth 100000 in
set_option maxHeartbeats 2000000 in
theorem type_cast2 {lim : Nat} (w : World) (op : ByteArray) (t : Ty) (num : Nat) (v : Int) (gl : Bool) (ln cl : Int) (A : Option Addr) (c : Nat) (kids : List Tree) (vv : Value) (vs : List Ty) (a b : Ty) (h : Upto w lim vv vs A kids kids.length [a, b]) (n1 : op ≠ sNum) (n2 : op ≠ sVar) (ho : op = sCast) :
  Calls Tryz.prog 10 #[.agg #[.string op, .int .i64 t.1, .bool t.2, .int .u64 num, .int .i64 v, .bool gl, .int .i64 ln, .int .i64 cl, .slice A kids.length c], vv] w (TyPost w (t, false)) := by
 have d1 : (op.toList == [110, 117, 109]) = false := by rw [eqS]; exact decide_eq_false n1
 have d2 : (op.toList == [118, 97, 114]) = false := by rw [eqS]; exact decide_eq_false n2
 obtain ⟨i0, hi, hz0, hz1, hz2⟩ := info_parts info_ty
 have HU := Lib.hid h
 obtain ⟨ks, hks⟩ : ∃ ks, ks = [a, b] := ⟨_, rfl⟩
 rw [← hks] at HU
 have HK := Lib.hid hks
 have d3 : (op.toList == [99, 97, 115, 116]) = true := by rw [eqS]; exact decide_eq_true ho
 clear ho
 clear h n1 n2 hks
 go_enter Tryz.func10, Tryz.ntmps10
 go_wp2_with fail
 have H1 := Lib.hid (Bx.new w (.cells #[.string op, .int .i64 t.1, .bool t.2, .int .u64 num, .int .i64 v, .bool gl, .int .i64 ln, .int .i64 cl, .slice A kids.length c] 27))
 obtain ⟨w1, hw1⟩ : ∃ w1, w1 = ((w.alloc (.cells #[.string op, .int .i64 t.1, .bool t.2, .int .u64 num, .int .i64 v, .bool gl, .int .i64 ln, .int .i64 cl, .slice A kids.length c] 27)).alloc (.cells #[.int .i64 0, .bool false] 23)).alloc (.cells #[.int .i64 0, .bool false] 23) := ⟨_, rfl⟩
 have hsz := Lib.hid (show w1.heap.size = w.heap.size + 1 + 1 + 1 by rw [hw1]; simp)
 rw [← hw1] at H1 ⊢
 clear hw1
 have a0 : w1.cell? ⟨w.heap.size, 0, none⟩ = some (.string op) := blk_cell H1.out.box 0
 have a1 : w1.cell? ⟨w.heap.size, 1, none⟩ = some (.int .i64 t.1) := blk_cell H1.out.box 1
 have a2 : w1.cell? ⟨w.heap.size, 2, none⟩ = some (.bool t.2) := blk_cell H1.out.box 2
 have a4 : w1.cell? ⟨w.heap.size, 4, none⟩ = some (.int .i64 v) := blk_cell H1.out.box 4
 have a8 : w1.cell? ⟨w.heap.size, 8, none⟩ = some (.slice A kids.length c) := blk_cell H1.out.box 8
 have H2 := Lib.hid (H1.out.frm0 (frm_alloc w1 (.cells #[] 23)))
 have HR0 := Lib.hid (show SRow (w1.alloc (.cells #[] 23)) 23 encT (.slice (some ⟨w.heap.size + 1 + 1 + 1, 0, none⟩) 0 0) ([] : List Ty) from SRow.empty (blk_new_at _ hsz.out.symm))
 clear a0 a1 a2 a4 a8
 go_wp2_with fail
 go_loopw [7, 8] (fun v7 v8 w' => ∃ k : Nat, k ≤ kids.length ∧ v8 = .int .i64 k ∧ Hid (SRow w' 23 encT v7 (ks.take k)) ∧ Hid (Bx w w' (.cells #[.string op, .int .i64 t.1, .bool t.2, .int .u64 num, .int .i64 v, .bool gl, .int .i64 ln, .int .i64 cl, .slice A kids.length c] 27)) ∧ Hid (∀ g, v7.ownBlock = some g → w.heap.size + 3 ≤ g)) (fun _ v8 _ => kids.length - (intOf v8).toNat)
 case atStart => exact ⟨0, Nat.zero_le _, rfl, HR0, H2, Lib.hid fun g hg => by cases hg; exact Nat.le_refl _⟩
 case round =>
  obtain ⟨k, hk, rfl, HS, HB, HO⟩ := hrel
  have b8 : wr.cell? ⟨w.heap.size, 8, none⟩ = some (.slice A kids.length c) := blk_cell HB.out.box 8
  have hmost := HU.out.most
  by_cases hlt : k < kids.length
  ·have hle := HU.out.le
   have hltI : (k : Int) < (kids.length : Int) := by omega
   obtain ⟨x, hx⟩ : ∃ x, kids[k]? = some x := ⟨_, List.getElem?_eq_getElem (by omega)⟩
   obtain ⟨hx1, hx2⟩ := HU.out.typ k x hlt hx
   obtain ⟨g, o, rfl, hT⟩ := (HU.out.mem.frm0 HB.out.frm).get hx
   rw [Nat.zero_add] at hT
   obtain ⟨a0, a1, a2, a3, a4, a5, a6, a7, a8, hV, c0, c1, c2, c3, c4, c5, c6, c7, c8⟩ := hT.load
   have HC := Lib.hid (HU.out.call k x hx wr _ hV (HU.out.vars.frm0 HB.out.frm))
   have htk := Lib.hid (show ks.take (k + 1) = ks.take k ++ [(typeX vs x).1] by rw [List.take_add_one, hx2]; rfl)
   have hl7 := Lib.hid (show (ks.take k).length ≤ 4194304 by rw [List.length_take]; omega)
   obtain ⟨ys, hys⟩ : ∃ ys, ys = ks.take k := ⟨_, rfl⟩
   rw [← hys] at HS htk hl7
   have HY := Lib.hid hys
   clear hys
   rcases HS.out.slice with ⟨RA, RC, rfl, _⟩
   obtain ⟨u, hu⟩ : ∃ u, typeX vs x = (u, true) := ⟨(typeX vs x).1, Prod.ext rfl hx1⟩
   rw [hu] at HC htk
   clear hT hV hx hx1 hx2 hu
   go_wp2_with fail
   refine HC.out.mono ?_
   rintro e w2 ⟨rfl, hf⟩
   have HB2 := Lib.hid (HB.out.frm0 hf)
   have HS2 := Lib.hid (HS.out.frm0 hf)
   clear hf
   go_wp2_with (at_builtin; refine wpList_append_srow rfl _ _ 28 rfl 23 i0 (.agg #[.int .i64 0, .bool false]) 16 Tryz.underlying28 hi hz0 hz1 hz2 rfl (by decide) (E := encT) (.slice RA ys.length RC) ys rfl (HS2.out.frm0 ((frm_alloc w2 (.cells #[.int .i64 u.1, .bool u.2] 23)).alloc (.cells #[.int .i64 u.1, .bool u.2] 23))) ⟨w2.heap.size + 1, 0, none⟩ 1 u rfl ?c1 ?c2 ?c3 ?_)
   case c1 =>
    intro i u' hu'
    have e : (⟨w2.heap.size + 1, 0, none⟩ : Addr).add i = ⟨w2.heap.size + 1, i, none⟩ := by unfold Addr.add; split <;> simp_all
    rw [e, blk_cell (blk_new_at (w := w2.alloc (.cells #[.int .i64 u.1, .bool u.2] 23)) (n := w2.heap.size + 1) (.cells #[.int .i64 u.1, .bool u.2] 23) (by simp))]
    simpa [encT] using hu'
   case c2 => have := hl7.out; have : maxLen = 9223372036854775807 := rfl; omega
   case c3 => have := hl7.out; omega
   intro g' cap' w7 hrow hfr hg hlt7
   have HS7 := Lib.hid (show SRow w7 23 encT (.slice (some ⟨g', 0, none⟩) (ys.length + 1) cap') (ks.take (k + 1)) by rw [htk.out]; exact hrow)
   have hB3 := HB2.out.frm0 ((frm_alloc w2 (.cells #[.int .i64 u.1, .bool u.2] 23)).alloc (.cells #[.int .i64 u.1, .bool u.2] 23))
   have HB7 := Lib.hid (hB3.grow hfr fun b hb => HO.out b hb)
   have HO7 := Lib.hid (show w.heap.size + 3 ≤ g' by rcases hg with h | h; exact HO.out g' h; rw [h]; have := HB2.out.size3; simp; omega)
   clear hrow hfr hg hB3
   go_wp2
   go_roundw
   case rel => exact ⟨k + 1, by omega, by first | rfl | go_num, HS7, HB7, Lib.hid fun g'' hg'' => by cases hg''; exact HO7.out⟩
   case measure => simp [intOf]; omega
  ·obtain rfl : k = kids.length := by omega
   have hle := HU.out.le
   rw [List.take_of_length_le (Nat.le_of_eq HU.out.len)] at HS
   have hltI : ¬ (kids.length : Int) < (kids.length : Int) := by omega
   have a0 : wr.cell? ⟨w.heap.size, 0, none⟩ = some (.string op) := blk_cell HB.out.box 0
   have a1 : wr.cell? ⟨w.heap.size, 1, none⟩ = some (.int .i64 t.1) := blk_cell HB.out.box 1
   have a2 : wr.cell? ⟨w.heap.size, 2, none⟩ = some (.bool t.2) := blk_cell HB.out.box 2
   have r0 := blk_cell HB.out.res 0
   have r1 := blk_cell HB.out.res 1
   have z0 := blk_free HB.out.res 0
   have z1 := blk_free HB.out.res 1
   have q0 := blk_cell HB.out.non 0
   have q1 := blk_cell HB.out.non 1
   have hs0 : w.heap.size < wr.heap.size := by have := HB.out.size3; omega
   have hs1 : w.heap.size + 1 < wr.heap.size := by have := HB.out.size3; omega
   have hs2 : w.heap.size + 1 + 1 < wr.heap.size := by have := HB.out.size3; omega
   clear hlt hle hk
   have hSb : SRow wr 23 encT u7 [a, b] := by rw [← HK.out]; exact HS.out
   obtain ⟨RA, RC, rfl, hcell⟩ := hSb.slice
   obtain ⟨g, rfl, _, hcg⟩ := hcell 0 _ rfl
   have l0 : wr.cell? ⟨g, 0, none⟩ = some (.int .i64 a.1) := by simpa using hcg 0 _ rfl
   have l1 : wr.cell? ⟨g, 1, none⟩ = some (.bool a.2) := by simpa using hcg 1 _ rfl
   have lg : g < wr.heap.size := World.block_lt_of_cell? _ _ l0
   obtain ⟨g', e, _, hc1⟩ := hcell 1 _ rfl
   cases e
   have m1 : wr.cell? ⟨g, 2, none⟩ = some (.int .i64 b.1) := by simpa using hc1 0 _ rfl
   have p1 : wr.cell? ⟨g, 3, none⟩ = some (.bool b.2) := by simpa using hc1 1 _ rfl
   clear hc1
   clear hcg hcell hSb
   have HB9 := Lib.hid (HB.out.frm0 (frm_alloc wr (.cells #[.int .i64 b.1, .bool b.2] 23)))
   go_wp2_with fail
   obtain ⟨w9, hw9⟩ : ∃ w9, w9 = wr.alloc (.cells #[.int .i64 b.1, .bool b.2] 23) := ⟨_, rfl⟩
   have HT := Lib.hid (show w9.heap[wr.heap.size]? = some (.cells #[.int .i64 b.1, .bool b.2] 23) by rw [hw9]; exact blk_new _)
   have l0 : w9.cell? ⟨g, 0, none⟩ = some (.int .i64 a.1) := by rw [hw9]; exact frm_cell (frm_alloc _ _) l0
   have l1 : w9.cell? ⟨g, 1, none⟩ = some (.bool a.2) := by rw [hw9]; exact frm_cell (frm_alloc _ _) l1
   have m1 : w9.cell? ⟨g, 2, none⟩ = some (.int .i64 b.1) := by rw [hw9]; exact frm_cell (frm_alloc _ _) m1
   have p1 : w9.cell? ⟨g, 3, none⟩ = some (.bool b.2) := by rw [hw9]; exact frm_cell (frm_alloc _ _) p1
   rw [← hw9] at HB9 ⊢
   clear hw9 r0 r1 z0 z1 q0 q1 a0 a1 a2
   have t0 : w9.cell? ⟨wr.heap.size, 0, none⟩ = some (.int .i64 b.1) := blk_cell HT.out 0
   have t1 : w9.cell? ⟨wr.heap.size, 1, none⟩ = some (.bool b.2) := blk_cell HT.out 1
   have a0 : w9.cell? ⟨w.heap.size, 0, none⟩ = some (.string op) := blk_cell HB9.out.box 0
   have a1 : w9.cell? ⟨w.heap.size, 1, none⟩ = some (.int .i64 t.1) := blk_cell HB9.out.box 1
   have a2 : w9.cell? ⟨w.heap.size, 2, none⟩ = some (.bool t.2) := blk_cell HB9.out.box 2
   have r0 := blk_cell HB9.out.res 0
   have r1 := blk_cell HB9.out.res 1
   have z0 := blk_free HB9.out.res 0
   have z1 := blk_free HB9.out.res 1
   have q0 := blk_cell HB9.out.non 0
   have q1 := blk_cell HB9.out.non 1
   go_wp2_with fail
   refine Plan.wp_region_plan [0, 1, 0, 4, 12, 28, 60, 124, 252, 255, 1023] [.mk [0, 1, 2, 3, 4, 5, 6] 7 [0, 1], .mk [8] 9 [8]] [10] (by kernel_rfl) (by kernel_rfl) ?_
   simp only [Plan.wayOf, Plan.pickAll, List.getElem?_cons_zero, List.getElem?_cons_succ, List.getD_eq_getElem?_getD, Option.getD_some]
   refine Plan.wpWay_seg ?_
   repeat go_big_quiet_step (fail)
   refine wpQuiet_nil ?_; refine Plan.wpWay_act ?_
   go_wp2_with (fail)
   refine And.intro ?_ ?_; focus ((iterate 2 (refine Plan.again_cons ?_ ?_; focus (go_big_quiet_step (fail); exact wpQuiet_nil rfl))); exact Plan.again_nil)
   refine Plan.wpWay_seg ?_
   repeat go_big_quiet_step (fail)
   refine wpQuiet_nil ?_; refine Plan.wpWay_act ?_
   go_wp2_with (fail)
   refine And.intro ?_ ?_; focus ((iterate 1 (refine Plan.again_cons ?_ ?_; focus (go_big_quiet_step (fail); exact wpQuiet_nil rfl))); exact Plan.again_nil)
   refine Plan.wpWay_last ?_
   repeat go_big_quiet_step (fail)
   refine wpQuiet_nil ?_; refine NoPanic.normal ?_
   go_wp2
   refine bodyPost_ret (v := .tuple #[.agg #[.int .i64 t.1, .bool t.2], .bool false]) (by simp [results, Tryz.results10, go_sem, r0, r1]) rfl ⟨rfl, HB9.out.drew.fin _ _⟩
set_option maxRecDepth 100000 in
set_option maxHeartbeats 2000000 in
theorem type_cast3 {lim : Nat} (w : World) (op : ByteArray) (t : Ty) (num : Nat) (v : Int) (gl : Bool) (ln cl : Int) (A : Option Addr) (c : Nat) (kids : List Tree) (vv : Value) (vs : List Ty) (a b c1 : Ty) (h : Upto w lim vv vs A kids kids.length [a, b, c1]) (n1 : op ≠ sNum) (n2 : op ≠ sVar) (ho : op = sCast) :
  Calls Tryz.prog 10 #[.agg #[.string op, .int .i64 t.1, .bool t.2, .int .u64 num, .int .i64 v, .bool gl, .int .i64 ln, .int .i64 cl, .slice A kids.length c], vv] w (TyPost w (t, false)) := by
 have d1 : (op.toList == [110, 117, 109]) = false := by rw [eqS]; exact decide_eq_false n1
 have d2 : (op.toList == [118, 97, 114]) = false := by rw [eqS]; exact decide_eq_false n2
 obtain ⟨i0, hi, hz0, hz1, hz2⟩ := info_parts info_ty
 have HU := Lib.hid h
 obtain ⟨ks, hks⟩ : ∃ ks, ks = [a, b, c1] := ⟨_, rfl⟩
 rw [← hks] at HU
 have HK := Lib.hid hks
 have d3 : (op.toList == [99, 97, 115, 116]) = true := by rw [eqS]; exact decide_eq_true ho
 clear ho
 clear h n1 n2 hks
 go_enter Tryz.func10, Tryz.ntmps10
 go_wp2_with fail
 have H1 := Lib.hid (Bx.new w (.cells #[.string op, .int .i64 t.1, .bool t.2, .int .u64 num, .int .i64 v, .bool gl, .int .i64 ln, .int .i64 cl, .slice A kids.length c] 27))
 obtain ⟨w1, hw1⟩ : ∃ w1, w1 = ((w.alloc (.cells #[.string op, .int .i64 t.1, .bool t.2, .int .u64 num, .int .i64 v, .bool gl, .int .i64 ln, .int .i64 cl, .slice A kids.length c] 27)).alloc (.cells #[.int .i64 0, .bool false] 23)).alloc (.cells #[.int .i64 0, .bool false] 23) := ⟨_, rfl⟩
 have hsz := Lib.hid (show w1.heap.size = w.heap.size + 1 + 1 + 1 by rw [hw1]; simp)
 rw [← hw1] at H1 ⊢
 clear hw1
 have a0 : w1.cell? ⟨w.heap.size, 0, none⟩ = some (.string op) := blk_cell H1.out.box 0
 have a1 : w1.cell? ⟨w.heap.size, 1, none⟩ = some (.int .i64 t.1) := blk_cell H1.out.box 1
 have a2 : w1.cell? ⟨w.heap.size, 2, none⟩ = some (.bool t.2) := blk_cell H1.out.box 2
 have a4 : w1.cell? ⟨w.heap.size, 4, none⟩ = some (.int .i64 v) := blk_cell H1.out.box 4
 have a8 : w1.cell? ⟨w.heap.size, 8, none⟩ = some (.slice A kids.length c) := blk_cell H1.out.box 8
 have H2 := Lib.hid (H1.out.frm0 (frm_alloc w1 (.cells #[] 23)))
 have HR0 := Lib.hid (show SRow (w1.alloc (.cells #[] 23)) 23 encT (.slice (some ⟨w.heap.size + 1 + 1 + 1, 0, none⟩) 0 0) ([] : List Ty) from SRow.empty (blk_new_at _ hsz.out.symm))
 clear a0 a1 a2 a4 a8
 go_wp2_with fail
 go_loopw [7, 8] (fun v7 v8 w' => ∃ k : Nat, k ≤ kids.length ∧ v8 = .int .i64 k ∧ Hid (SRow w' 23 encT v7 (ks.take k)) ∧ Hid (Bx w w' (.cells #[.string op, .int .i64 t.1, .bool t.2, .int .u64 num, .int .i64 v, .bool gl, .int .i64 ln, .int .i64 cl, .slice A kids.length c] 27)) ∧ Hid (∀ g, v7.ownBlock = some g → w.heap.size + 3 ≤ g)) (fun _ v8 _ => kids.length - (intOf v8).toNat)
 case atStart => exact ⟨0, Nat.zero_le _, rfl, HR0, H2, Lib.hid fun g hg => by cases hg; exact Nat.le_refl _⟩
 case round =>
  obtain ⟨k, hk, rfl, HS, HB, HO⟩ := hrel
  have b8 : wr.cell? ⟨w.heap.size, 8, none⟩ = some (.slice A kids.length c) := blk_cell HB.out.box 8
  have hmost := HU.out.most
  by_cases hlt : k < kids.length
  ·have hle := HU.out.le
   have hltI : (k : Int) < (kids.length : Int) := by omega
   obtain ⟨x, hx⟩ : ∃ x, kids[k]? = some x := ⟨_, List.getElem?_eq_getElem (by omega)⟩
   obtain ⟨hx1, hx2⟩ := HU.out.typ k x hlt hx
   obtain ⟨g, o, rfl, hT⟩ := (HU.out.mem.frm0 HB.out.frm).get hx
   rw [Nat.zero_add] at hT
   obtain ⟨a0, a1, a2, a3, a4, a5, a6, a7, a8, hV, c0, c1, c2, c3, c4, c5, c6, c7, c8⟩ := hT.load
   have HC := Lib.hid (HU.out.call k x hx wr _ hV (HU.out.vars.frm0 HB.out.frm))
   have htk := Lib.hid (show ks.take (k + 1) = ks.take k ++ [(typeX vs x).1] by rw [List.take_add_one, hx2]; rfl)
   have hl7 := Lib.hid (show (ks.take k).length ≤ 4194304 by rw [List.length_take]; omega)
   obtain ⟨ys, hys⟩ : ∃ ys, ys = ks.take k := ⟨_, rfl⟩
   rw [← hys] at HS htk hl7
   have HY := Lib.hid hys
   clear hys
   rcases HS.out.slice with ⟨RA, RC, rfl, _⟩
   obtain ⟨u, hu⟩ : ∃ u, typeX vs x = (u, true) := ⟨(typeX vs x).1, Prod.ext rfl hx1⟩
   rw [hu] at HC htk
   clear hT hV hx hx1 hx2 hu
   go_wp2_with fail
   refine HC.out.mono ?_
   rintro e w2 ⟨rfl, hf⟩
   have HB2 := Lib.hid (HB.out.frm0 hf)
   have HS2 := Lib.hid (HS.out.frm0 hf)
   clear hf
   go_wp2_with (at_builtin; refine wpList_append_srow rfl _ _ 28 rfl 23 i0 (.agg #[.int .i64 0, .bool false]) 16 Tryz.underlying28 hi hz0 hz1 hz2 rfl (by decide) (E := encT) (.slice RA ys.length RC) ys rfl (HS2.out.frm0 ((frm_alloc w2 (.cells #[.int .i64 u.1, .bool u.2] 23)).alloc (.cells #[.int .i64 u.1, .bool u.2] 23))) ⟨w2.heap.size + 1, 0, none⟩ 1 u rfl ?c1 ?c2 ?c3 ?_)
   case c1 =>
    intro i u' hu'
    have e : (⟨w2.heap.size + 1, 0, none⟩ : Addr).add i = ⟨w2.heap.size + 1, i, none⟩ := by unfold Addr.add; split <;> simp_all
    rw [e, blk_cell (blk_new_at (w := w2.alloc (.cells #[.int .i64 u.1, .bool u.2] 23)) (n := w2.heap.size + 1) (.cells #[.int .i64 u.1, .bool u.2] 23) (by simp))]
    simpa [encT] using hu'
   case c2 => have := hl7.out; have : maxLen = 9223372036854775807 := rfl; omega
   case c3 => have := hl7.out; omega
   intro g' cap' w7 hrow hfr hg hlt7
   have HS7 := Lib.hid (show SRow w7 23 encT (.slice (some ⟨g', 0, none⟩) (ys.length + 1) cap') (ks.take (k + 1)) by rw [htk.out]; exact hrow)
   have hB3 := HB2.out.frm0 ((frm_alloc w2 (.cells #[.int .i64 u.1, .bool u.2] 23)).alloc (.cells #[.int .i64 u.1, .bool u.2] 23))
   have HB7 := Lib.hid (hB3.grow hfr fun b hb => HO.out b hb)
   have HO7 := Lib.hid (show w.heap.size + 3 ≤ g' by rcases hg with h | h; exact HO.out g' h; rw [h]; have := HB2.out.size3; simp; omega)
   clear hrow hfr hg hB3
   go_wp2
   go_roundw
   case rel => exact ⟨k + 1, by omega, by first | rfl | go_num, HS7, HB7, Lib.hid fun g'' hg'' => by cases hg''; exact HO7.out⟩
   case measure => simp [intOf]; omega
  ·obtain rfl : k = kids.length := by omega
   have hle := HU.out.le
   rw [List.take_of_length_le (Nat.le_of_eq HU.out.len)] at HS
   have hltI : ¬ (kids.length : Int) < (kids.length : Int) := by omega
   have a0 : wr.cell? ⟨w.heap.size, 0, none⟩ = some (.string op) := blk_cell HB.out.box 0
   have a1 : wr.cell? ⟨w.heap.size, 1, none⟩ = some (.int .i64 t.1) := blk_cell HB.out.box 1
   have a2 : wr.cell? ⟨w.heap.size, 2, none⟩ = some (.bool t.2) := blk_cell HB.out.box 2
   have r0 := blk_cell HB.out.res 0
   have r1 := blk_cell HB.out.res 1
   have z0 := blk_free HB.out.res 0
   have z1 := blk_free HB.out.res 1
   have q0 := blk_cell HB.out.non 0
   have q1 := blk_cell HB.out.non 1
   have hs0 : w.heap.size < wr.heap.size := by have := HB.out.size3; omega
   have hs1 : w.heap.size + 1 < wr.heap.size := by have := HB.out.size3; omega
   have hs2 : w.heap.size + 1 + 1 < wr.heap.size := by have := HB.out.size3; omega
   clear hlt hle hk
   have hSb : SRow wr 23 encT u7 [a, b, c1] := by rw [← HK.out]; exact HS.out
   obtain ⟨RA, RC, rfl, hcell⟩ := hSb.slice
   obtain ⟨g, rfl, _, hcg⟩ := hcell 0 _ rfl
   have l0 : wr.cell? ⟨g, 0, none⟩ = some (.int .i64 a.1) := by simpa using hcg 0 _ rfl
   have l1 : wr.cell? ⟨g, 1, none⟩ = some (.bool a.2) := by simpa using hcg 1 _ rfl
   have lg : g < wr.heap.size := World.block_lt_of_cell? _ _ l0
   obtain ⟨g', e, _, hc1⟩ := hcell 1 _ rfl
   cases e
   have m1 : wr.cell? ⟨g, 2, none⟩ = some (.int .i64 b.1) := by simpa using hc1 0 _ rfl
   have p1 : wr.cell? ⟨g, 3, none⟩ = some (.bool b.2) := by simpa using hc1 1 _ rfl
   clear hc1
   obtain ⟨g', e, _, hc2⟩ := hcell 2 _ rfl
   cases e
   have m2 : wr.cell? ⟨g, 4, none⟩ = some (.int .i64 c1.1) := by simpa using hc2 0 _ rfl
   have p2 : wr.cell? ⟨g, 5, none⟩ = some (.bool c1.2) := by simpa using hc2 1 _ rfl
   clear hc2
   clear hcg hcell hSb
   have HB9 := Lib.hid (HB.out.frm0 (frm_alloc wr (.cells #[.int .i64 c1.1, .bool c1.2] 23)))
   go_wp2_with fail
   obtain ⟨w9, hw9⟩ : ∃ w9, w9 = wr.alloc (.cells #[.int .i64 c1.1, .bool c1.2] 23) := ⟨_, rfl⟩
   have HT := Lib.hid (show w9.heap[wr.heap.size]? = some (.cells #[.int .i64 c1.1, .bool c1.2] 23) by rw [hw9]; exact blk_new _)
   have l0 : w9.cell? ⟨g, 0, none⟩ = some (.int .i64 a.1) := by rw [hw9]; exact frm_cell (frm_alloc _ _) l0
   have l1 : w9.cell? ⟨g, 1, none⟩ = some (.bool a.2) := by rw [hw9]; exact frm_cell (frm_alloc _ _) l1
   have m1 : w9.cell? ⟨g, 2, none⟩ = some (.int .i64 b.1) := by rw [hw9]; exact frm_cell (frm_alloc _ _) m1
   have p1 : w9.cell? ⟨g, 3, none⟩ = some (.bool b.2) := by rw [hw9]; exact frm_cell (frm_alloc _ _) p1
   have m2 : w9.cell? ⟨g, 4, none⟩ = some (.int .i64 c1.1) := by rw [hw9]; exact frm_cell (frm_alloc _ _) m2
   have p2 : w9.cell? ⟨g, 5, none⟩ = some (.bool c1.2) := by rw [hw9]; exact frm_cell (frm_alloc _ _) p2
   rw [← hw9] at HB9 ⊢
   clear hw9 r0 r1 z0 z1 q0 q1 a0 a1 a2
   have t0 : w9.cell? ⟨wr.heap.size, 0, none⟩ = some (.int .i64 c1.1) := blk_cell HT.out 0
   have t1 : w9.cell? ⟨wr.heap.size, 1, none⟩ = some (.bool c1.2) := blk_cell HT.out 1
   have a0 : w9.cell? ⟨w.heap.size, 0, none⟩ = some (.string op) := blk_cell HB9.out.box 0
   have a1 : w9.cell? ⟨w.heap.size, 1, none⟩ = some (.int .i64 t.1) := blk_cell HB9.out.box 1
   have a2 : w9.cell? ⟨w.heap.size, 2, none⟩ = some (.bool t.2) := blk_cell HB9.out.box 2
   have r0 := blk_cell HB9.out.res 0
   have r1 := blk_cell HB9.out.res 1
   have z0 := blk_free HB9.out.res 0
   have z1 := blk_free HB9.out.res 1
   have q0 := blk_cell HB9.out.non 0
   have q1 := blk_cell HB9.out.non 1
   go_wp2_with fail
   refine Plan.wp_region_plan [0, 1, 0, 4, 12, 28, 60, 124, 252, 255, 1023] [.mk [0, 1, 2, 3, 4, 5, 6] 7 [0, 1], .mk [8] 9 [8]] [10] (by kernel_rfl) (by kernel_rfl) ?_
   simp only [Plan.wayOf, Plan.pickAll, List.getElem?_cons_zero, List.getElem?_cons_succ, List.getD_eq_getElem?_getD, Option.getD_some]
   refine Plan.wpWay_seg ?_
   repeat go_big_quiet_step (fail)
   refine wpQuiet_nil ?_; refine Plan.wpWay_act ?_
   go_wp2_with (fail)
   refine And.intro ?_ ?_; focus ((iterate 2 (refine Plan.again_cons ?_ ?_; focus (go_big_quiet_step (fail); exact wpQuiet_nil rfl))); exact Plan.again_nil)
   refine Plan.wpWay_seg ?_
   repeat go_big_quiet_step (fail)
   refine wpQuiet_nil ?_; refine Plan.wpWay_act ?_
   go_wp2_with (fail)
   refine And.intro ?_ ?_; focus ((iterate 1 (refine Plan.again_cons ?_ ?_; focus (go_big_quiet_step (fail); exact wpQuiet_nil rfl))); exact Plan.again_nil)
   refine Plan.wpWay_last ?_
   repeat go_big_quiet_step (fail)
   refine wpQuiet_nil ?_; refine NoPanic.normal ?_
   go_wp2
   refine bodyPost_ret (v := .tuple #[.agg #[.int .i64 t.1, .bool t.2], .bool false]) (by simp [results, Tryz.results10, go_sem, r0, r1]) rfl ⟨rfl, HB9.out.drew.fin _ _⟩
set_option maxRecDepth 100000 in
set_option maxHeartbeats 2000000 in
theorem type_k3 {lim : Nat} (w : World) (op : ByteArray) (t : Ty) (num : Nat) (v : Int) (gl : Bool) (ln cl : Int) (A : Option Addr) (c : Nat) (kids : List Tree) (vv : Value) (vs : List Ty) (a b c1 : Ty) (h : Upto w lim vv vs A kids kids.length [a, b, c1]) (n1 : op ≠ sNum) (n2 : op ≠ sVar) (n3 : op ≠ sCast) (ok : Bool) (hok : ok = (decide (op = sIte) && decide (a.1 = 1) && decide (b = c1))) :
  Calls Tryz.prog 10 #[.agg #[.string op, .int .i64 t.1, .bool t.2, .int .u64 num, .int .i64 v, .bool gl, .int .i64 ln, .int .i64 cl, .slice A kids.length c], vv] w (TyPost w (c1, ok)) := by
 have d1 : (op.toList == [110, 117, 109]) = false := by rw [eqS]; exact decide_eq_false n1
 have d2 : (op.toList == [118, 97, 114]) = false := by rw [eqS]; exact decide_eq_false n2
 obtain ⟨i0, hi, hz0, hz1, hz2⟩ := info_parts info_ty
 have HU := Lib.hid h
 obtain ⟨ks, hks⟩ : ∃ ks, ks = [a, b, c1] := ⟨_, rfl⟩
 rw [← hks] at HU
 have HK := Lib.hid hks
 have d3 : (op.toList == [99, 97, 115, 116]) = false := by rw [eqS]; exact decide_eq_false n3
 have HOK := Lib.hid hok
 clear n3 hok
 clear h n1 n2 hks
 go_enter Tryz.func10, Tryz.ntmps10
 go_wp2_with fail
 have H1 := Lib.hid (Bx.new w (.cells #[.string op, .int .i64 t.1, .bool t.2, .int .u64 num, .int .i64 v, .bool gl, .int .i64 ln, .int .i64 cl, .slice A kids.length c] 27))
 obtain ⟨w1, hw1⟩ : ∃ w1, w1 = ((w.alloc (.cells #[.string op, .int .i64 t.1, .bool t.2, .int .u64 num, .int .i64 v, .bool gl, .int .i64 ln, .int .i64 cl, .slice A kids.length c] 27)).alloc (.cells #[.int .i64 0, .bool false] 23)).alloc (.cells #[.int .i64 0, .bool false] 23) := ⟨_, rfl⟩
 have hsz := Lib.hid (show w1.heap.size = w.heap.size + 1 + 1 + 1 by rw [hw1]; simp)
 rw [← hw1] at H1 ⊢
 clear hw1
 have a0 : w1.cell? ⟨w.heap.size, 0, none⟩ = some (.string op) := blk_cell H1.out.box 0
 have a1 : w1.cell? ⟨w.heap.size, 1, none⟩ = some (.int .i64 t.1) := blk_cell H1.out.box 1
 have a2 : w1.cell? ⟨w.heap.size, 2, none⟩ = some (.bool t.2) := blk_cell H1.out.box 2
 have a4 : w1.cell? ⟨w.heap.size, 4, none⟩ = some (.int .i64 v) := blk_cell H1.out.box 4
 have a8 : w1.cell? ⟨w.heap.size, 8, none⟩ = some (.slice A kids.length c) := blk_cell H1.out.box 8
 have H2 := Lib.hid (H1.out.frm0 (frm_alloc w1 (.cells #[] 23)))
 have HR0 := Lib.hid (show SRow (w1.alloc (.cells #[] 23)) 23 encT (.slice (some ⟨w.heap.size + 1 + 1 + 1, 0, none⟩) 0 0) ([] : List Ty) from SRow.empty (blk_new_at _ hsz.out.symm))
 clear a0 a1 a2 a4 a8
 go_wp2_with fail
 go_loopw [7, 8] (fun v7 v8 w' => ∃ k : Nat, k ≤ kids.length ∧ v8 = .int .i64 k ∧ Hid (SRow w' 23 encT v7 (ks.take k)) ∧ Hid (Bx w w' (.cells #[.string op, .int .i64 t.1, .bool t.2, .int .u64 num, .int .i64 v, .bool gl, .int .i64 ln, .int .i64 cl, .slice A kids.length c] 27)) ∧ Hid (∀ g, v7.ownBlock = some g → w.heap.size + 3 ≤ g)) (fun _ v8 _ => kids.length - (intOf v8).toNat)
 case atStart => exact ⟨0, Nat.zero_le _, rfl, HR0, H2, Lib.hid fun g hg => by cases hg; exact Nat.le_refl _⟩
 case round =>
  obtain ⟨k, hk, rfl, HS, HB, HO⟩ := hrel
  have b8 : wr.cell? ⟨w.heap.size, 8, none⟩ = some (.slice A kids.length c) := blk_cell HB.out.box 8
  have hmost := HU.out.most
  by_cases hlt : k < kids.length
  ·have hle := HU.out.le
   have hltI : (k : Int) < (kids.length : Int) := by omega
   obtain ⟨x, hx⟩ : ∃ x, kids[k]? = some x := ⟨_, List.getElem?_eq_getElem (by omega)⟩
   obtain ⟨hx1, hx2⟩ := HU.out.typ k x hlt hx
   obtain ⟨g, o, rfl, hT⟩ := (HU.out.mem.frm0 HB.out.frm).get hx
   rw [Nat.zero_add] at hT
   obtain ⟨a0, a1, a2, a3, a4, a5, a6, a7, a8, hV, c0, c1, c2, c3, c4, c5, c6, c7, c8⟩ := hT.load
   have HC := Lib.hid (HU.out.call k x hx wr _ hV (HU.out.vars.frm0 HB.out.frm))
   have htk := Lib.hid (show ks.take (k + 1) = ks.take k ++ [(typeX vs x).1] by rw [List.take_add_one, hx2]; rfl)
   have hl7 := Lib.hid (show (ks.take k).length ≤ 4194304 by rw [List.length_take]; omega)
   obtain ⟨ys, hys⟩ : ∃ ys, ys = ks.take k := ⟨_, rfl⟩
   rw [← hys] at HS htk hl7
   have HY := Lib.hid hys
   clear hys
   rcases HS.out.slice with ⟨RA, RC, rfl, _⟩
   obtain ⟨u, hu⟩ : ∃ u, typeX vs x = (u, true) := ⟨(typeX vs x).1, Prod.ext rfl hx1⟩
   rw [hu] at HC htk
   clear hT hV hx hx1 hx2 hu
   go_wp2_with fail
   refine HC.out.mono ?_
   rintro e w2 ⟨rfl, hf⟩
   have HB2 := Lib.hid (HB.out.frm0 hf)
   have HS2 := Lib.hid (HS.out.frm0 hf)
   clear hf
   go_wp2_with (at_builtin; refine wpList_append_srow rfl _ _ 28 rfl 23 i0 (.agg #[.int .i64 0, .bool false]) 16 Tryz.underlying28 hi hz0 hz1 hz2 rfl (by decide) (E := encT) (.slice RA ys.length RC) ys rfl (HS2.out.frm0 ((frm_alloc w2 (.cells #[.int .i64 u.1, .bool u.2] 23)).alloc (.cells #[.int .i64 u.1, .bool u.2] 23))) ⟨w2.heap.size + 1, 0, none⟩ 1 u rfl ?c1 ?c2 ?c3 ?_)
   case c1 =>
    intro i u' hu'
    have e : (⟨w2.heap.size + 1, 0, none⟩ : Addr).add i = ⟨w2.heap.size + 1, i, none⟩ := by unfold Addr.add; split <;> simp_all
    rw [e, blk_cell (blk_new_at (w := w2.alloc (.cells #[.int .i64 u.1, .bool u.2] 23)) (n := w2.heap.size + 1) (.cells #[.int .i64 u.1, .bool u.2] 23) (by simp))]
    simpa [encT] using hu'
   case c2 => have := hl7.out; have : maxLen = 9223372036854775807 := rfl; omega
   case c3 => have := hl7.out; omega
   intro g' cap' w7 hrow hfr hg hlt7
   have HS7 := Lib.hid (show SRow w7 23 encT (.slice (some ⟨g', 0, none⟩) (ys.length + 1) cap') (ks.take (k + 1)) by rw [htk.out]; exact hrow)
   have hB3 := HB2.out.frm0 ((frm_alloc w2 (.cells #[.int .i64 u.1, .bool u.2] 23)).alloc (.cells #[.int .i64 u.1, .bool u.2] 23))
   have HB7 := Lib.hid (hB3.grow hfr fun b hb => HO.out b hb)
   have HO7 := Lib.hid (show w.heap.size + 3 ≤ g' by rcases hg with h | h; exact HO.out g' h; rw [h]; have := HB2.out.size3; simp; omega)
   clear hrow hfr hg hB3
   go_wp2
   go_roundw
   case rel => exact ⟨k + 1, by omega, by first | rfl | go_num, HS7, HB7, Lib.hid fun g'' hg'' => by cases hg''; exact HO7.out⟩
   case measure => simp [intOf]; omega
  ·obtain rfl : k = kids.length := by omega
   have hle := HU.out.le
   rw [List.take_of_length_le (Nat.le_of_eq HU.out.len)] at HS
   have hltI : ¬ (kids.length : Int) < (kids.length : Int) := by omega
   have a0 : wr.cell? ⟨w.heap.size, 0, none⟩ = some (.string op) := blk_cell HB.out.box 0
   have a1 : wr.cell? ⟨w.heap.size, 1, none⟩ = some (.int .i64 t.1) := blk_cell HB.out.box 1
   have a2 : wr.cell? ⟨w.heap.size, 2, none⟩ = some (.bool t.2) := blk_cell HB.out.box 2
   have r0 := blk_cell HB.out.res 0
   have r1 := blk_cell HB.out.res 1
   have z0 := blk_free HB.out.res 0
   have z1 := blk_free HB.out.res 1
   have q0 := blk_cell HB.out.non 0
   have q1 := blk_cell HB.out.non 1
   have hs0 : w.heap.size < wr.heap.size := by have := HB.out.size3; omega
   have hs1 : w.heap.size + 1 < wr.heap.size := by have := HB.out.size3; omega
   have hs2 : w.heap.size + 1 + 1 < wr.heap.size := by have := HB.out.size3; omega
   clear hlt hle hk
   have hSb : SRow wr 23 encT u7 [a, b, c1] := by rw [← HK.out]; exact HS.out
   obtain ⟨RA, RC, rfl, hcell⟩ := hSb.slice
   obtain ⟨g, rfl, _, hcg⟩ := hcell 0 _ rfl
   have l0 : wr.cell? ⟨g, 0, none⟩ = some (.int .i64 a.1) := by simpa using hcg 0 _ rfl
   have l1 : wr.cell? ⟨g, 1, none⟩ = some (.bool a.2) := by simpa using hcg 1 _ rfl
   have lg : g < wr.heap.size := World.block_lt_of_cell? _ _ l0
   obtain ⟨g', e, _, hc1⟩ := hcell 1 _ rfl
   cases e
   have m1 : wr.cell? ⟨g, 2, none⟩ = some (.int .i64 b.1) := by simpa using hc1 0 _ rfl
   have p1 : wr.cell? ⟨g, 3, none⟩ = some (.bool b.2) := by simpa using hc1 1 _ rfl
   clear hc1
   obtain ⟨g', e, _, hc2⟩ := hcell 2 _ rfl
   cases e
   have m2 : wr.cell? ⟨g, 4, none⟩ = some (.int .i64 c1.1) := by simpa using hc2 0 _ rfl
   have p2 : wr.cell? ⟨g, 5, none⟩ = some (.bool c1.2) := by simpa using hc2 1 _ rfl
   clear hc2
   clear hcg hcell hSb
   have HB9 := Lib.hid (HB.out.frm0 (frm_alloc wr (.cells #[.int .i64 c1.1, .bool c1.2] 23)))
   by_cases q1 : op = sIte
   ·have d4 : (op.toList == [105, 116, 101]) = true := by rw [eqS]; exact decide_eq_true q1
    by_cases q2 : a.1 = 1
    ·have e1 : (a.1 == 1) = true := by simp [q2]
     have HOK := Lib.hid (show ok = decide (b = c1) by rw [HOK.out]; simp [q1, q2])
     clear q1 q2
     by_cases q3 : b = c1
     ·subst q3
      go_wp2_with fail
      obtain ⟨w9, hw9⟩ : ∃ w9, w9 = wr.alloc (.cells #[.int .i64 b.1, .bool b.2] 23) := ⟨_, rfl⟩
      have HT := Lib.hid (show w9.heap[wr.heap.size]? = some (.cells #[.int .i64 b.1, .bool b.2] 23) by rw [hw9]; exact blk_new _)
      have l0 : w9.cell? ⟨g, 0, none⟩ = some (.int .i64 a.1) := by rw [hw9]; exact frm_cell (frm_alloc _ _) l0
      have l1 : w9.cell? ⟨g, 1, none⟩ = some (.bool a.2) := by rw [hw9]; exact frm_cell (frm_alloc _ _) l1
      have m1 : w9.cell? ⟨g, 2, none⟩ = some (.int .i64 b.1) := by rw [hw9]; exact frm_cell (frm_alloc _ _) m1
      have p1 : w9.cell? ⟨g, 3, none⟩ = some (.bool b.2) := by rw [hw9]; exact frm_cell (frm_alloc _ _) p1
      have m2 : w9.cell? ⟨g, 4, none⟩ = some (.int .i64 b.1) := by rw [hw9]; exact frm_cell (frm_alloc _ _) m2
      have p2 : w9.cell? ⟨g, 5, none⟩ = some (.bool b.2) := by rw [hw9]; exact frm_cell (frm_alloc _ _) p2
      rw [← hw9] at HB9 ⊢
      clear hw9 r0 r1 z0 z1 q0 q1 a0 a1 a2
      have t0 : w9.cell? ⟨wr.heap.size, 0, none⟩ = some (.int .i64 b.1) := blk_cell HT.out 0
      have t1 : w9.cell? ⟨wr.heap.size, 1, none⟩ = some (.bool b.2) := blk_cell HT.out 1
      have a0 : w9.cell? ⟨w.heap.size, 0, none⟩ = some (.string op) := blk_cell HB9.out.box 0
      have a1 : w9.cell? ⟨w.heap.size, 1, none⟩ = some (.int .i64 t.1) := blk_cell HB9.out.box 1
      have a2 : w9.cell? ⟨w.heap.size, 2, none⟩ = some (.bool t.2) := blk_cell HB9.out.box 2
      have r0 := blk_cell HB9.out.res 0
      have r1 := blk_cell HB9.out.res 1
      have z0 := blk_free HB9.out.res 0
      have z1 := blk_free HB9.out.res 1
      have q0 := blk_cell HB9.out.non 0
      have q1 := blk_cell HB9.out.non 1
      go_wp2_with fail
      refine Plan.wp_region_plan [0, 0, 2, 6, 14, 30, 62, 126, 254, 510, 1022, 2046, 4094, 8190, 16382, 4094, 65534, 131070, 4095, 524287] [.mk [0, 1, 2, 3, 4, 5, 6, 7, 8, 9, 10, 11, 12, 13, 14, 15, 16, 17] 18 [12, 13, 14, 15, 16, 17]] [19] (by kernel_rfl) (by kernel_rfl) ?_
      simp only [Plan.wayOf, Plan.pickAll, List.getElem?_cons_zero, List.getElem?_cons_succ, List.getD_eq_getElem?_getD, Option.getD_some]
      refine Plan.wpWay_seg ?_
      repeat go_big_quiet_step (fail)
      refine wpQuiet_nil ?_; refine Plan.wpWay_act ?_
      go_wp2_with (fail)
      refine And.intro ?_ ?_; focus ((iterate 6 (refine Plan.again_cons ?_ ?_; focus (go_big_quiet_step (fail); exact wpQuiet_nil rfl))); exact Plan.again_nil)
      refine Plan.wpWay_last ?_
      repeat go_big_quiet_step (fail)
      refine wpQuiet_nil ?_; refine NoPanic.normal ?_
      go_wp2
      refine bodyPost_ret (v := .tuple #[.agg #[.int .i64 b.1, .bool b.2], .bool true]) (by simp [results, Tryz.results10, go_sem, r0, r1]) rfl ⟨ret_ok (by rw [HOK.out]; simp), HB9.out.drew.fin _ _⟩
     ·have HOK := Lib.hid (show ok = false by rw [HOK.out]; simp [q3])
      by_cases q4 : b.1 = c1.1
      ·have f1 : (b.1 == c1.1) = true := by simp [q4]
       have f2 : (b.2 == c1.2) = false := by simp; exact fun e => q3 (Prod.ext q4 e)
       clear q3 q4
       go_wp2_with fail
       obtain ⟨w9, hw9⟩ : ∃ w9, w9 = wr.alloc (.cells #[.int .i64 c1.1, .bool c1.2] 23) := ⟨_, rfl⟩
       have HT := Lib.hid (show w9.heap[wr.heap.size]? = some (.cells #[.int .i64 c1.1, .bool c1.2] 23) by rw [hw9]; exact blk_new _)
       have l0 : w9.cell? ⟨g, 0, none⟩ = some (.int .i64 a.1) := by rw [hw9]; exact frm_cell (frm_alloc _ _) l0
       have l1 : w9.cell? ⟨g, 1, none⟩ = some (.bool a.2) := by rw [hw9]; exact frm_cell (frm_alloc _ _) l1
       have m1 : w9.cell? ⟨g, 2, none⟩ = some (.int .i64 b.1) := by rw [hw9]; exact frm_cell (frm_alloc _ _) m1
       have p1 : w9.cell? ⟨g, 3, none⟩ = some (.bool b.2) := by rw [hw9]; exact frm_cell (frm_alloc _ _) p1
       have m2 : w9.cell? ⟨g, 4, none⟩ = some (.int .i64 c1.1) := by rw [hw9]; exact frm_cell (frm_alloc _ _) m2
       have p2 : w9.cell? ⟨g, 5, none⟩ = some (.bool c1.2) := by rw [hw9]; exact frm_cell (frm_alloc _ _) p2
       rw [← hw9] at HB9 ⊢
       clear hw9 r0 r1 z0 z1 q0 q1 a0 a1 a2
       have t0 : w9.cell? ⟨wr.heap.size, 0, none⟩ = some (.int .i64 c1.1) := blk_cell HT.out 0
       have t1 : w9.cell? ⟨wr.heap.size, 1, none⟩ = some (.bool c1.2) := blk_cell HT.out 1
       have a0 : w9.cell? ⟨w.heap.size, 0, none⟩ = some (.string op) := blk_cell HB9.out.box 0
       have a1 : w9.cell? ⟨w.heap.size, 1, none⟩ = some (.int .i64 t.1) := blk_cell HB9.out.box 1
       have a2 : w9.cell? ⟨w.heap.size, 2, none⟩ = some (.bool t.2) := blk_cell HB9.out.box 2
       have r0 := blk_cell HB9.out.res 0
       have r1 := blk_cell HB9.out.res 1
       have z0 := blk_free HB9.out.res 0
       have z1 := blk_free HB9.out.res 1
       have q0 := blk_cell HB9.out.non 0
       have q1 := blk_cell HB9.out.non 1
       go_wp2_with fail
       refine Plan.wp_region_plan [0, 0, 2, 6, 14, 30, 62, 126, 254, 510, 1022, 2046, 4094, 8190, 16382, 4094, 65534, 131070, 4095, 524287] [.mk [0, 1, 2, 3, 4, 5, 6, 7, 8, 9, 10, 11, 12, 13, 14, 15, 16, 17] 18 [12, 13, 14, 15, 16, 17]] [19] (by kernel_rfl) (by kernel_rfl) ?_
       simp only [Plan.wayOf, Plan.pickAll, List.getElem?_cons_zero, List.getElem?_cons_succ, List.getD_eq_getElem?_getD, Option.getD_some]
       refine Plan.wpWay_seg ?_
       repeat go_big_quiet_step (fail)
       refine wpQuiet_nil ?_; refine Plan.wpWay_act ?_
       go_wp2_with (fail)
       refine And.intro ?_ ?_; focus ((iterate 6 (refine Plan.again_cons ?_ ?_; focus (go_big_quiet_step (fail); exact wpQuiet_nil rfl))); exact Plan.again_nil)
       refine Plan.wpWay_last ?_
       repeat go_big_quiet_step (fail)
       refine wpQuiet_nil ?_; refine NoPanic.normal ?_
       go_wp2
       refine bodyPost_ret (v := .tuple #[.agg #[.int .i64 c1.1, .bool c1.2], .bool false]) (by simp [results, Tryz.results10, go_sem, r0, r1]) rfl ⟨ret_ok (HOK.out.symm), HB9.out.drew.fin _ _⟩
      ·have f1 : (b.1 == c1.1) = false := by simp [q4]
       clear q3 q4
       go_wp2_with fail
       obtain ⟨w9, hw9⟩ : ∃ w9, w9 = wr.alloc (.cells #[.int .i64 c1.1, .bool c1.2] 23) := ⟨_, rfl⟩
       have HT := Lib.hid (show w9.heap[wr.heap.size]? = some (.cells #[.int .i64 c1.1, .bool c1.2] 23) by rw [hw9]; exact blk_new _)
       have l0 : w9.cell? ⟨g, 0, none⟩ = some (.int .i64 a.1) := by rw [hw9]; exact frm_cell (frm_alloc _ _) l0
       have l1 : w9.cell? ⟨g, 1, none⟩ = some (.bool a.2) := by rw [hw9]; exact frm_cell (frm_alloc _ _) l1
       have m1 : w9.cell? ⟨g, 2, none⟩ = some (.int .i64 b.1) := by rw [hw9]; exact frm_cell (frm_alloc _ _) m1
       have p1 : w9.cell? ⟨g, 3, none⟩ = some (.bool b.2) := by rw [hw9]; exact frm_cell (frm_alloc _ _) p1
       have m2 : w9.cell? ⟨g, 4, none⟩ = some (.int .i64 c1.1) := by rw [hw9]; exact frm_cell (frm_alloc _ _) m2
       have p2 : w9.cell? ⟨g, 5, none⟩ = some (.bool c1.2) := by rw [hw9]; exact frm_cell (frm_alloc _ _) p2
       rw [← hw9] at HB9 ⊢
       clear hw9 r0 r1 z0 z1 q0 q1 a0 a1 a2
       have t0 : w9.cell? ⟨wr.heap.size, 0, none⟩ = some (.int .i64 c1.1) := blk_cell HT.out 0
       have t1 : w9.cell? ⟨wr.heap.size, 1, none⟩ = some (.bool c1.2) := blk_cell HT.out 1
       have a0 : w9.cell? ⟨w.heap.size, 0, none⟩ = some (.string op) := blk_cell HB9.out.box 0
       have a1 : w9.cell? ⟨w.heap.size, 1, none⟩ = some (.int .i64 t.1) := blk_cell HB9.out.box 1
       have a2 : w9.cell? ⟨w.heap.size, 2, none⟩ = some (.bool t.2) := blk_cell HB9.out.box 2
       have r0 := blk_cell HB9.out.res 0
       have r1 := blk_cell HB9.out.res 1
       have z0 := blk_free HB9.out.res 0
       have z1 := blk_free HB9.out.res 1
       have q0 := blk_cell HB9.out.non 0
       have q1 := blk_cell HB9.out.non 1
       go_wp2_with fail
       refine Plan.wp_region_plan [0, 0, 2, 6, 14, 30, 62, 126, 254, 510, 1022, 2046, 4094, 8190, 16382, 4094, 65534, 131070, 4095, 524287] [.mk [0, 1, 2, 3, 4, 5, 6, 7, 8, 9, 10, 11, 12, 13, 14, 15, 16, 17] 18 [12, 13, 14, 15, 16, 17]] [19] (by kernel_rfl) (by kernel_rfl) ?_
       simp only [Plan.wayOf, Plan.pickAll, List.getElem?_cons_zero, List.getElem?_cons_succ, List.getD_eq_getElem?_getD, Option.getD_some]
       refine Plan.wpWay_seg ?_
       repeat go_big_quiet_step (fail)
       refine wpQuiet_nil ?_; refine Plan.wpWay_act ?_
       go_wp2_with (fail)
       refine And.intro ?_ ?_; focus ((iterate 6 (refine Plan.again_cons ?_ ?_; focus (go_big_quiet_step (fail); exact wpQuiet_nil rfl))); exact Plan.again_nil)
       refine Plan.wpWay_last ?_
       repeat go_big_quiet_step (fail)
       refine wpQuiet_nil ?_; refine NoPanic.normal ?_
       go_wp2
       refine bodyPost_ret (v := .tuple #[.agg #[.int .i64 c1.1, .bool c1.2], .bool false]) (by simp [results, Tryz.results10, go_sem, r0, r1]) rfl ⟨ret_ok (HOK.out.symm), HB9.out.drew.fin _ _⟩
    ·have e1 : (a.1 == 1) = false := by simp [q2]
     have HOK := Lib.hid (show ok = false by rw [HOK.out]; simp [q2])
     clear q1 q2
     go_wp2_with fail
     obtain ⟨w9, hw9⟩ : ∃ w9, w9 = wr.alloc (.cells #[.int .i64 c1.1, .bool c1.2] 23) := ⟨_, rfl⟩
     have HT := Lib.hid (show w9.heap[wr.heap.size]? = some (.cells #[.int .i64 c1.1, .bool c1.2] 23) by rw [hw9]; exact blk_new _)
     have l0 : w9.cell? ⟨g, 0, none⟩ = some (.int .i64 a.1) := by rw [hw9]; exact frm_cell (frm_alloc _ _) l0
     have l1 : w9.cell? ⟨g, 1, none⟩ = some (.bool a.2) := by rw [hw9]; exact frm_cell (frm_alloc _ _) l1
     have m1 : w9.cell? ⟨g, 2, none⟩ = some (.int .i64 b.1) := by rw [hw9]; exact frm_cell (frm_alloc _ _) m1
     have p1 : w9.cell? ⟨g, 3, none⟩ = some (.bool b.2) := by rw [hw9]; exact frm_cell (frm_alloc _ _) p1
     have m2 : w9.cell? ⟨g, 4, none⟩ = some (.int .i64 c1.1) := by rw [hw9]; exact frm_cell (frm_alloc _ _) m2
     have p2 : w9.cell? ⟨g, 5, none⟩ = some (.bool c1.2) := by rw [hw9]; exact frm_cell (frm_alloc _ _) p2
     rw [← hw9] at HB9 ⊢
     clear hw9 r0 r1 z0 z1 q0 q1 a0 a1 a2
     have t0 : w9.cell? ⟨wr.heap.size, 0, none⟩ = some (.int .i64 c1.1) := blk_cell HT.out 0
     have t1 : w9.cell? ⟨wr.heap.size, 1, none⟩ = some (.bool c1.2) := blk_cell HT.out 1
     have a0 : w9.cell? ⟨w.heap.size, 0, none⟩ = some (.string op) := blk_cell HB9.out.box 0
     have a1 : w9.cell? ⟨w.heap.size, 1, none⟩ = some (.int .i64 t.1) := blk_cell HB9.out.box 1
     have a2 : w9.cell? ⟨w.heap.size, 2, none⟩ = some (.bool t.2) := blk_cell HB9.out.box 2
     have r0 := blk_cell HB9.out.res 0
     have r1 := blk_cell HB9.out.res 1
     have z0 := blk_free HB9.out.res 0
     have z1 := blk_free HB9.out.res 1
     have q0 := blk_cell HB9.out.non 0
     have q1 := blk_cell HB9.out.non 1
     go_wp2_with fail
     refine Plan.wp_region_plan [0, 0, 2, 6, 14, 30, 62, 126, 254, 510, 1022, 2046, 4094, 8190, 16382, 4094, 65534, 131070, 4095, 524287] [.mk [0, 1, 2, 3, 4, 5, 6, 7, 8, 9, 10, 11, 12, 13, 14, 15, 16, 17] 18 [12, 13, 14, 15, 16, 17]] [19] (by kernel_rfl) (by kernel_rfl) ?_
     simp only [Plan.wayOf, Plan.pickAll, List.getElem?_cons_zero, List.getElem?_cons_succ, List.getD_eq_getElem?_getD, Option.getD_some]
     refine Plan.wpWay_seg ?_
     repeat go_big_quiet_step (fail)
     refine wpQuiet_nil ?_; refine Plan.wpWay_act ?_
     go_wp2_with (fail)
     refine And.intro ?_ ?_; focus ((iterate 6 (refine Plan.again_cons ?_ ?_; focus (go_big_quiet_step (fail); exact wpQuiet_nil rfl))); exact Plan.again_nil)
     refine Plan.wpWay_last ?_
     repeat go_big_quiet_step (fail)
     refine wpQuiet_nil ?_; refine NoPanic.normal ?_
     go_wp2
     refine bodyPost_ret (v := .tuple #[.agg #[.int .i64 c1.1, .bool c1.2], .bool false]) (by simp [results, Tryz.results10, go_sem, r0, r1]) rfl ⟨ret_ok (HOK.out.symm), HB9.out.drew.fin _ _⟩
   ·have d4 : (op.toList == [105, 116, 101]) = false := by rw [eqS]; exact decide_eq_false q1
    have HOK := Lib.hid (show ok = false by rw [HOK.out]; simp [q1])
    clear q1
    go_wp2_with fail
    obtain ⟨w9, hw9⟩ : ∃ w9, w9 = wr.alloc (.cells #[.int .i64 c1.1, .bool c1.2] 23) := ⟨_, rfl⟩
    have HT := Lib.hid (show w9.heap[wr.heap.size]? = some (.cells #[.int .i64 c1.1, .bool c1.2] 23) by rw [hw9]; exact blk_new _)
    have l0 : w9.cell? ⟨g, 0, none⟩ = some (.int .i64 a.1) := by rw [hw9]; exact frm_cell (frm_alloc _ _) l0
    have l1 : w9.cell? ⟨g, 1, none⟩ = some (.bool a.2) := by rw [hw9]; exact frm_cell (frm_alloc _ _) l1
    have m1 : w9.cell? ⟨g, 2, none⟩ = some (.int .i64 b.1) := by rw [hw9]; exact frm_cell (frm_alloc _ _) m1
    have p1 : w9.cell? ⟨g, 3, none⟩ = some (.bool b.2) := by rw [hw9]; exact frm_cell (frm_alloc _ _) p1
    have m2 : w9.cell? ⟨g, 4, none⟩ = some (.int .i64 c1.1) := by rw [hw9]; exact frm_cell (frm_alloc _ _) m2
    have p2 : w9.cell? ⟨g, 5, none⟩ = some (.bool c1.2) := by rw [hw9]; exact frm_cell (frm_alloc _ _) p2
    rw [← hw9] at HB9 ⊢
    clear hw9 r0 r1 z0 z1 q0 q1 a0 a1 a2
    have t0 : w9.cell? ⟨wr.heap.size, 0, none⟩ = some (.int .i64 c1.1) := blk_cell HT.out 0
    have t1 : w9.cell? ⟨wr.heap.size, 1, none⟩ = some (.bool c1.2) := blk_cell HT.out 1
    have a0 : w9.cell? ⟨w.heap.size, 0, none⟩ = some (.string op) := blk_cell HB9.out.box 0
    have a1 : w9.cell? ⟨w.heap.size, 1, none⟩ = some (.int .i64 t.1) := blk_cell HB9.out.box 1
    have a2 : w9.cell? ⟨w.heap.size, 2, none⟩ = some (.bool t.2) := blk_cell HB9.out.box 2
    have r0 := blk_cell HB9.out.res 0
    have r1 := blk_cell HB9.out.res 1
    have z0 := blk_free HB9.out.res 0
    have z1 := blk_free HB9.out.res 1
    have q0 := blk_cell HB9.out.non 0
    have q1 := blk_cell HB9.out.non 1
    go_wp2_with fail
    refine Plan.wp_region_plan [0, 0, 2, 6, 14, 30, 62, 126, 254, 510, 1022, 2046, 4094, 8190, 16382, 4094, 65534, 131070, 4095, 524287] [.mk [0, 1, 2, 3, 4, 5, 6, 7, 8, 9, 10, 11, 12, 13, 14, 15, 16, 17] 18 [12, 13, 14, 15, 16, 17]] [19] (by kernel_rfl) (by kernel_rfl) ?_
    simp only [Plan.wayOf, Plan.pickAll, List.getElem?_cons_zero, List.getElem?_cons_succ, List.getD_eq_getElem?_getD, Option.getD_some]
    refine Plan.wpWay_seg ?_
    repeat go_big_quiet_step (fail)
    refine wpQuiet_nil ?_; refine Plan.wpWay_act ?_
    go_wp2_with (fail)
    refine And.intro ?_ ?_; focus ((iterate 6 (refine Plan.again_cons ?_ ?_; focus (go_big_quiet_step (fail); exact wpQuiet_nil rfl))); exact Plan.again_nil)
    refine Plan.wpWay_last ?_
    repeat go_big_quiet_step (fail)
    refine wpQuiet_nil ?_; refine NoPanic.normal ?_
    go_wp2
    refine bodyPost_ret (v := .tuple #[.agg #[.int .i64 c1.1, .bool c1.2], .bool false]) (by simp [results, Tryz.results10, go_sem, r0, r1]) rfl ⟨ret_ok (HOK.out.symm), HB9.out.drew.fin _ _⟩
set_option maxRecDepth 100000 in
set_option maxHeartbeats 2000000 in
theorem type_k1 {lim : Nat} (w : World) (op : ByteArray) (t : Ty) (num : Nat) (v : Int) (gl : Bool) (ln cl : Int) (A : Option Addr) (c : Nat) (kids : List Tree) (vv : Value) (vs : List Ty) (a : Ty) (h : Upto w lim vv vs A kids kids.length [a]) (n1 : op ≠ sNum) (n2 : op ≠ sVar) (n3 : op ≠ sCast) (ok : Bool) (hok : ok = ((decide (op = sUNot) && decide (a.1 = 1)) || ((decide (op = sUNeg) || decide (op = sUTil)) && decide (1 < a.1)))) :
  Calls Tryz.prog 10 #[.agg #[.string op, .int .i64 t.1, .bool t.2, .int .u64 num, .int .i64 v, .bool gl, .int .i64 ln, .int .i64 cl, .slice A kids.length c], vv] w (TyPost w (a, ok)) := by
 have d1 : (op.toList == [110, 117, 109]) = false := by rw [eqS]; exact decide_eq_false n1
 have d2 : (op.toList == [118, 97, 114]) = false := by rw [eqS]; exact decide_eq_false n2
 obtain ⟨i0, hi, hz0, hz1, hz2⟩ := info_parts info_ty
 have HU := Lib.hid h
 obtain ⟨ks, hks⟩ : ∃ ks, ks = [a] := ⟨_, rfl⟩
 rw [← hks] at HU
 have HK := Lib.hid hks
 have d3 : (op.toList == [99, 97, 115, 116]) = false := by rw [eqS]; exact decide_eq_false n3
 have HOK := Lib.hid hok
 clear n3 hok
 clear h n1 n2 hks
 go_enter Tryz.func10, Tryz.ntmps10
 go_wp2_with fail
 have H1 := Lib.hid (Bx.new w (.cells #[.string op, .int .i64 t.1, .bool t.2, .int .u64 num, .int .i64 v, .bool gl, .int .i64 ln, .int .i64 cl, .slice A kids.length c] 27))
 obtain ⟨w1, hw1⟩ : ∃ w1, w1 = ((w.alloc (.cells #[.string op, .int .i64 t.1, .bool t.2, .int .u64 num, .int .i64 v, .bool gl, .int .i64 ln, .int .i64 cl, .slice A kids.length c] 27)).alloc (.cells #[.int .i64 0, .bool false] 23)).alloc (.cells #[.int .i64 0, .bool false] 23) := ⟨_, rfl⟩
 have hsz := Lib.hid (show w1.heap.size = w.heap.size + 1 + 1 + 1 by rw [hw1]; simp)
 rw [← hw1] at H1 ⊢
 clear hw1
 have a0 : w1.cell? ⟨w.heap.size, 0, none⟩ = some (.string op) := blk_cell H1.out.box 0
 have a1 : w1.cell? ⟨w.heap.size, 1, none⟩ = some (.int .i64 t.1) := blk_cell H1.out.box 1
 have a2 : w1.cell? ⟨w.heap.size, 2, none⟩ = some (.bool t.2) := blk_cell H1.out.box 2
 have a4 : w1.cell? ⟨w.heap.size, 4, none⟩ = some (.int .i64 v) := blk_cell H1.out.box 4
 have a8 : w1.cell? ⟨w.heap.size, 8, none⟩ = some (.slice A kids.length c) := blk_cell H1.out.box 8
 have H2 := Lib.hid (H1.out.frm0 (frm_alloc w1 (.cells #[] 23)))
 have HR0 := Lib.hid (show SRow (w1.alloc (.cells #[] 23)) 23 encT (.slice (some ⟨w.heap.size + 1 + 1 + 1, 0, none⟩) 0 0) ([] : List Ty) from SRow.empty (blk_new_at _ hsz.out.symm))
 clear a0 a1 a2 a4 a8
 go_wp2_with fail
 go_loopw [7, 8] (fun v7 v8 w' => ∃ k : Nat, k ≤ kids.length ∧ v8 = .int .i64 k ∧ Hid (SRow w' 23 encT v7 (ks.take k)) ∧ Hid (Bx w w' (.cells #[.string op, .int .i64 t.1, .bool t.2, .int .u64 num, .int .i64 v, .bool gl, .int .i64 ln, .int .i64 cl, .slice A kids.length c] 27)) ∧ Hid (∀ g, v7.ownBlock = some g → w.heap.size + 3 ≤ g)) (fun _ v8 _ => kids.length - (intOf v8).toNat)
 case atStart => exact ⟨0, Nat.zero_le _, rfl, HR0, H2, Lib.hid fun g hg => by cases hg; exact Nat.le_refl _⟩
 case round =>
  obtain ⟨k, hk, rfl, HS, HB, HO⟩ := hrel
  have b8 : wr.cell? ⟨w.heap.size, 8, none⟩ = some (.slice A kids.length c) := blk_cell HB.out.box 8
  have hmost := HU.out.most
  by_cases hlt : k < kids.length
  ·have hle := HU.out.le
   have hltI : (k : Int) < (kids.length : Int) := by omega
   obtain ⟨x, hx⟩ : ∃ x, kids[k]? = some x := ⟨_, List.getElem?_eq_getElem (by omega)⟩
   obtain ⟨hx1, hx2⟩ := HU.out.typ k x hlt hx
   obtain ⟨g, o, rfl, hT⟩ := (HU.out.mem.frm0 HB.out.frm).get hx
   rw [Nat.zero_add] at hT
   obtain ⟨a0, a1, a2, a3, a4, a5, a6, a7, a8, hV, c0, c1, c2, c3, c4, c5, c6, c7, c8⟩ := hT.load
   have HC := Lib.hid (HU.out.call k x hx wr _ hV (HU.out.vars.frm0 HB.out.frm))
   have htk := Lib.hid (show ks.take (k + 1) = ks.take k ++ [(typeX vs x).1] by rw [List.take_add_one, hx2]; rfl)
   have hl7 := Lib.hid (show (ks.take k).length ≤ 4194304 by rw [List.length_take]; omega)
   obtain ⟨ys, hys⟩ : ∃ ys, ys = ks.take k := ⟨_, rfl⟩
   rw [← hys] at HS htk hl7
   have HY := Lib.hid hys
   clear hys
   rcases HS.out.slice with ⟨RA, RC, rfl, _⟩
   obtain ⟨u, hu⟩ : ∃ u, typeX vs x = (u, true) := ⟨(typeX vs x).1, Prod.ext rfl hx1⟩
   rw [hu] at HC htk
   clear hT hV hx hx1 hx2 hu
   go_wp2_with fail
   refine HC.out.mono ?_
   rintro e w2 ⟨rfl, hf⟩
   have HB2 := Lib.hid (HB.out.frm0 hf)
   have HS2 := Lib.hid (HS.out.frm0 hf)
   clear hf
   go_wp2_with (at_builtin; refine wpList_append_srow rfl _ _ 28 rfl 23 i0 (.agg #[.int .i64 0, .bool false]) 16 Tryz.underlying28 hi hz0 hz1 hz2 rfl (by decide) (E := encT) (.slice RA ys.length RC) ys rfl (HS2.out.frm0 ((frm_alloc w2 (.cells #[.int .i64 u.1, .bool u.2] 23)).alloc (.cells #[.int .i64 u.1, .bool u.2] 23))) ⟨w2.heap.size + 1, 0, none⟩ 1 u rfl ?c1 ?c2 ?c3 ?_)
   case c1 =>
    intro i u' hu'
    have e : (⟨w2.heap.size + 1, 0, none⟩ : Addr).add i = ⟨w2.heap.size + 1, i, none⟩ := by unfold Addr.add; split <;> simp_all
    rw [e, blk_cell (blk_new_at (w := w2.alloc (.cells #[.int .i64 u.1, .bool u.2] 23)) (n := w2.heap.size + 1) (.cells #[.int .i64 u.1, .bool u.2] 23) (by simp))]
    simpa [encT] using hu'
   case c2 => have := hl7.out; have : maxLen = 9223372036854775807 := rfl; omega
   case c3 => have := hl7.out; omega
   intro g' cap' w7 hrow hfr hg hlt7
   have HS7 := Lib.hid (show SRow w7 23 encT (.slice (some ⟨g', 0, none⟩) (ys.length + 1) cap') (ks.take (k + 1)) by rw [htk.out]; exact hrow)
   have hB3 := HB2.out.frm0 ((frm_alloc w2 (.cells #[.int .i64 u.1, .bool u.2] 23)).alloc (.cells #[.int .i64 u.1, .bool u.2] 23))
   have HB7 := Lib.hid (hB3.grow hfr fun b hb => HO.out b hb)
   have HO7 := Lib.hid (show w.heap.size + 3 ≤ g' by rcases hg with h | h; exact HO.out g' h; rw [h]; have := HB2.out.size3; simp; omega)
   clear hrow hfr hg hB3
   go_wp2
   go_roundw
   case rel => exact ⟨k + 1, by omega, by first | rfl | go_num, HS7, HB7, Lib.hid fun g'' hg'' => by cases hg''; exact HO7.out⟩
   case measure => simp [intOf]; omega
  ·obtain rfl : k = kids.length := by omega
   have hle := HU.out.le
   rw [List.take_of_length_le (Nat.le_of_eq HU.out.len)] at HS
   have hltI : ¬ (kids.length : Int) < (kids.length : Int) := by omega
   have a0 : wr.cell? ⟨w.heap.size, 0, none⟩ = some (.string op) := blk_cell HB.out.box 0
   have a1 : wr.cell? ⟨w.heap.size, 1, none⟩ = some (.int .i64 t.1) := blk_cell HB.out.box 1
   have a2 : wr.cell? ⟨w.heap.size, 2, none⟩ = some (.bool t.2) := blk_cell HB.out.box 2
   have r0 := blk_cell HB.out.res 0
   have r1 := blk_cell HB.out.res 1
   have z0 := blk_free HB.out.res 0
   have z1 := blk_free HB.out.res 1
   have q0 := blk_cell HB.out.non 0
   have q1 := blk_cell HB.out.non 1
   have hs0 : w.heap.size < wr.heap.size := by have := HB.out.size3; omega
   have hs1 : w.heap.size + 1 < wr.heap.size := by have := HB.out.size3; omega
   have hs2 : w.heap.size + 1 + 1 < wr.heap.size := by have := HB.out.size3; omega
   clear hlt hle hk
   have hSb : SRow wr 23 encT u7 [a] := by rw [← HK.out]; exact HS.out
   obtain ⟨RA, RC, rfl, hcell⟩ := hSb.slice
   obtain ⟨g, rfl, _, hcg⟩ := hcell 0 _ rfl
   have l0 : wr.cell? ⟨g, 0, none⟩ = some (.int .i64 a.1) := by simpa using hcg 0 _ rfl
   have l1 : wr.cell? ⟨g, 1, none⟩ = some (.bool a.2) := by simpa using hcg 1 _ rfl
   have lg : g < wr.heap.size := World.block_lt_of_cell? _ _ l0
   clear hcg hcell hSb
   have HB9 := Lib.hid (HB.out.frm0 (frm_alloc wr (.cells #[.int .i64 a.1, .bool a.2] 23)))
   by_cases q1 : op = sUNot
   ·have d4 : (op.toList == [117, 33]) = true := by rw [eqS]; exact decide_eq_true q1
    have d5 : (op.toList == [117, 45]) = false := by rw [eqS, q1]; decide
    have d6 : (op.toList == [117, 126]) = false := by rw [eqS, q1]; decide
    by_cases q2 : a.1 = 1
    ·have e1 : (a.1 == 1) = true := by simp [q2]
     have HOK := Lib.hid (show ok = true by rw [HOK.out]; simp [q1, q2])
     clear q1 q2
     go_wp2_with fail
     obtain ⟨w9, hw9⟩ : ∃ w9, w9 = wr.alloc (.cells #[.int .i64 a.1, .bool a.2] 23) := ⟨_, rfl⟩
     have HT := Lib.hid (show w9.heap[wr.heap.size]? = some (.cells #[.int .i64 a.1, .bool a.2] 23) by rw [hw9]; exact blk_new _)
     have l0 : w9.cell? ⟨g, 0, none⟩ = some (.int .i64 a.1) := by rw [hw9]; exact frm_cell (frm_alloc _ _) l0
     have l1 : w9.cell? ⟨g, 1, none⟩ = some (.bool a.2) := by rw [hw9]; exact frm_cell (frm_alloc _ _) l1
     rw [← hw9] at HB9 ⊢
     clear hw9 r0 r1 z0 z1 q0 q1 a0 a1 a2
     have t0 : w9.cell? ⟨wr.heap.size, 0, none⟩ = some (.int .i64 a.1) := blk_cell HT.out 0
     have t1 : w9.cell? ⟨wr.heap.size, 1, none⟩ = some (.bool a.2) := blk_cell HT.out 1
     have a0 : w9.cell? ⟨w.heap.size, 0, none⟩ = some (.string op) := blk_cell HB9.out.box 0
     have a1 : w9.cell? ⟨w.heap.size, 1, none⟩ = some (.int .i64 t.1) := blk_cell HB9.out.box 1
     have a2 : w9.cell? ⟨w.heap.size, 2, none⟩ = some (.bool t.2) := blk_cell HB9.out.box 2
     have r0 := blk_cell HB9.out.res 0
     have r1 := blk_cell HB9.out.res 1
     have z0 := blk_free HB9.out.res 0
     have z1 := blk_free HB9.out.res 1
     have q0 := blk_cell HB9.out.non 0
     have q1 := blk_cell HB9.out.non 1
     go_wp2_with fail
     refine Plan.wp_region_plan [0, 0, 2, 6, 14, 30, 62, 126, 254, 510, 1022, 2046, 4094, 8190, 16382, 32766, 65534, 131070, 262142, 524286, 1048574, 2097150, 4194302, 8388606, 524287, 33554431] [.mk [0, 1, 2, 3, 4, 5, 6, 7, 8, 9, 10, 11, 12, 13, 14, 15, 16, 17, 18, 19, 20, 21, 22, 23] 24 [19, 20, 21, 22, 23]] [25] (by kernel_rfl) (by kernel_rfl) ?_
     simp only [Plan.wayOf, Plan.pickAll, List.getElem?_cons_zero, List.getElem?_cons_succ, List.getD_eq_getElem?_getD, Option.getD_some]
     refine Plan.wpWay_seg ?_
     repeat go_big_quiet_step (fail)
     refine wpQuiet_nil ?_; refine Plan.wpWay_act ?_
     go_wp2_with (fail)
     refine And.intro ?_ ?_; focus ((iterate 5 (refine Plan.again_cons ?_ ?_; focus (go_big_quiet_step (fail); exact wpQuiet_nil rfl))); exact Plan.again_nil)
     refine Plan.wpWay_last ?_
     repeat go_big_quiet_step (fail)
     refine wpQuiet_nil ?_; refine NoPanic.normal ?_
     go_wp2
     refine bodyPost_ret (v := .tuple #[.agg #[.int .i64 a.1, .bool a.2], .bool true]) (by simp [results, Tryz.results10, go_sem, r0, r1]) rfl ⟨ret_ok (HOK.out.symm), HB9.out.drew.fin _ _⟩
    ·have e1 : (a.1 == 1) = false := by simp [q2]
     have HOK := Lib.hid (show ok = false by rw [HOK.out, q1]; simp [q2])
     clear q1 q2
     go_wp2_with fail
     obtain ⟨w9, hw9⟩ : ∃ w9, w9 = wr.alloc (.cells #[.int .i64 a.1, .bool a.2] 23) := ⟨_, rfl⟩
     have HT := Lib.hid (show w9.heap[wr.heap.size]? = some (.cells #[.int .i64 a.1, .bool a.2] 23) by rw [hw9]; exact blk_new _)
     have l0 : w9.cell? ⟨g, 0, none⟩ = some (.int .i64 a.1) := by rw [hw9]; exact frm_cell (frm_alloc _ _) l0
     have l1 : w9.cell? ⟨g, 1, none⟩ = some (.bool a.2) := by rw [hw9]; exact frm_cell (frm_alloc _ _) l1
     rw [← hw9] at HB9 ⊢
     clear hw9 r0 r1 z0 z1 q0 q1 a0 a1 a2
     have t0 : w9.cell? ⟨wr.heap.size, 0, none⟩ = some (.int .i64 a.1) := blk_cell HT.out 0
     have t1 : w9.cell? ⟨wr.heap.size, 1, none⟩ = some (.bool a.2) := blk_cell HT.out 1
     have a0 : w9.cell? ⟨w.heap.size, 0, none⟩ = some (.string op) := blk_cell HB9.out.box 0
     have a1 : w9.cell? ⟨w.heap.size, 1, none⟩ = some (.int .i64 t.1) := blk_cell HB9.out.box 1
     have a2 : w9.cell? ⟨w.heap.size, 2, none⟩ = some (.bool t.2) := blk_cell HB9.out.box 2
     have r0 := blk_cell HB9.out.res 0
     have r1 := blk_cell HB9.out.res 1
     have z0 := blk_free HB9.out.res 0
     have z1 := blk_free HB9.out.res 1
     have q0 := blk_cell HB9.out.non 0
     have q1 := blk_cell HB9.out.non 1
     go_wp2_with fail
     refine Plan.wp_region_plan [0, 0, 2, 6, 14, 30, 62, 126, 254, 510, 1022, 2046, 4094, 8190, 16382, 32766, 65534, 131070, 262142, 524286, 1048574, 2097150, 4194302, 8388606, 524287, 33554431] [.mk [0, 1, 2, 3, 4, 5, 6, 7, 8, 9, 10, 11, 12, 13, 14, 15, 16, 17, 18, 19, 20, 21, 22, 23] 24 [19, 20, 21, 22, 23]] [25] (by kernel_rfl) (by kernel_rfl) ?_
     simp only [Plan.wayOf, Plan.pickAll, List.getElem?_cons_zero, List.getElem?_cons_succ, List.getD_eq_getElem?_getD, Option.getD_some]
     refine Plan.wpWay_seg ?_
     repeat go_big_quiet_step (fail)
     refine wpQuiet_nil ?_; refine Plan.wpWay_act ?_
     go_wp2_with (fail)
     refine And.intro ?_ ?_; focus ((iterate 5 (refine Plan.again_cons ?_ ?_; focus (go_big_quiet_step (fail); exact wpQuiet_nil rfl))); exact Plan.again_nil)
     refine Plan.wpWay_last ?_
     repeat go_big_quiet_step (fail)
     refine wpQuiet_nil ?_; refine NoPanic.normal ?_
     go_wp2
     refine bodyPost_ret (v := .tuple #[.agg #[.int .i64 a.1, .bool a.2], .bool false]) (by simp [results, Tryz.results10, go_sem, r0, r1]) rfl ⟨ret_ok (HOK.out.symm), HB9.out.drew.fin _ _⟩
   ·have d4 : (op.toList == [117, 33]) = false := by rw [eqS]; exact decide_eq_false q1
    by_cases q2 : op = sUNeg
    ·have d5 : (op.toList == [117, 45]) = true := by rw [eqS]; exact decide_eq_true q2
     by_cases q3 : 1 < a.1
     ·have e1 : decide (a.1 > 1) = true := decide_eq_true q3
      have HOK := Lib.hid (show ok = true by rw [HOK.out]; simp [q2, q3])
      clear q1 q2
      go_wp2_with fail
      obtain ⟨w9, hw9⟩ : ∃ w9, w9 = wr.alloc (.cells #[.int .i64 a.1, .bool a.2] 23) := ⟨_, rfl⟩
      have HT := Lib.hid (show w9.heap[wr.heap.size]? = some (.cells #[.int .i64 a.1, .bool a.2] 23) by rw [hw9]; exact blk_new _)
      have l0 : w9.cell? ⟨g, 0, none⟩ = some (.int .i64 a.1) := by rw [hw9]; exact frm_cell (frm_alloc _ _) l0
      have l1 : w9.cell? ⟨g, 1, none⟩ = some (.bool a.2) := by rw [hw9]; exact frm_cell (frm_alloc _ _) l1
      rw [← hw9] at HB9 ⊢
      clear hw9 r0 r1 z0 z1 q0 q1 a0 a1 a2
      have t0 : w9.cell? ⟨wr.heap.size, 0, none⟩ = some (.int .i64 a.1) := blk_cell HT.out 0
      have t1 : w9.cell? ⟨wr.heap.size, 1, none⟩ = some (.bool a.2) := blk_cell HT.out 1
      have a0 : w9.cell? ⟨w.heap.size, 0, none⟩ = some (.string op) := blk_cell HB9.out.box 0
      have a1 : w9.cell? ⟨w.heap.size, 1, none⟩ = some (.int .i64 t.1) := blk_cell HB9.out.box 1
      have a2 : w9.cell? ⟨w.heap.size, 2, none⟩ = some (.bool t.2) := blk_cell HB9.out.box 2
      have r0 := blk_cell HB9.out.res 0
      have r1 := blk_cell HB9.out.res 1
      have z0 := blk_free HB9.out.res 0
      have z1 := blk_free HB9.out.res 1
      have q0 := blk_cell HB9.out.non 0
      have q1 := blk_cell HB9.out.non 1
      go_wp2_with fail
      refine Plan.wp_region_plan [0, 0, 2, 6, 14, 30, 62, 126, 254, 510, 1022, 2046, 4094, 8190, 16382, 32766, 65534, 131070, 262142, 524286, 1048574, 2097150, 4194302, 8388606, 524287, 33554431] [.mk [0, 1, 2, 3, 4, 5, 6, 7, 8, 9, 10, 11, 12, 13, 14, 15, 16, 17, 18, 19, 20, 21, 22, 23] 24 [19, 20, 21, 22, 23]] [25] (by kernel_rfl) (by kernel_rfl) ?_
      simp only [Plan.wayOf, Plan.pickAll, List.getElem?_cons_zero, List.getElem?_cons_succ, List.getD_eq_getElem?_getD, Option.getD_some]
      refine Plan.wpWay_seg ?_
      repeat go_big_quiet_step (fail)
      refine wpQuiet_nil ?_; refine Plan.wpWay_act ?_
      go_wp2_with (fail)
      refine And.intro ?_ ?_; focus ((iterate 5 (refine Plan.again_cons ?_ ?_; focus (go_big_quiet_step (fail); exact wpQuiet_nil rfl))); exact Plan.again_nil)
      refine Plan.wpWay_last ?_
      repeat go_big_quiet_step (fail)
      refine wpQuiet_nil ?_; refine NoPanic.normal ?_
      go_wp2
      refine bodyPost_ret (v := .tuple #[.agg #[.int .i64 a.1, .bool a.2], .bool true]) (by simp [results, Tryz.results10, go_sem, r0, r1]) rfl ⟨ret_ok (HOK.out.symm), HB9.out.drew.fin _ _⟩
     ·have e1 : decide (a.1 > 1) = false := decide_eq_false q3
      have HOK := Lib.hid (show ok = false by rw [HOK.out, q2]; simp [q3])
      clear q1 q2
      go_wp2_with fail
      obtain ⟨w9, hw9⟩ : ∃ w9, w9 = wr.alloc (.cells #[.int .i64 a.1, .bool a.2] 23) := ⟨_, rfl⟩
      have HT := Lib.hid (show w9.heap[wr.heap.size]? = some (.cells #[.int .i64 a.1, .bool a.2] 23) by rw [hw9]; exact blk_new _)
      have l0 : w9.cell? ⟨g, 0, none⟩ = some (.int .i64 a.1) := by rw [hw9]; exact frm_cell (frm_alloc _ _) l0
      have l1 : w9.cell? ⟨g, 1, none⟩ = some (.bool a.2) := by rw [hw9]; exact frm_cell (frm_alloc _ _) l1
      rw [← hw9] at HB9 ⊢
      clear hw9 r0 r1 z0 z1 q0 q1 a0 a1 a2
      have t0 : w9.cell? ⟨wr.heap.size, 0, none⟩ = some (.int .i64 a.1) := blk_cell HT.out 0
      have t1 : w9.cell? ⟨wr.heap.size, 1, none⟩ = some (.bool a.2) := blk_cell HT.out 1
      have a0 : w9.cell? ⟨w.heap.size, 0, none⟩ = some (.string op) := blk_cell HB9.out.box 0
      have a1 : w9.cell? ⟨w.heap.size, 1, none⟩ = some (.int .i64 t.1) := blk_cell HB9.out.box 1
      have a2 : w9.cell? ⟨w.heap.size, 2, none⟩ = some (.bool t.2) := blk_cell HB9.out.box 2
      have r0 := blk_cell HB9.out.res 0
      have r1 := blk_cell HB9.out.res 1
      have z0 := blk_free HB9.out.res 0
      have z1 := blk_free HB9.out.res 1
      have q0 := blk_cell HB9.out.non 0
      have q1 := blk_cell HB9.out.non 1
      go_wp2_with fail
      refine Plan.wp_region_plan [0, 0, 2, 6, 14, 30, 62, 126, 254, 510, 1022, 2046, 4094, 8190, 16382, 32766, 65534, 131070, 262142, 524286, 1048574, 2097150, 4194302, 8388606, 524287, 33554431] [.mk [0, 1, 2, 3, 4, 5, 6, 7, 8, 9, 10, 11, 12, 13, 14, 15, 16, 17, 18, 19, 20, 21, 22, 23] 24 [19, 20, 21, 22, 23]] [25] (by kernel_rfl) (by kernel_rfl) ?_
      simp only [Plan.wayOf, Plan.pickAll, List.getElem?_cons_zero, List.getElem?_cons_succ, List.getD_eq_getElem?_getD, Option.getD_some]
      refine Plan.wpWay_seg ?_
      repeat go_big_quiet_step (fail)
      refine wpQuiet_nil ?_; refine Plan.wpWay_act ?_
      go_wp2_with (fail)
      refine And.intro ?_ ?_; focus ((iterate 5 (refine Plan.again_cons ?_ ?_; focus (go_big_quiet_step (fail); exact wpQuiet_nil rfl))); exact Plan.again_nil)
      refine Plan.wpWay_last ?_
      repeat go_big_quiet_step (fail)
      refine wpQuiet_nil ?_; refine NoPanic.normal ?_
      go_wp2
      refine bodyPost_ret (v := .tuple #[.agg #[.int .i64 a.1, .bool a.2], .bool false]) (by simp [results, Tryz.results10, go_sem, r0, r1]) rfl ⟨ret_ok (HOK.out.symm), HB9.out.drew.fin _ _⟩
    ·have d5 : (op.toList == [117, 45]) = false := by rw [eqS]; exact decide_eq_false q2
     by_cases q4 : op = sUTil
     ·have d6 : (op.toList == [117, 126]) = true := by rw [eqS]; exact decide_eq_true q4
      by_cases q3 : 1 < a.1
      ·have e1 : decide (a.1 > 1) = true := decide_eq_true q3
       have HOK := Lib.hid (show ok = true by rw [HOK.out]; simp [q4, q3])
       clear q1 q2 q4
       go_wp2_with fail
       obtain ⟨w9, hw9⟩ : ∃ w9, w9 = wr.alloc (.cells #[.int .i64 a.1, .bool a.2] 23) := ⟨_, rfl⟩
       have HT := Lib.hid (show w9.heap[wr.heap.size]? = some (.cells #[.int .i64 a.1, .bool a.2] 23) by rw [hw9]; exact blk_new _)
       have l0 : w9.cell? ⟨g, 0, none⟩ = some (.int .i64 a.1) := by rw [hw9]; exact frm_cell (frm_alloc _ _) l0
       have l1 : w9.cell? ⟨g, 1, none⟩ = some (.bool a.2) := by rw [hw9]; exact frm_cell (frm_alloc _ _) l1
       rw [← hw9] at HB9 ⊢
       clear hw9 r0 r1 z0 z1 q0 q1 a0 a1 a2
       have t0 : w9.cell? ⟨wr.heap.size, 0, none⟩ = some (.int .i64 a.1) := blk_cell HT.out 0
       have t1 : w9.cell? ⟨wr.heap.size, 1, none⟩ = some (.bool a.2) := blk_cell HT.out 1
       have a0 : w9.cell? ⟨w.heap.size, 0, none⟩ = some (.string op) := blk_cell HB9.out.box 0
       have a1 : w9.cell? ⟨w.heap.size, 1, none⟩ = some (.int .i64 t.1) := blk_cell HB9.out.box 1
       have a2 : w9.cell? ⟨w.heap.size, 2, none⟩ = some (.bool t.2) := blk_cell HB9.out.box 2
       have r0 := blk_cell HB9.out.res 0
       have r1 := blk_cell HB9.out.res 1
       have z0 := blk_free HB9.out.res 0
       have z1 := blk_free HB9.out.res 1
       have q0 := blk_cell HB9.out.non 0
       have q1 := blk_cell HB9.out.non 1
       go_wp2_with fail
       refine Plan.wp_region_plan [0, 0, 2, 6, 14, 30, 62, 126, 254, 510, 1022, 2046, 4094, 8190, 16382, 32766, 65534, 131070, 262142, 524286, 1048574, 2097150, 4194302, 8388606, 524287, 33554431] [.mk [0, 1, 2, 3, 4, 5, 6, 7, 8, 9, 10, 11, 12, 13, 14, 15, 16, 17, 18, 19, 20, 21, 22, 23] 24 [19, 20, 21, 22, 23]] [25] (by kernel_rfl) (by kernel_rfl) ?_
       simp only [Plan.wayOf, Plan.pickAll, List.getElem?_cons_zero, List.getElem?_cons_succ, List.getD_eq_getElem?_getD, Option.getD_some]
       refine Plan.wpWay_seg ?_
       repeat go_big_quiet_step (fail)
       refine wpQuiet_nil ?_; refine Plan.wpWay_act ?_
       go_wp2_with (fail)
       refine And.intro ?_ ?_; focus ((iterate 5 (refine Plan.again_cons ?_ ?_; focus (go_big_quiet_step (fail); exact wpQuiet_nil rfl))); exact Plan.again_nil)
       refine Plan.wpWay_last ?_
       repeat go_big_quiet_step (fail)
       refine wpQuiet_nil ?_; refine NoPanic.normal ?_
       go_wp2
       refine bodyPost_ret (v := .tuple #[.agg #[.int .i64 a.1, .bool a.2], .bool true]) (by simp [results, Tryz.results10, go_sem, r0, r1]) rfl ⟨ret_ok (HOK.out.symm), HB9.out.drew.fin _ _⟩
      ·have e1 : decide (a.1 > 1) = false := decide_eq_false q3
       have HOK := Lib.hid (show ok = false by rw [HOK.out, q4]; simp [q3])
       clear q1 q2 q4
       go_wp2_with fail
       obtain ⟨w9, hw9⟩ : ∃ w9, w9 = wr.alloc (.cells #[.int .i64 a.1, .bool a.2] 23) := ⟨_, rfl⟩
       have HT := Lib.hid (show w9.heap[wr.heap.size]? = some (.cells #[.int .i64 a.1, .bool a.2] 23) by rw [hw9]; exact blk_new _)
       have l0 : w9.cell? ⟨g, 0, none⟩ = some (.int .i64 a.1) := by rw [hw9]; exact frm_cell (frm_alloc _ _) l0
       have l1 : w9.cell? ⟨g, 1, none⟩ = some (.bool a.2) := by rw [hw9]; exact frm_cell (frm_alloc _ _) l1
       rw [← hw9] at HB9 ⊢
       clear hw9 r0 r1 z0 z1 q0 q1 a0 a1 a2
       have t0 : w9.cell? ⟨wr.heap.size, 0, none⟩ = some (.int .i64 a.1) := blk_cell HT.out 0
       have t1 : w9.cell? ⟨wr.heap.size, 1, none⟩ = some (.bool a.2) := blk_cell HT.out 1
       have a0 : w9.cell? ⟨w.heap.size, 0, none⟩ = some (.string op) := blk_cell HB9.out.box 0
       have a1 : w9.cell? ⟨w.heap.size, 1, none⟩ = some (.int .i64 t.1) := blk_cell HB9.out.box 1
       have a2 : w9.cell? ⟨w.heap.size, 2, none⟩ = some (.bool t.2) := blk_cell HB9.out.box 2
       have r0 := blk_cell HB9.out.res 0
       have r1 := blk_cell HB9.out.res 1
       have z0 := blk_free HB9.out.res 0
       have z1 := blk_free HB9.out.res 1
       have q0 := blk_cell HB9.out.non 0
       have q1 := blk_cell HB9.out.non 1
       go_wp2_with fail
       refine Plan.wp_region_plan [0, 0, 2, 6, 14, 30, 62, 126, 254, 510, 1022, 2046, 4094, 8190, 16382, 32766, 65534, 131070, 262142, 524286, 1048574, 2097150, 4194302, 8388606, 524287, 33554431] [.mk [0, 1, 2, 3, 4, 5, 6, 7, 8, 9, 10, 11, 12, 13, 14, 15, 16, 17, 18, 19, 20, 21, 22, 23] 24 [19, 20, 21, 22, 23]] [25] (by kernel_rfl) (by kernel_rfl) ?_
       simp only [Plan.wayOf, Plan.pickAll, List.getElem?_cons_zero, List.getElem?_cons_succ, List.getD_eq_getElem?_getD, Option.getD_some]
       refine Plan.wpWay_seg ?_
       repeat go_big_quiet_step (fail)
       refine wpQuiet_nil ?_; refine Plan.wpWay_act ?_
       go_wp2_with (fail)
       refine And.intro ?_ ?_; focus ((iterate 5 (refine Plan.again_cons ?_ ?_; focus (go_big_quiet_step (fail); exact wpQuiet_nil rfl))); exact Plan.again_nil)
       refine Plan.wpWay_last ?_
       repeat go_big_quiet_step (fail)
       refine wpQuiet_nil ?_; refine NoPanic.normal ?_
       go_wp2
       refine bodyPost_ret (v := .tuple #[.agg #[.int .i64 a.1, .bool a.2], .bool false]) (by simp [results, Tryz.results10, go_sem, r0, r1]) rfl ⟨ret_ok (HOK.out.symm), HB9.out.drew.fin _ _⟩
     ·have d6 : (op.toList == [117, 126]) = false := by rw [eqS]; exact decide_eq_false q4
      have HOK := Lib.hid (show ok = false by rw [HOK.out]; simp [q1, q2, q4])
      clear q1 q2 q4
      go_wp2_with fail
      obtain ⟨w9, hw9⟩ : ∃ w9, w9 = wr.alloc (.cells #[.int .i64 a.1, .bool a.2] 23) := ⟨_, rfl⟩
      have HT := Lib.hid (show w9.heap[wr.heap.size]? = some (.cells #[.int .i64 a.1, .bool a.2] 23) by rw [hw9]; exact blk_new _)
      have l0 : w9.cell? ⟨g, 0, none⟩ = some (.int .i64 a.1) := by rw [hw9]; exact frm_cell (frm_alloc _ _) l0
      have l1 : w9.cell? ⟨g, 1, none⟩ = some (.bool a.2) := by rw [hw9]; exact frm_cell (frm_alloc _ _) l1
      rw [← hw9] at HB9 ⊢
      clear hw9 r0 r1 z0 z1 q0 q1 a0 a1 a2
      have t0 : w9.cell? ⟨wr.heap.size, 0, none⟩ = some (.int .i64 a.1) := blk_cell HT.out 0
      have t1 : w9.cell? ⟨wr.heap.size, 1, none⟩ = some (.bool a.2) := blk_cell HT.out 1
      have a0 : w9.cell? ⟨w.heap.size, 0, none⟩ = some (.string op) := blk_cell HB9.out.box 0
      have a1 : w9.cell? ⟨w.heap.size, 1, none⟩ = some (.int .i64 t.1) := blk_cell HB9.out.box 1
      have a2 : w9.cell? ⟨w.heap.size, 2, none⟩ = some (.bool t.2) := blk_cell HB9.out.box 2
      have r0 := blk_cell HB9.out.res 0
      have r1 := blk_cell HB9.out.res 1
      have z0 := blk_free HB9.out.res 0
      have z1 := blk_free HB9.out.res 1
      have q0 := blk_cell HB9.out.non 0
      have q1 := blk_cell HB9.out.non 1
      go_wp2_with fail
      refine Plan.wp_region_plan [0, 0, 2, 6, 14, 30, 62, 126, 254, 510, 1022, 2046, 4094, 8190, 16382, 32766, 65534, 131070, 262142, 524286, 1048574, 2097150, 4194302, 8388606, 524287, 33554431] [.mk [0, 1, 2, 3, 4, 5, 6, 7, 8, 9, 10, 11, 12, 13, 14, 15, 16, 17, 18, 19, 20, 21, 22, 23] 24 [19, 20, 21, 22, 23]] [25] (by kernel_rfl) (by kernel_rfl) ?_
      simp only [Plan.wayOf, Plan.pickAll, List.getElem?_cons_zero, List.getElem?_cons_succ, List.getD_eq_getElem?_getD, Option.getD_some]
      refine Plan.wpWay_seg ?_
      repeat go_big_quiet_step (fail)
      refine wpQuiet_nil ?_; refine Plan.wpWay_act ?_
      go_wp2_with (fail)
      refine And.intro ?_ ?_; focus ((iterate 5 (refine Plan.again_cons ?_ ?_; focus (go_big_quiet_step (fail); exact wpQuiet_nil rfl))); exact Plan.again_nil)
      refine Plan.wpWay_last ?_
      repeat go_big_quiet_step (fail)
      refine wpQuiet_nil ?_; refine NoPanic.normal ?_
      go_wp2
      refine bodyPost_ret (v := .tuple #[.agg #[.int .i64 a.1, .bool a.2], .bool false]) (by simp [results, Tryz.results10, go_sem, r0, r1]) rfl ⟨ret_ok (HOK.out.symm), HB9.out.drew.fin _ _⟩
end RfW
end Go.Proofs.YtbbajekecppioaaGreatDoor
