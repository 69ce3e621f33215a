/- The document's type of a tree, walked: two kids. -/
import Derived.Test.YtbbajekecppioaaGreatDoorGa34
set_option linter.unusedSimpArgs false
set_option linter.unusedVariables false
namespace Go.Proofs.YtbbajekecppioaaGreatDoor
open Go.RowKit Go.Mem Go.Wd Go.Tp
namespace RfW
open TmW (frm_alloc frm_then Box wrap_nat64 frm_cellD frm_cell negE eqS countX countL typeX kindsX typeK evalX evalL evalK lastX noTy vtype is64 sNum sVar sCast sIte sUNot sUNeg sUTil sLand sLor)
theorem Test_calls (w : World) (t : Ty) (op : ByteArray) (a b : Nat) (ha : a < 2 ^ 64) (hb : b < 2 ^ 64) :
  Calls Tryz.prog 25 #[.agg #[.int .i64 t.1, .bool t.2], .string op, .int .u64 a, .int .u64 b] w fun e w' => e = .returned (.tuple #[.bool (testF t op a b).1, .int .i64 (testF t op a b).2]) ∧ Frm (fun _ => False) w w' := by
 rw [← test_eq]
 unfold testR
 by_cases h : rightF t = true
 ·rw [if_pos h]
  by_cases h1 : op = sEq ∨ op = sNe
  ·rw [if_pos h1]; exact test_same h w op a b ha hb h1
  ·rw [if_neg h1]
   by_cases h2 : t.1 = 1 ∨ (op ≠ sLt ∧ op ≠ sLe ∧ op ≠ sGt ∧ op ≠ sGe)
   ·rw [if_pos h2]; exact test_none h w op a b ha hb h1 h2
   ·rw [if_neg h2]
    have hw : t.1 ≠ 1 := fun e => h2 (.inl e)
    have ho : op = sLt ∨ op = sLe ∨ op = sGt ∨ op = sGe := by
     by_cases e1 : op = sLt
     ·exact .inl e1
     ·by_cases e2 : op = sLe
      ·exact .inr (.inl e2)
      ·by_cases e3 : op = sGt
       ·exact .inr (.inr (.inl e3))
       ·by_cases e4 : op = sGe
        ·exact .inr (.inr (.inr e4))
        ·exact absurd (.inr ⟨e1, e2, e3, e4⟩) h2
    have := test_less h hw w op a b ha hb ho
    rcases ho with rfl | rfl | rfl | rfl
    ·rw [if_pos rfl]; exact this
    ·rw [if_neg (by decide), if_pos rfl]; exact this
    ·rw [if_neg (by decide), if_neg (by decide), if_pos rfl]; exact this
    ·rw [if_neg (by decide), if_neg (by decide), if_neg (by decide)]; exact this
 ·rw [if_neg h]
  have hr : rightF t = false := by simpa using h
  have hF := Lib.hid (frm_alloc w (.cells #[.int .i64 t.1, .bool t.2] 23))
  have ⟨b0, b1⟩ := (TmW.Box.new w t).cells
  have HR := Lib.hid fun w1 => right_at w1 hr
  clear h hr ha hb
  go_enter Tryz.func25, Tryz.ntmps25
  go_wp2_with fail
  refine (HR.out _).mono ?_
  rintro e w1 ⟨rfl, hf⟩
  have HF1 := Lib.hid (frm_then hF.out hf)
  clear hf
  go_wp2
  go_ret2
  exact ⟨rfl, HF1.out⟩
set_option maxRecDepth 100000 in
set_option maxHeartbeats 2000000 in
theorem type_k2ne {lim : Nat} (w : World) (op : ByteArray) (t : Ty) (num : Nat) (v : Int) (gl : Bool) (ln cl : Int) (A : Option Addr) (c : Nat) (kids : List Tree) (vv : Value) (vs : List Ty) (a b : Ty) (h : Upto w lim vv vs A kids kids.length [a, b]) (n1 : op ≠ sNum) (n2 : op ≠ sVar) (n3 : op ≠ sCast) (hne : a ≠ b) :
  Calls Tryz.prog 10 #[.agg #[.string op, .int .i64 t.1, .bool t.2, .int .u64 num, .int .i64 v, .bool gl, .int .i64 ln, .int .i64 cl, .slice A kids.length c], vv] w (TyPost w (noTy, false)) := by
 have d1 : (op.toList == [110, 117, 109]) = false := by rw [eqS]; exact decide_eq_false n1
 have d2 : (op.toList == [118, 97, 114]) = false := by rw [eqS]; exact decide_eq_false n2
 obtain ⟨i0, hi, hz0, hz1, hz2⟩ := info_parts info_ty
 have HU := Lib.hid h
 obtain ⟨ks, hks⟩ : ∃ ks, ks = [a, b] := ⟨_, rfl⟩
 rw [← hks] at HU
 have HK := Lib.hid hks
 have d3 : (op.toList == [99, 97, 115, 116]) = false := by rw [eqS]; exact decide_eq_false n3
 clear n3
 clear h n1 n2 hks
 go_enter Tryz.func10, Tryz.ntmps10
 go_wp2_with fail
 have H1 := Lib.hid (Bx.new w (.cells #[.string op, .int .i64 t.1, .bool t.2, .int .u64 num, .int .i64 v, .bool gl, .int .i64 ln, .int .i64 cl, .slice A kids.length c] 27))
 obtain ⟨w1, hw1⟩ : ∃ w1, w1 = ((w.alloc (.cells #[.string op, .int .i64 t.1, .bool t.2, .int .u64 num, .int .i64 v, .bool gl, .int .i64 ln, .int .i64 cl, .slice A kids.length c] 27)).alloc (.cells #[.int .i64 0, .bool false] 23)).alloc (.cells #[.int .i64 0, .bool false] 23) := ⟨_, rfl⟩
 have hsz := Lib.hid (show w1.heap.size = w.heap.size + 1 + 1 + 1 by rw [hw1]; simp)
 rw [← hw1] at H1 ⊢
 clear hw1
 have a0 : w1.cell? ⟨w.heap.size, 0, none⟩ = some (.string op) := blk_cell H1.out.box 0
 have a1 : w1.cell? ⟨w.heap.size, 1, none⟩ = some (.int .i64 t.1) := blk_cell H1.out.box 1
 have a2 : w1.cell? ⟨w.heap.size, 2, none⟩ = some (.bool t.2) := blk_cell H1.out.box 2
 have a4 : w1.cell? ⟨w.heap.size, 4, none⟩ = some (.int .i64 v) := blk_cell H1.out.box 4
 have a8 : w1.cell? ⟨w.heap.size, 8, none⟩ = some (.slice A kids.length c) := blk_cell H1.out.box 8
 have H2 := Lib.hid (H1.out.frm0 (frm_alloc w1 (.cells #[] 23)))
 have HR0 := Lib.hid (show SRow (w1.alloc (.cells #[] 23)) 23 encT (.slice (some ⟨w.heap.size + 1 + 1 + 1, 0, none⟩) 0 0) ([] : List Ty) from SRow.empty (blk_new_at _ hsz.out.symm))
 clear a0 a1 a2 a4 a8
 go_wp2_with fail
 go_loopw [7, 8] (fun v7 v8 w' => ∃ k : Nat, k ≤ kids.length ∧ v8 = .int .i64 k ∧ Hid (SRow w' 23 encT v7 (ks.take k)) ∧ Hid (Bx w w' (.cells #[.string op, .int .i64 t.1, .bool t.2, .int .u64 num, .int .i64 v, .bool gl, .int .i64 ln, .int .i64 cl, .slice A kids.length c] 27)) ∧ Hid (∀ g, v7.ownBlock = some g → w.heap.size + 3 ≤ g)) (fun _ v8 _ => kids.length - (intOf v8).toNat)
 case atStart => exact ⟨0, Nat.zero_le _, rfl, HR0, H2, Lib.hid fun g hg => by cases hg; exact Nat.le_refl _⟩
 case round =>
  obtain ⟨k, hk, rfl, HS, HB, HO⟩ := hrel
  have b8 : wr.cell? ⟨w.heap.size, 8, none⟩ = some (.slice A kids.length c) := blk_cell HB.out.box 8
  have hmost := HU.out.most
  by_cases hlt : k < kids.length
  ·have hle := HU.out.le
   have hltI : (k : Int) < (kids.length : Int) := by omega
   obtain ⟨x, hx⟩ : ∃ x, kids[k]? = some x := ⟨_, List.getElem?_eq_getElem (by omega)⟩
   obtain ⟨hx1, hx2⟩ := HU.out.typ k x hlt hx
   obtain ⟨g, o, rfl, hT⟩ := (HU.out.mem.frm0 HB.out.frm).get hx
   rw [Nat.zero_add] at hT
   obtain ⟨a0, a1, a2, a3, a4, a5, a6, a7, a8, hV, c0, c1, c2, c3, c4, c5, c6, c7, c8⟩ := hT.load
   have HC := Lib.hid (HU.out.call k x hx wr _ hV (HU.out.vars.frm0 HB.out.frm))
   have htk := Lib.hid (show ks.take (k + 1) = ks.take k ++ [(typeX vs x).1] by rw [List.take_add_one, hx2]; rfl)
   have hl7 := Lib.hid (show (ks.take k).length ≤ 4194304 by rw [List.length_take]; omega)
   obtain ⟨ys, hys⟩ : ∃ ys, ys = ks.take k := ⟨_, rfl⟩
   rw [← hys] at HS htk hl7
   have HY := Lib.hid hys
   clear hys
   rcases HS.out.slice with ⟨RA, RC, rfl, _⟩
   obtain ⟨u, hu⟩ : ∃ u, typeX vs x = (u, true) := ⟨(typeX vs x).1, Prod.ext rfl hx1⟩
   rw [hu] at HC htk
   clear hT hV hx hx1 hx2 hu
   go_wp2_with fail
   refine HC.out.mono ?_
   rintro e w2 ⟨rfl, hf⟩
   have HB2 := Lib.hid (HB.out.frm0 hf)
   have HS2 := Lib.hid (HS.out.frm0 hf)
   clear hf
   go_wp2_with (at_builtin; refine wpList_append_srow rfl _ _ 28 rfl 23 i0 (.agg #[.int .i64 0, .bool false]) 16 Tryz.underlying28 hi hz0 hz1 hz2 rfl (by decide) (E := encT) (.slice RA ys.length RC) ys rfl (HS2.out.frm0 ((frm_alloc w2 (.cells #[.int .i64 u.1, .bool u.2] 23)).alloc (.cells #[.int .i64 u.1, .bool u.2] 23))) ⟨w2.heap.size + 1, 0, none⟩ 1 u rfl ?c1 ?c2 ?c3 ?_)
   case c1 =>
    intro i u' hu'
    have e : (⟨w2.heap.size + 1, 0, none⟩ : Addr).add i = ⟨w2.heap.size + 1, i, none⟩ := by unfold Addr.add; split <;> simp_all
    rw [e, blk_cell (blk_new_at (w := w2.alloc (.cells #[.int .i64 u.1, .bool u.2] 23)) (n := w2.heap.size + 1) (.cells #[.int .i64 u.1, .bool u.2] 23) (by simp))]
    simpa [encT] using hu'
   case c2 => have := hl7.out; have : maxLen = 9223372036854775807 := rfl; omega
   case c3 => have := hl7.out; omega
   intro g' cap' w7 hrow hfr hg hlt7
   have HS7 := Lib.hid (show SRow w7 23 encT (.slice (some ⟨g', 0, none⟩) (ys.length + 1) cap') (ks.take (k + 1)) by rw [htk.out]; exact hrow)
   have hB3 := HB2.out.frm0 ((frm_alloc w2 (.cells #[.int .i64 u.1, .bool u.2] 23)).alloc (.cells #[.int .i64 u.1, .bool u.2] 23))
   have HB7 := Lib.hid (hB3.grow hfr fun b hb => HO.out b hb)
   have HO7 := Lib.hid (show w.heap.size + 3 ≤ g' by rcases hg with h | h; exact HO.out g' h; rw [h]; have := HB2.out.size3; simp; omega)
   clear hrow hfr hg hB3
   go_wp2
   go_roundw
   case rel => exact ⟨k + 1, by omega, by first | rfl | go_num, HS7, HB7, Lib.hid fun g'' hg'' => by cases hg''; exact HO7.out⟩
   case measure => simp [intOf]; omega
  ·obtain rfl : k = kids.length := by omega
   have hle := HU.out.le
   rw [List.take_of_length_le (Nat.le_of_eq HU.out.len)] at HS
   have hltI : ¬ (kids.length : Int) < (kids.length : Int) := by omega
   have a0 : wr.cell? ⟨w.heap.size, 0, none⟩ = some (.string op) := blk_cell HB.out.box 0
   have a1 : wr.cell? ⟨w.heap.size, 1, none⟩ = some (.int .i64 t.1) := blk_cell HB.out.box 1
   have a2 : wr.cell? ⟨w.heap.size, 2, none⟩ = some (.bool t.2) := blk_cell HB.out.box 2
   have r0 := blk_cell HB.out.res 0
   have r1 := blk_cell HB.out.res 1
   have z0 := blk_free HB.out.res 0
   have z1 := blk_free HB.out.res 1
   have q0 := blk_cell HB.out.non 0
   have q1 := blk_cell HB.out.non 1
   have hs0 : w.heap.size < wr.heap.size := by have := HB.out.size3; omega
   have hs1 : w.heap.size + 1 < wr.heap.size := by have := HB.out.size3; omega
   have hs2 : w.heap.size + 1 + 1 < wr.heap.size := by have := HB.out.size3; omega
   clear hlt hle hk
   have hSb : SRow wr 23 encT u7 [a, b] := by rw [← HK.out]; exact HS.out
   obtain ⟨RA, RC, rfl, hcell⟩ := hSb.slice
   obtain ⟨g, rfl, _, hcg⟩ := hcell 0 _ rfl
   have l0 : wr.cell? ⟨g, 0, none⟩ = some (.int .i64 a.1) := by simpa using hcg 0 _ rfl
   have l1 : wr.cell? ⟨g, 1, none⟩ = some (.bool a.2) := by simpa using hcg 1 _ rfl
   have lg : g < wr.heap.size := World.block_lt_of_cell? _ _ l0
   obtain ⟨g', e, _, hc1⟩ := hcell 1 _ rfl
   cases e
   have m1 : wr.cell? ⟨g, 2, none⟩ = some (.int .i64 b.1) := by simpa using hc1 0 _ rfl
   have p1 : wr.cell? ⟨g, 3, none⟩ = some (.bool b.2) := by simpa using hc1 1 _ rfl
   clear hc1
   clear hcg hcell hSb
   have HB9 := Lib.hid (HB.out.frm0 (frm_alloc wr (.cells #[.int .i64 b.1, .bool b.2] 23)))
   go_wp2_with fail
   obtain ⟨w9, hw9⟩ : ∃ w9, w9 = wr.alloc (.cells #[.int .i64 b.1, .bool b.2] 23) := ⟨_, rfl⟩
   have HT := Lib.hid (show w9.heap[wr.heap.size]? = some (.cells #[.int .i64 b.1, .bool b.2] 23) by rw [hw9]; exact blk_new _)
   have l0 : w9.cell? ⟨g, 0, none⟩ = some (.int .i64 a.1) := by rw [hw9]; exact frm_cell (frm_alloc _ _) l0
   have l1 : w9.cell? ⟨g, 1, none⟩ = some (.bool a.2) := by rw [hw9]; exact frm_cell (frm_alloc _ _) l1
   have m1 : w9.cell? ⟨g, 2, none⟩ = some (.int .i64 b.1) := by rw [hw9]; exact frm_cell (frm_alloc _ _) m1
   have p1 : w9.cell? ⟨g, 3, none⟩ = some (.bool b.2) := by rw [hw9]; exact frm_cell (frm_alloc _ _) p1
   have hs9 := Lib.hid (show w9.heap.size = wr.heap.size + 1 by rw [hw9]; simp)
   rw [← hw9] at HB9 ⊢
   clear hw9 r0 r1 z0 z1 q0 q1 a0 a1 a2
   have t0 : w9.cell? ⟨wr.heap.size, 0, none⟩ = some (.int .i64 b.1) := blk_cell HT.out 0
   have t1 : w9.cell? ⟨wr.heap.size, 1, none⟩ = some (.bool b.2) := blk_cell HT.out 1
   have a0 : w9.cell? ⟨w.heap.size, 0, none⟩ = some (.string op) := blk_cell HB9.out.box 0
   have a1 : w9.cell? ⟨w.heap.size, 1, none⟩ = some (.int .i64 t.1) := blk_cell HB9.out.box 1
   have a2 : w9.cell? ⟨w.heap.size, 2, none⟩ = some (.bool t.2) := blk_cell HB9.out.box 2
   have r0 := blk_cell HB9.out.res 0
   have r1 := blk_cell HB9.out.res 1
   have z0 := blk_free HB9.out.res 0
   have z1 := blk_free HB9.out.res 1
   have q0 := blk_cell HB9.out.non 0
   have q1 := blk_cell HB9.out.non 1
   go_wp2_with fail
   obtain ⟨w10, hw10⟩ : ∃ w10, w10 = w9.alloc (.cells #[.int .i64 1, .bool false] 23) := ⟨_, rfl⟩
   have HB10 := Lib.hid (show Bx w w10 (.cells #[.string op, .int .i64 t.1, .bool t.2, .int .u64 num, .int .i64 v, .bool gl, .int .i64 ln, .int .i64 cl, .slice A kids.length c] 27) by rw [hw10]; exact HB9.out.frm0 (frm_alloc _ _))
   have s0 : w10.cell? ⟨wr.heap.size + 1, 0, none⟩ = some (.int .i64 1) := by rw [hw10]; exact blk_cell (blk_new_at _ hs9.out.symm) 0
   have s1 : w10.cell? ⟨wr.heap.size + 1, 1, none⟩ = some (.bool false) := by rw [hw10]; exact blk_cell (blk_new_at _ hs9.out.symm) 1
   have l0 : w10.cell? ⟨g, 0, none⟩ = some (.int .i64 a.1) := by rw [hw10]; exact frm_cell (frm_alloc _ _) l0
   have l1 : w10.cell? ⟨g, 1, none⟩ = some (.bool a.2) := by rw [hw10]; exact frm_cell (frm_alloc _ _) l1
   have t0 : w10.cell? ⟨wr.heap.size, 0, none⟩ = some (.int .i64 b.1) := by rw [hw10]; exact frm_cell (frm_alloc _ _) t0
   have t1 : w10.cell? ⟨wr.heap.size, 1, none⟩ = some (.bool b.2) := by rw [hw10]; exact frm_cell (frm_alloc _ _) t1
   rw [← hw10]
   clear hw10 r0 r1 z0 z1 q0 q1 a0 a1 a2 m1 p1
   have a0 : w10.cell? ⟨w.heap.size, 0, none⟩ = some (.string op) := blk_cell HB10.out.box 0
   have r0 := blk_cell HB10.out.res 0
   have r1 := blk_cell HB10.out.res 1
   have z0 := blk_free HB10.out.res 0
   have z1 := blk_free HB10.out.res 1
   have q0 := blk_cell HB10.out.non 0
   have q1 := blk_cell HB10.out.non 1
   by_cases q4 : a.1 = b.1
   ·have f1 : (a.1 == b.1) = true := by simp [q4]
    have f2 : (a.2 == b.2) = false := by simp; exact fun e => hne (Prod.ext q4 e)
    clear q4 hne
    go_quiet (fail)
    go_wp2
    refine bodyPost_ret (v := .tuple #[.agg #[.int .i64 0, .bool false], .bool false]) (by simp [results, Tryz.results10, go_sem, r0, r1]) rfl ⟨rfl, ?_⟩
    exact ((HB10.out.frm0 ((Frm.refl _ _).drewN _)).fin _ _)
   ·have f1 : (a.1 == b.1) = false := by simp [q4]
    clear q4 hne
    go_quiet (fail)
    go_wp2
    refine bodyPost_ret (v := .tuple #[.agg #[.int .i64 0, .bool false], .bool false]) (by simp [results, Tryz.results10, go_sem, r0, r1]) rfl ⟨rfl, ?_⟩
    exact ((HB10.out.frm0 ((Frm.refl _ _).drewN _)).fin _ _)
set_option maxRecDepth 100000 in
set_option maxHeartbeats 2000000 in
theorem type_k2log {lim : Nat} (w : World) (op : ByteArray) (t : Ty) (num : Nat) (v : Int) (gl : Bool) (ln cl : Int) (A : Option Addr) (c : Nat) (kids : List Tree) (vv : Value) (vs : List Ty) (b : Ty) (h : Upto w lim vv vs A kids kids.length [b, b]) (n1 : op ≠ sNum) (n2 : op ≠ sVar) (n3 : op ≠ sCast) (ho : op = sLand ∨ op = sLor) (ok : Bool) (hok : ok = decide (b = (1, false))) :
  Calls Tryz.prog 10 #[.agg #[.string op, .int .i64 t.1, .bool t.2, .int .u64 num, .int .i64 v, .bool gl, .int .i64 ln, .int .i64 cl, .slice A kids.length c], vv] w (TyPost w ((1, false), ok)) := by
 have d1 : (op.toList == [110, 117, 109]) = false := by rw [eqS]; exact decide_eq_false n1
 have d2 : (op.toList == [118, 97, 114]) = false := by rw [eqS]; exact decide_eq_false n2
 obtain ⟨i0, hi, hz0, hz1, hz2⟩ := info_parts info_ty
 have HU := Lib.hid h
 obtain ⟨ks, hks⟩ : ∃ ks, ks = [b, b] := ⟨_, rfl⟩
 rw [← hks] at HU
 have HK := Lib.hid hks
 have d3 : (op.toList == [99, 97, 115, 116]) = false := by rw [eqS]; exact decide_eq_false n3
 have HOK := Lib.hid hok
 have hb : b = (1, false) ∨ (b.1 == 1) = false ∨ ((b.1 == 1) = true ∧ b.2 = true) := by
  obtain ⟨x, y⟩ := b
  by_cases hx : x = 1
  ·cases y
   ·exact .inl (by rw [hx])
   ·exact .inr (.inr ⟨by simp [hx], rfl⟩)
  ·exact .inr (.inl (by simp [hx]))
 have hd : (op.toList == [38, 38]) = true ∨ ((op.toList == [38, 38]) = false ∧ (op.toList == [124, 124]) = true) := by
  rcases ho with rfl | rfl
  ·exact .inl (by rw [eqS]; rfl)
  ·exact .inr ⟨by rw [eqS]; rfl, by rw [eqS]; rfl⟩
 clear n3 hok ho
 clear h n1 n2 hks
 go_enter Tryz.func10, Tryz.ntmps10
 go_wp2_with fail
 have H1 := Lib.hid (Bx.new w (.cells #[.string op, .int .i64 t.1, .bool t.2, .int .u64 num, .int .i64 v, .bool gl, .int .i64 ln, .int .i64 cl, .slice A kids.length c] 27))
 obtain ⟨w1, hw1⟩ : ∃ w1, w1 = ((w.alloc (.cells #[.string op, .int .i64 t.1, .bool t.2, .int .u64 num, .int .i64 v, .bool gl, .int .i64 ln, .int .i64 cl, .slice A kids.length c] 27)).alloc (.cells #[.int .i64 0, .bool false] 23)).alloc (.cells #[.int .i64 0, .bool false] 23) := ⟨_, rfl⟩
 have hsz := Lib.hid (show w1.heap.size = w.heap.size + 1 + 1 + 1 by rw [hw1]; simp)
 rw [← hw1] at H1 ⊢
 clear hw1
 have a0 : w1.cell? ⟨w.heap.size, 0, none⟩ = some (.string op) := blk_cell H1.out.box 0
 have a1 : w1.cell? ⟨w.heap.size, 1, none⟩ = some (.int .i64 t.1) := blk_cell H1.out.box 1
 have a2 : w1.cell? ⟨w.heap.size, 2, none⟩ = some (.bool t.2) := blk_cell H1.out.box 2
 have a4 : w1.cell? ⟨w.heap.size, 4, none⟩ = some (.int .i64 v) := blk_cell H1.out.box 4
 have a8 : w1.cell? ⟨w.heap.size, 8, none⟩ = some (.slice A kids.length c) := blk_cell H1.out.box 8
 have H2 := Lib.hid (H1.out.frm0 (frm_alloc w1 (.cells #[] 23)))
 have HR0 := Lib.hid (show SRow (w1.alloc (.cells #[] 23)) 23 encT (.slice (some ⟨w.heap.size + 1 + 1 + 1, 0, none⟩) 0 0) ([] : List Ty) from SRow.empty (blk_new_at _ hsz.out.symm))
 clear a0 a1 a2 a4 a8
 go_wp2_with fail
 go_loopw [7, 8] (fun v7 v8 w' => ∃ k : Nat, k ≤ kids.length ∧ v8 = .int .i64 k ∧ Hid (SRow w' 23 encT v7 (ks.take k)) ∧ Hid (Bx w w' (.cells #[.string op, .int .i64 t.1, .bool t.2, .int .u64 num, .int .i64 v, .bool gl, .int .i64 ln, .int .i64 cl, .slice A kids.length c] 27)) ∧ Hid (∀ g, v7.ownBlock = some g → w.heap.size + 3 ≤ g)) (fun _ v8 _ => kids.length - (intOf v8).toNat)
 case atStart => exact ⟨0, Nat.zero_le _, rfl, HR0, H2, Lib.hid fun g hg => by cases hg; exact Nat.le_refl _⟩
 case round =>
  obtain ⟨k, hk, rfl, HS, HB, HO⟩ := hrel
  have b8 : wr.cell? ⟨w.heap.size, 8, none⟩ = some (.slice A kids.length c) := blk_cell HB.out.box 8
  have hmost := HU.out.most
  by_cases hlt : k < kids.length
  ·have hle := HU.out.le
   have hltI : (k : Int) < (kids.length : Int) := by omega
   obtain ⟨x, hx⟩ : ∃ x, kids[k]? = some x := ⟨_, List.getElem?_eq_getElem (by omega)⟩
   obtain ⟨hx1, hx2⟩ := HU.out.typ k x hlt hx
   obtain ⟨g, o, rfl, hT⟩ := (HU.out.mem.frm0 HB.out.frm).get hx
   rw [Nat.zero_add] at hT
   obtain ⟨a0, a1, a2, a3, a4, a5, a6, a7, a8, hV, c0, c1, c2, c3, c4, c5, c6, c7, c8⟩ := hT.load
   have HC := Lib.hid (HU.out.call k x hx wr _ hV (HU.out.vars.frm0 HB.out.frm))
   have htk := Lib.hid (show ks.take (k + 1) = ks.take k ++ [(typeX vs x).1] by rw [List.take_add_one, hx2]; rfl)
   have hl7 := Lib.hid (show (ks.take k).length ≤ 4194304 by rw [List.length_take]; omega)
   obtain ⟨ys, hys⟩ : ∃ ys, ys = ks.take k := ⟨_, rfl⟩
   rw [← hys] at HS htk hl7
   have HY := Lib.hid hys
   clear hys
   rcases HS.out.slice with ⟨RA, RC, rfl, _⟩
   obtain ⟨u, hu⟩ : ∃ u, typeX vs x = (u, true) := ⟨(typeX vs x).1, Prod.ext rfl hx1⟩
   rw [hu] at HC htk
   clear hT hV hx hx1 hx2 hu
   go_wp2_with fail
   refine HC.out.mono ?_
   rintro e w2 ⟨rfl, hf⟩
   have HB2 := Lib.hid (HB.out.frm0 hf)
   have HS2 := Lib.hid (HS.out.frm0 hf)
   clear hf
   go_wp2_with (at_builtin; refine wpList_append_srow rfl _ _ 28 rfl 23 i0 (.agg #[.int .i64 0, .bool false]) 16 Tryz.underlying28 hi hz0 hz1 hz2 rfl (by decide) (E := encT) (.slice RA ys.length RC) ys rfl (HS2.out.frm0 ((frm_alloc w2 (.cells #[.int .i64 u.1, .bool u.2] 23)).alloc (.cells #[.int .i64 u.1, .bool u.2] 23))) ⟨w2.heap.size + 1, 0, none⟩ 1 u rfl ?c1 ?c2 ?c3 ?_)
   case c1 =>
    intro i u' hu'
    have e : (⟨w2.heap.size + 1, 0, none⟩ : Addr).add i = ⟨w2.heap.size + 1, i, none⟩ := by unfold Addr.add; split <;> simp_all
    rw [e, blk_cell (blk_new_at (w := w2.alloc (.cells #[.int .i64 u.1, .bool u.2] 23)) (n := w2.heap.size + 1) (.cells #[.int .i64 u.1, .bool u.2] 23) (by simp))]
    simpa [encT] using hu'
   case c2 => have := hl7.out; have : maxLen = 9223372036854775807 := rfl; omega
   case c3 => have := hl7.out; omega
   intro g' cap' w7 hrow hfr hg hlt7
   have HS7 := Lib.hid (show SRow w7 23 encT (.slice (some ⟨g', 0, none⟩) (ys.length + 1) cap') (ks.take (k + 1)) by rw [htk.out]; exact hrow)
   have hB3 := HB2.out.frm0 ((frm_alloc w2 (.cells #[.int .i64 u.1, .bool u.2] 23)).alloc (.cells #[.int .i64 u.1, .bool u.2] 23))
   have HB7 := Lib.hid (hB3.grow hfr fun b hb => HO.out b hb)
   have HO7 := Lib.hid (show w.heap.size + 3 ≤ g' by rcases hg with h | h; exact HO.out g' h; rw [h]; have := HB2.out.size3; simp; omega)
   clear hrow hfr hg hB3
   go_wp2
   go_roundw
   case rel => exact ⟨k + 1, by omega, by first | rfl | go_num, HS7, HB7, Lib.hid fun g'' hg'' => by cases hg''; exact HO7.out⟩
   case measure => simp [intOf]; omega
  ·obtain rfl : k = kids.length := by omega
   have hle := HU.out.le
   rw [List.take_of_length_le (Nat.le_of_eq HU.out.len)] at HS
   have hltI : ¬ (kids.length : Int) < (kids.length : Int) := by omega
   have a0 : wr.cell? ⟨w.heap.size, 0, none⟩ = some (.string op) := blk_cell HB.out.box 0
   have a1 : wr.cell? ⟨w.heap.size, 1, none⟩ = some (.int .i64 t.1) := blk_cell HB.out.box 1
   have a2 : wr.cell? ⟨w.heap.size, 2, none⟩ = some (.bool t.2) := blk_cell HB.out.box 2
   have r0 := blk_cell HB.out.res 0
   have r1 := blk_cell HB.out.res 1
   have z0 := blk_free HB.out.res 0
   have z1 := blk_free HB.out.res 1
   have q0 := blk_cell HB.out.non 0
   have q1 := blk_cell HB.out.non 1
   have hs0 : w.heap.size < wr.heap.size := by have := HB.out.size3; omega
   have hs1 : w.heap.size + 1 < wr.heap.size := by have := HB.out.size3; omega
   have hs2 : w.heap.size + 1 + 1 < wr.heap.size := by have := HB.out.size3; omega
   clear hlt hle hk
   have hSb : SRow wr 23 encT u7 [b, b] := by rw [← HK.out]; exact HS.out
   obtain ⟨RA, RC, rfl, hcell⟩ := hSb.slice
   obtain ⟨g, rfl, _, hcg⟩ := hcell 0 _ rfl
   have l0 : wr.cell? ⟨g, 0, none⟩ = some (.int .i64 b.1) := by simpa using hcg 0 _ rfl
   have l1 : wr.cell? ⟨g, 1, none⟩ = some (.bool b.2) := by simpa using hcg 1 _ rfl
   have lg : g < wr.heap.size := World.block_lt_of_cell? _ _ l0
   obtain ⟨g', e, _, hc1⟩ := hcell 1 _ rfl
   cases e
   have m1 : wr.cell? ⟨g, 2, none⟩ = some (.int .i64 b.1) := by simpa using hc1 0 _ rfl
   have p1 : wr.cell? ⟨g, 3, none⟩ = some (.bool b.2) := by simpa using hc1 1 _ rfl
   clear hc1
   clear hcg hcell hSb
   have HB9 := Lib.hid (HB.out.frm0 (frm_alloc wr (.cells #[.int .i64 b.1, .bool b.2] 23)))
   go_wp2_with fail
   obtain ⟨w9, hw9⟩ : ∃ w9, w9 = wr.alloc (.cells #[.int .i64 b.1, .bool b.2] 23) := ⟨_, rfl⟩
   have HT := Lib.hid (show w9.heap[wr.heap.size]? = some (.cells #[.int .i64 b.1, .bool b.2] 23) by rw [hw9]; exact blk_new _)
   have l0 : w9.cell? ⟨g, 0, none⟩ = some (.int .i64 b.1) := by rw [hw9]; exact frm_cell (frm_alloc _ _) l0
   have l1 : w9.cell? ⟨g, 1, none⟩ = some (.bool b.2) := by rw [hw9]; exact frm_cell (frm_alloc _ _) l1
   have m1 : w9.cell? ⟨g, 2, none⟩ = some (.int .i64 b.1) := by rw [hw9]; exact frm_cell (frm_alloc _ _) m1
   have p1 : w9.cell? ⟨g, 3, none⟩ = some (.bool b.2) := by rw [hw9]; exact frm_cell (frm_alloc _ _) p1
   have hs9 := Lib.hid (show w9.heap.size = wr.heap.size + 1 by rw [hw9]; simp)
   rw [← hw9] at HB9 ⊢
   clear hw9 r0 r1 z0 z1 q0 q1 a0 a1 a2
   have t0 : w9.cell? ⟨wr.heap.size, 0, none⟩ = some (.int .i64 b.1) := blk_cell HT.out 0
   have t1 : w9.cell? ⟨wr.heap.size, 1, none⟩ = some (.bool b.2) := blk_cell HT.out 1
   have a0 : w9.cell? ⟨w.heap.size, 0, none⟩ = some (.string op) := blk_cell HB9.out.box 0
   have a1 : w9.cell? ⟨w.heap.size, 1, none⟩ = some (.int .i64 t.1) := blk_cell HB9.out.box 1
   have a2 : w9.cell? ⟨w.heap.size, 2, none⟩ = some (.bool t.2) := blk_cell HB9.out.box 2
   have r0 := blk_cell HB9.out.res 0
   have r1 := blk_cell HB9.out.res 1
   have z0 := blk_free HB9.out.res 0
   have z1 := blk_free HB9.out.res 1
   have q0 := blk_cell HB9.out.non 0
   have q1 := blk_cell HB9.out.non 1
   go_wp2_with fail
   obtain ⟨w10, hw10⟩ : ∃ w10, w10 = w9.alloc (.cells #[.int .i64 1, .bool false] 23) := ⟨_, rfl⟩
   have HB10 := Lib.hid (show Bx w w10 (.cells #[.string op, .int .i64 t.1, .bool t.2, .int .u64 num, .int .i64 v, .bool gl, .int .i64 ln, .int .i64 cl, .slice A kids.length c] 27) by rw [hw10]; exact HB9.out.frm0 (frm_alloc _ _))
   have s0 : w10.cell? ⟨wr.heap.size + 1, 0, none⟩ = some (.int .i64 1) := by rw [hw10]; exact blk_cell (blk_new_at _ hs9.out.symm) 0
   have s1 : w10.cell? ⟨wr.heap.size + 1, 1, none⟩ = some (.bool false) := by rw [hw10]; exact blk_cell (blk_new_at _ hs9.out.symm) 1
   have l0 : w10.cell? ⟨g, 0, none⟩ = some (.int .i64 b.1) := by rw [hw10]; exact frm_cell (frm_alloc _ _) l0
   have l1 : w10.cell? ⟨g, 1, none⟩ = some (.bool b.2) := by rw [hw10]; exact frm_cell (frm_alloc _ _) l1
   have t0 : w10.cell? ⟨wr.heap.size, 0, none⟩ = some (.int .i64 b.1) := by rw [hw10]; exact frm_cell (frm_alloc _ _) t0
   have t1 : w10.cell? ⟨wr.heap.size, 1, none⟩ = some (.bool b.2) := by rw [hw10]; exact frm_cell (frm_alloc _ _) t1
   rw [← hw10]
   clear hw10 r0 r1 z0 z1 q0 q1 a0 a1 a2 m1 p1
   have a0 : w10.cell? ⟨w.heap.size, 0, none⟩ = some (.string op) := blk_cell HB10.out.box 0
   have r0 := blk_cell HB10.out.res 0
   have r1 := blk_cell HB10.out.res 1
   have z0 := blk_free HB10.out.res 0
   have z1 := blk_free HB10.out.res 1
   have q0 := blk_cell HB10.out.non 0
   have q1 := blk_cell HB10.out.non 1
   go_quiet (fail)
   obtain ⟨w11, hw11⟩ : ∃ w11, w11 = w10.drewN nq := ⟨_, rfl⟩
   rw [← hw11]
   have hf11 : Frm (fun _ => False) w10 w11 := by rw [hw11]; exact (Frm.refl _ _).drewN _
   have HB11 := Lib.hid (HB10.out.frm0 hf11)
   have t0 := frm_cell hf11 t0
   have t1 := frm_cell hf11 t1
   have s0 := frm_cell hf11 s0
   have s1 := frm_cell hf11 s1
   clear hw11 hf11 r0 r1 z0 z1 q0 q1 a0 l0 l1
   have a0 : w11.cell? ⟨w.heap.size, 0, none⟩ = some (.string op) := blk_cell HB11.out.box 0
   have r0 := blk_cell HB11.out.res 0
   have r1 := blk_cell HB11.out.res 1
   have z0 := blk_free HB11.out.res 0
   have z1 := blk_free HB11.out.res 1
   have q0 := blk_cell HB11.out.non 0
   have q1 := blk_cell HB11.out.non 1
   rcases hb with hb | hb | ⟨hb, hb2⟩
   ·have hok : ok = true := by rw [HOK.out, hb]; rfl
    subst hb
    rcases hd with hd | ⟨hd, hd2⟩
    ·skip
     go_wp2_with fail
     refine Plan.wp_region_plan [0, 0, 0, 6, 1, 31] [.mk [0, 1, 2, 3] 4 [1, 2, 3]] [5] (by kernel_rfl) (by kernel_rfl) ?_
     simp only [Plan.wayOf, Plan.pickAll, List.getElem?_cons_zero, List.getElem?_cons_succ, List.getD_eq_getElem?_getD, Option.getD_some]
     refine Plan.wpWay_seg ?_
     repeat go_big_quiet_step (fail)
     refine wpQuiet_nil ?_; refine Plan.wpWay_act ?_
     go_wp2_with (fail)
     refine And.intro ?_ ?_; focus ((iterate 3 (refine Plan.again_cons ?_ ?_; focus (go_big_quiet_step (fail); exact wpQuiet_nil rfl))); exact Plan.again_nil)
     refine Plan.wpWay_last ?_
     repeat go_big_quiet_step (fail)
     refine wpQuiet_nil ?_; refine NoPanic.normal ?_
     go_wp2
     refine bodyPost_ret (v := .tuple #[.agg #[.int .i64 1, .bool false], .bool true]) (by simp [results, Tryz.results10, go_sem, r0, r1]) rfl ⟨by rw [hok], HB11.out.drew.fin _ _⟩
    ·skip
     go_wp2_with fail
     refine Plan.wp_region_plan [0, 0, 0, 6, 1, 31] [.mk [0, 1, 2, 3] 4 [1, 2, 3]] [5] (by kernel_rfl) (by kernel_rfl) ?_
     simp only [Plan.wayOf, Plan.pickAll, List.getElem?_cons_zero, List.getElem?_cons_succ, List.getD_eq_getElem?_getD, Option.getD_some]
     refine Plan.wpWay_seg ?_
     repeat go_big_quiet_step (fail)
     refine wpQuiet_nil ?_; refine Plan.wpWay_act ?_
     go_wp2_with (fail)
     refine And.intro ?_ ?_; focus ((iterate 3 (refine Plan.again_cons ?_ ?_; focus (go_big_quiet_step (fail); exact wpQuiet_nil rfl))); exact Plan.again_nil)
     refine Plan.wpWay_last ?_
     repeat go_big_quiet_step (fail)
     refine wpQuiet_nil ?_; refine NoPanic.normal ?_
     go_wp2
     refine bodyPost_ret (v := .tuple #[.agg #[.int .i64 1, .bool false], .bool true]) (by simp [results, Tryz.results10, go_sem, r0, r1]) rfl ⟨by rw [hok], HB11.out.drew.fin _ _⟩
   ·have hok : ok = false := by rw [HOK.out]; exact decide_eq_false (by rintro rfl; simp at hb)
    rcases hd with hd | ⟨hd, hd2⟩
    ·skip
     go_wp2_with fail
     refine Plan.wp_region_plan [0, 0, 0, 6, 1, 31] [.mk [0, 1, 2, 3] 4 [1, 2, 3]] [5] (by kernel_rfl) (by kernel_rfl) ?_
     simp only [Plan.wayOf, Plan.pickAll, List.getElem?_cons_zero, List.getElem?_cons_succ, List.getD_eq_getElem?_getD, Option.getD_some]
     refine Plan.wpWay_seg ?_
     repeat go_big_quiet_step (fail)
     refine wpQuiet_nil ?_; refine Plan.wpWay_act ?_
     go_wp2_with (fail)
     refine And.intro ?_ ?_; focus ((iterate 3 (refine Plan.again_cons ?_ ?_; focus (go_big_quiet_step (fail); exact wpQuiet_nil rfl))); exact Plan.again_nil)
     refine Plan.wpWay_last ?_
     repeat go_big_quiet_step (fail)
     refine wpQuiet_nil ?_; refine NoPanic.normal ?_
     go_wp2
     refine bodyPost_ret (v := .tuple #[.agg #[.int .i64 1, .bool false], .bool false]) (by simp [results, Tryz.results10, go_sem, r0, r1]) rfl ⟨by rw [hok], HB11.out.drew.fin _ _⟩
    ·skip
     go_wp2_with fail
     refine Plan.wp_region_plan [0, 0, 0, 6, 1, 31] [.mk [0, 1, 2, 3] 4 [1, 2, 3]] [5] (by kernel_rfl) (by kernel_rfl) ?_
     simp only [Plan.wayOf, Plan.pickAll, List.getElem?_cons_zero, List.getElem?_cons_succ, List.getD_eq_getElem?_getD, Option.getD_some]
     refine Plan.wpWay_seg ?_
     repeat go_big_quiet_step (fail)
     refine wpQuiet_nil ?_; refine Plan.wpWay_act ?_
     go_wp2_with (fail)
     refine And.intro ?_ ?_; focus ((iterate 3 (refine Plan.again_cons ?_ ?_; focus (go_big_quiet_step (fail); exact wpQuiet_nil rfl))); exact Plan.again_nil)
     refine Plan.wpWay_last ?_
     repeat go_big_quiet_step (fail)
     refine wpQuiet_nil ?_; refine NoPanic.normal ?_
     go_wp2
     refine bodyPost_ret (v := .tuple #[.agg #[.int .i64 1, .bool false], .bool false]) (by simp [results, Tryz.results10, go_sem, r0, r1]) rfl ⟨by rw [hok], HB11.out.drew.fin _ _⟩
   ·have hok : ok = false := by rw [HOK.out]; exact decide_eq_false (by rintro rfl; simp at hb2)
    rw [hb2] at t1
    rcases hd with hd | ⟨hd, hd2⟩
    ·skip
     go_wp2_with fail
     refine Plan.wp_region_plan [0, 0, 0, 6, 1, 31] [.mk [0, 1, 2, 3] 4 [1, 2, 3]] [5] (by kernel_rfl) (by kernel_rfl) ?_
     simp only [Plan.wayOf, Plan.pickAll, List.getElem?_cons_zero, List.getElem?_cons_succ, List.getD_eq_getElem?_getD, Option.getD_some]
     refine Plan.wpWay_seg ?_
     repeat go_big_quiet_step (fail)
     refine wpQuiet_nil ?_; refine Plan.wpWay_act ?_
     go_wp2_with (fail)
     refine And.intro ?_ ?_; focus ((iterate 3 (refine Plan.again_cons ?_ ?_; focus (go_big_quiet_step (fail); exact wpQuiet_nil rfl))); exact Plan.again_nil)
     refine Plan.wpWay_last ?_
     repeat go_big_quiet_step (fail)
     refine wpQuiet_nil ?_; refine NoPanic.normal ?_
     go_wp2
     refine bodyPost_ret (v := .tuple #[.agg #[.int .i64 1, .bool false], .bool false]) (by simp [results, Tryz.results10, go_sem, r0, r1]) rfl ⟨by rw [hok], HB11.out.drew.fin _ _⟩
    ·skip
     go_wp2_with fail
     refine Plan.wp_region_plan [0, 0, 0, 6, 1, 31] [.mk [0, 1, 2, 3] 4 [1, 2, 3]] [5] (by kernel_rfl) (by kernel_rfl) ?_
     simp only [Plan.wayOf, Plan.pickAll, List.getElem?_cons_zero, List.getElem?_cons_succ, List.getD_eq_getElem?_getD, Option.getD_some]
     refine Plan.wpWay_seg ?_
     repeat go_big_quiet_step (fail)
     refine wpQuiet_nil ?_; refine Plan.wpWay_act ?_
     go_wp2_with (fail)
     refine And.intro ?_ ?_; focus ((iterate 3 (refine Plan.again_cons ?_ ?_; focus (go_big_quiet_step (fail); exact wpQuiet_nil rfl))); exact Plan.again_nil)
     refine Plan.wpWay_last ?_
     repeat go_big_quiet_step (fail)
     refine wpQuiet_nil ?_; refine NoPanic.normal ?_
     go_wp2
     refine bodyPost_ret (v := .tuple #[.agg #[.int .i64 1, .bool false], .bool false]) (by simp [results, Tryz.results10, go_sem, r0, r1]) rfl ⟨by rw [hok], HB11.out.drew.fin _ _⟩
set_option maxRecDepth 100000 in
set_option maxHeartbeats 2000000 in
theorem type_k2test {lim : Nat} (w : World) (op : ByteArray) (t : Ty) (num : Nat) (v : Int) (gl : Bool) (ln cl : Int) (A : Option Addr) (c : Nat) (kids : List Tree) (vv : Value) (vs : List Ty) (b : Ty) (h : Upto w lim vv vs A kids kids.length [b, b]) (n1 : op ≠ sNum) (n2 : op ≠ sVar) (n3 : op ≠ sCast) (n4 : op ≠ sLand) (n5 : op ≠ sLor) (ht : (testF b op 0 0).2 = 0) :
  Calls Tryz.prog 10 #[.agg #[.string op, .int .i64 t.1, .bool t.2, .int .u64 num, .int .i64 v, .bool gl, .int .i64 ln, .int .i64 cl, .slice A kids.length c], vv] w (TyPost w ((1, false), true)) := by
 have d1 : (op.toList == [110, 117, 109]) = false := by rw [eqS]; exact decide_eq_false n1
 have d2 : (op.toList == [118, 97, 114]) = false := by rw [eqS]; exact decide_eq_false n2
 obtain ⟨i0, hi, hz0, hz1, hz2⟩ := info_parts info_ty
 have HU := Lib.hid h
 obtain ⟨ks, hks⟩ : ∃ ks, ks = [b, b] := ⟨_, rfl⟩
 rw [← hks] at HU
 have HK := Lib.hid hks
 have d3 : (op.toList == [99, 97, 115, 116]) = false := by rw [eqS]; exact decide_eq_false n3
 have d7 : (op.toList == [38, 38]) = false := by rw [eqS]; exact decide_eq_false n4
 have d8 : (op.toList == [124, 124]) = false := by rw [eqS]; exact decide_eq_false n5
 have HT0 := Lib.hid fun w1 => Test_calls w1 b op 0 0 (by decide) (by decide)
 rw [ht] at HT0
 generalize (testF b op 0 0).1 = tb at *
 clear n3 n4 n5 ht
 clear h n1 n2 hks
 go_enter Tryz.func10, Tryz.ntmps10
 go_wp2_with fail
 have H1 := Lib.hid (Bx.new w (.cells #[.string op, .int .i64 t.1, .bool t.2, .int .u64 num, .int .i64 v, .bool gl, .int .i64 ln, .int .i64 cl, .slice A kids.length c] 27))
 obtain ⟨w1, hw1⟩ : ∃ w1, w1 = ((w.alloc (.cells #[.string op, .int .i64 t.1, .bool t.2, .int .u64 num, .int .i64 v, .bool gl, .int .i64 ln, .int .i64 cl, .slice A kids.length c] 27)).alloc (.cells #[.int .i64 0, .bool false] 23)).alloc (.cells #[.int .i64 0, .bool false] 23) := ⟨_, rfl⟩
 have hsz := Lib.hid (show w1.heap.size = w.heap.size + 1 + 1 + 1 by rw [hw1]; simp)
 rw [← hw1] at H1 ⊢
 clear hw1
 have a0 : w1.cell? ⟨w.heap.size, 0, none⟩ = some (.string op) := blk_cell H1.out.box 0
 have a1 : w1.cell? ⟨w.heap.size, 1, none⟩ = some (.int .i64 t.1) := blk_cell H1.out.box 1
 have a2 : w1.cell? ⟨w.heap.size, 2, none⟩ = some (.bool t.2) := blk_cell H1.out.box 2
 have a4 : w1.cell? ⟨w.heap.size, 4, none⟩ = some (.int .i64 v) := blk_cell H1.out.box 4
 have a8 : w1.cell? ⟨w.heap.size, 8, none⟩ = some (.slice A kids.length c) := blk_cell H1.out.box 8
 have H2 := Lib.hid (H1.out.frm0 (frm_alloc w1 (.cells #[] 23)))
 have HR0 := Lib.hid (show SRow (w1.alloc (.cells #[] 23)) 23 encT (.slice (some ⟨w.heap.size + 1 + 1 + 1, 0, none⟩) 0 0) ([] : List Ty) from SRow.empty (blk_new_at _ hsz.out.symm))
 clear a0 a1 a2 a4 a8
 go_wp2_with fail
 go_loopw [7, 8] (fun v7 v8 w' => ∃ k : Nat, k ≤ kids.length ∧ v8 = .int .i64 k ∧ Hid (SRow w' 23 encT v7 (ks.take k)) ∧ Hid (Bx w w' (.cells #[.string op, .int .i64 t.1, .bool t.2, .int .u64 num, .int .i64 v, .bool gl, .int .i64 ln, .int .i64 cl, .slice A kids.length c] 27)) ∧ Hid (∀ g, v7.ownBlock = some g → w.heap.size + 3 ≤ g)) (fun _ v8 _ => kids.length - (intOf v8).toNat)
 case atStart => exact ⟨0, Nat.zero_le _, rfl, HR0, H2, Lib.hid fun g hg => by cases hg; exact Nat.le_refl _⟩
 case round =>
  obtain ⟨k, hk, rfl, HS, HB, HO⟩ := hrel
  have b8 : wr.cell? ⟨w.heap.size, 8, none⟩ = some (.slice A kids.length c) := blk_cell HB.out.box 8
  have hmost := HU.out.most
  by_cases hlt : k < kids.length
  ·have hle := HU.out.le
   have hltI : (k : Int) < (kids.length : Int) := by omega
   obtain ⟨x, hx⟩ : ∃ x, kids[k]? = some x := ⟨_, List.getElem?_eq_getElem (by omega)⟩
   obtain ⟨hx1, hx2⟩ := HU.out.typ k x hlt hx
   obtain ⟨g, o, rfl, hT⟩ := (HU.out.mem.frm0 HB.out.frm).get hx
   rw [Nat.zero_add] at hT
   obtain ⟨a0, a1, a2, a3, a4, a5, a6, a7, a8, hV, c0, c1, c2, c3, c4, c5, c6, c7, c8⟩ := hT.load
   have HC := Lib.hid (HU.out.call k x hx wr _ hV (HU.out.vars.frm0 HB.out.frm))
   have htk := Lib.hid (show ks.take (k + 1) = ks.take k ++ [(typeX vs x).1] by rw [List.take_add_one, hx2]; rfl)
   have hl7 := Lib.hid (show (ks.take k).length ≤ 4194304 by rw [List.length_take]; omega)
   obtain ⟨ys, hys⟩ : ∃ ys, ys = ks.take k := ⟨_, rfl⟩
   rw [← hys] at HS htk hl7
   have HY := Lib.hid hys
   clear hys
   rcases HS.out.slice with ⟨RA, RC, rfl, _⟩
   obtain ⟨u, hu⟩ : ∃ u, typeX vs x = (u, true) := ⟨(typeX vs x).1, Prod.ext rfl hx1⟩
   rw [hu] at HC htk
   clear hT hV hx hx1 hx2 hu
   go_wp2_with fail
   refine HC.out.mono ?_
   rintro e w2 ⟨rfl, hf⟩
   have HB2 := Lib.hid (HB.out.frm0 hf)
   have HS2 := Lib.hid (HS.out.frm0 hf)
   clear hf
   go_wp2_with (at_builtin; refine wpList_append_srow rfl _ _ 28 rfl 23 i0 (.agg #[.int .i64 0, .bool false]) 16 Tryz.underlying28 hi hz0 hz1 hz2 rfl (by decide) (E := encT) (.slice RA ys.length RC) ys rfl (HS2.out.frm0 ((frm_alloc w2 (.cells #[.int .i64 u.1, .bool u.2] 23)).alloc (.cells #[.int .i64 u.1, .bool u.2] 23))) ⟨w2.heap.size + 1, 0, none⟩ 1 u rfl ?c1 ?c2 ?c3 ?_)
   case c1 =>
    intro i u' hu'
    have e : (⟨w2.heap.size + 1, 0, none⟩ : Addr).add i = ⟨w2.heap.size + 1, i, none⟩ := by unfold Addr.add; split <;> simp_all
    rw [e, blk_cell (blk_new_at (w := w2.alloc (.cells #[.int .i64 u.1, .bool u.2] 23)) (n := w2.heap.size + 1) (.cells #[.int .i64 u.1, .bool u.2] 23) (by simp))]
    simpa [encT] using hu'
   case c2 => have := hl7.out; have : maxLen = 9223372036854775807 := rfl; omega
   case c3 => have := hl7.out; omega
   intro g' cap' w7 hrow hfr hg hlt7
   have HS7 := Lib.hid (show SRow w7 23 encT (.slice (some ⟨g', 0, none⟩) (ys.length + 1) cap') (ks.take (k + 1)) by rw [htk.out]; exact hrow)
   have hB3 := HB2.out.frm0 ((frm_alloc w2 (.cells #[.int .i64 u.1, .bool u.2] 23)).alloc (.cells #[.int .i64 u.1, .bool u.2] 23))
   have HB7 := Lib.hid (hB3.grow hfr fun b hb => HO.out b hb)
   have HO7 := Lib.hid (show w.heap.size + 3 ≤ g' by rcases hg with h | h; exact HO.out g' h; rw [h]; have := HB2.out.size3; simp; omega)
   clear hrow hfr hg hB3
   go_wp2
   go_roundw
   case rel => exact ⟨k + 1, by omega, by first | rfl | go_num, HS7, HB7, Lib.hid fun g'' hg'' => by cases hg''; exact HO7.out⟩
   case measure => simp [intOf]; omega
  ·obtain rfl : k = kids.length := by omega
   have hle := HU.out.le
   rw [List.take_of_length_le (Nat.le_of_eq HU.out.len)] at HS
   have hltI : ¬ (kids.length : Int) < (kids.length : Int) := by omega
   have a0 : wr.cell? ⟨w.heap.size, 0, none⟩ = some (.string op) := blk_cell HB.out.box 0
   have a1 : wr.cell? ⟨w.heap.size, 1, none⟩ = some (.int .i64 t.1) := blk_cell HB.out.box 1
   have a2 : wr.cell? ⟨w.heap.size, 2, none⟩ = some (.bool t.2) := blk_cell HB.out.box 2
   have r0 := blk_cell HB.out.res 0
   have r1 := blk_cell HB.out.res 1
   have z0 := blk_free HB.out.res 0
   have z1 := blk_free HB.out.res 1
   have q0 := blk_cell HB.out.non 0
   have q1 := blk_cell HB.out.non 1
   have hs0 : w.heap.size < wr.heap.size := by have := HB.out.size3; omega
   have hs1 : w.heap.size + 1 < wr.heap.size := by have := HB.out.size3; omega
   have hs2 : w.heap.size + 1 + 1 < wr.heap.size := by have := HB.out.size3; omega
   clear hlt hle hk
   have hSb : SRow wr 23 encT u7 [b, b] := by rw [← HK.out]; exact HS.out
   obtain ⟨RA, RC, rfl, hcell⟩ := hSb.slice
   obtain ⟨g, rfl, _, hcg⟩ := hcell 0 _ rfl
   have l0 : wr.cell? ⟨g, 0, none⟩ = some (.int .i64 b.1) := by simpa using hcg 0 _ rfl
   have l1 : wr.cell? ⟨g, 1, none⟩ = some (.bool b.2) := by simpa using hcg 1 _ rfl
   have lg : g < wr.heap.size := World.block_lt_of_cell? _ _ l0
   obtain ⟨g', e, _, hc1⟩ := hcell 1 _ rfl
   cases e
   have m1 : wr.cell? ⟨g, 2, none⟩ = some (.int .i64 b.1) := by simpa using hc1 0 _ rfl
   have p1 : wr.cell? ⟨g, 3, none⟩ = some (.bool b.2) := by simpa using hc1 1 _ rfl
   clear hc1
   clear hcg hcell hSb
   have HB9 := Lib.hid (HB.out.frm0 (frm_alloc wr (.cells #[.int .i64 b.1, .bool b.2] 23)))
   go_wp2_with fail
   obtain ⟨w9, hw9⟩ : ∃ w9, w9 = wr.alloc (.cells #[.int .i64 b.1, .bool b.2] 23) := ⟨_, rfl⟩
   have HT := Lib.hid (show w9.heap[wr.heap.size]? = some (.cells #[.int .i64 b.1, .bool b.2] 23) by rw [hw9]; exact blk_new _)
   have l0 : w9.cell? ⟨g, 0, none⟩ = some (.int .i64 b.1) := by rw [hw9]; exact frm_cell (frm_alloc _ _) l0
   have l1 : w9.cell? ⟨g, 1, none⟩ = some (.bool b.2) := by rw [hw9]; exact frm_cell (frm_alloc _ _) l1
   have m1 : w9.cell? ⟨g, 2, none⟩ = some (.int .i64 b.1) := by rw [hw9]; exact frm_cell (frm_alloc _ _) m1
   have p1 : w9.cell? ⟨g, 3, none⟩ = some (.bool b.2) := by rw [hw9]; exact frm_cell (frm_alloc _ _) p1
   have hs9 := Lib.hid (show w9.heap.size = wr.heap.size + 1 by rw [hw9]; simp)
   rw [← hw9] at HB9 ⊢
   clear hw9 r0 r1 z0 z1 q0 q1 a0 a1 a2
   have t0 : w9.cell? ⟨wr.heap.size, 0, none⟩ = some (.int .i64 b.1) := blk_cell HT.out 0
   have t1 : w9.cell? ⟨wr.heap.size, 1, none⟩ = some (.bool b.2) := blk_cell HT.out 1
   have a0 : w9.cell? ⟨w.heap.size, 0, none⟩ = some (.string op) := blk_cell HB9.out.box 0
   have a1 : w9.cell? ⟨w.heap.size, 1, none⟩ = some (.int .i64 t.1) := blk_cell HB9.out.box 1
   have a2 : w9.cell? ⟨w.heap.size, 2, none⟩ = some (.bool t.2) := blk_cell HB9.out.box 2
   have r0 := blk_cell HB9.out.res 0
   have r1 := blk_cell HB9.out.res 1
   have z0 := blk_free HB9.out.res 0
   have z1 := blk_free HB9.out.res 1
   have q0 := blk_cell HB9.out.non 0
   have q1 := blk_cell HB9.out.non 1
   go_wp2_with fail
   obtain ⟨w10, hw10⟩ : ∃ w10, w10 = w9.alloc (.cells #[.int .i64 1, .bool false] 23) := ⟨_, rfl⟩
   have HB10 := Lib.hid (show Bx w w10 (.cells #[.string op, .int .i64 t.1, .bool t.2, .int .u64 num, .int .i64 v, .bool gl, .int .i64 ln, .int .i64 cl, .slice A kids.length c] 27) by rw [hw10]; exact HB9.out.frm0 (frm_alloc _ _))
   have s0 : w10.cell? ⟨wr.heap.size + 1, 0, none⟩ = some (.int .i64 1) := by rw [hw10]; exact blk_cell (blk_new_at _ hs9.out.symm) 0
   have s1 : w10.cell? ⟨wr.heap.size + 1, 1, none⟩ = some (.bool false) := by rw [hw10]; exact blk_cell (blk_new_at _ hs9.out.symm) 1
   have l0 : w10.cell? ⟨g, 0, none⟩ = some (.int .i64 b.1) := by rw [hw10]; exact frm_cell (frm_alloc _ _) l0
   have l1 : w10.cell? ⟨g, 1, none⟩ = some (.bool b.2) := by rw [hw10]; exact frm_cell (frm_alloc _ _) l1
   have t0 : w10.cell? ⟨wr.heap.size, 0, none⟩ = some (.int .i64 b.1) := by rw [hw10]; exact frm_cell (frm_alloc _ _) t0
   have t1 : w10.cell? ⟨wr.heap.size, 1, none⟩ = some (.bool b.2) := by rw [hw10]; exact frm_cell (frm_alloc _ _) t1
   rw [← hw10]
   clear hw10 r0 r1 z0 z1 q0 q1 a0 a1 a2 m1 p1
   have a0 : w10.cell? ⟨w.heap.size, 0, none⟩ = some (.string op) := blk_cell HB10.out.box 0
   have r0 := blk_cell HB10.out.res 0
   have r1 := blk_cell HB10.out.res 1
   have z0 := blk_free HB10.out.res 0
   have z1 := blk_free HB10.out.res 1
   have q0 := blk_cell HB10.out.non 0
   have q1 := blk_cell HB10.out.non 1
   go_quiet (fail)
   obtain ⟨w11, hw11⟩ : ∃ w11, w11 = w10.drewN nq := ⟨_, rfl⟩
   rw [← hw11]
   have hf11 : Frm (fun _ => False) w10 w11 := by rw [hw11]; exact (Frm.refl _ _).drewN _
   have HB11 := Lib.hid (HB10.out.frm0 hf11)
   have t0 := frm_cell hf11 t0
   have t1 := frm_cell hf11 t1
   have s0 := frm_cell hf11 s0
   have s1 := frm_cell hf11 s1
   clear hw11 hf11 r0 r1 z0 z1 q0 q1 a0 l0 l1
   have a0 : w11.cell? ⟨w.heap.size, 0, none⟩ = some (.string op) := blk_cell HB11.out.box 0
   have r0 := blk_cell HB11.out.res 0
   have r1 := blk_cell HB11.out.res 1
   have z0 := blk_free HB11.out.res 0
   have z1 := blk_free HB11.out.res 1
   have q0 := blk_cell HB11.out.non 0
   have q1 := blk_cell HB11.out.non 1
   go_wp2_with fail
   refine (HT0.out _).mono ?_
   rintro e w12 ⟨rfl, hf⟩
   have HB12 := Lib.hid (HB11.out.frm0 hf)
   have s0 := frm_cell hf s0
   have s1 := frm_cell hf s1
   clear hf r0 r1 z0 z1 q0 q1 a0 t0 t1
   have r0 := blk_cell HB12.out.res 0
   have r1 := blk_cell HB12.out.res 1
   have z0 := blk_free HB12.out.res 0
   have z1 := blk_free HB12.out.res 1
   go_wp2
   refine bodyPost_ret (v := .tuple #[.agg #[.int .i64 1, .bool false], .bool true]) (by simp [results, Tryz.results10, go_sem, r0, r1]) rfl ⟨rfl, HB12.out.fin _ _⟩
set_option maxRecDepth 100000 in
set_option maxHeartbeats 2000000 in
theorem type_k2do {lim : Nat} (w : World) (op : ByteArray) (t : Ty) (num : Nat) (v : Int) (gl : Bool) (ln cl : Int) (A : Option Addr) (c : Nat) (kids : List Tree) (vv : Value) (vs : List Ty) (b : Ty) (h : Upto w lim vv vs A kids kids.length [b, b]) (n1 : op ≠ sNum) (n2 : op ≠ sVar) (n3 : op ≠ sCast) (n4 : op ≠ sLand) (n5 : op ≠ sLor) (ht : (testF b op 0 0).2 ≠ 0) (ok : Bool) (hok : ok = decide ((doF b op 0 1).2 = 0)) :
  Calls Tryz.prog 10 #[.agg #[.string op, .int .i64 t.1, .bool t.2, .int .u64 num, .int .i64 v, .bool gl, .int .i64 ln, .int .i64 cl, .slice A kids.length c], vv] w (TyPost w (b, ok)) := by
 have d1 : (op.toList == [110, 117, 109]) = false := by rw [eqS]; exact decide_eq_false n1
 have d2 : (op.toList == [118, 97, 114]) = false := by rw [eqS]; exact decide_eq_false n2
 obtain ⟨i0, hi, hz0, hz1, hz2⟩ := info_parts info_ty
 have HU := Lib.hid h
 obtain ⟨ks, hks⟩ : ∃ ks, ks = [b, b] := ⟨_, rfl⟩
 rw [← hks] at HU
 have HK := Lib.hid hks
 have d3 : (op.toList == [99, 97, 115, 116]) = false := by rw [eqS]; exact decide_eq_false n3
 have d7 : (op.toList == [38, 38]) = false := by rw [eqS]; exact decide_eq_false n4
 have d8 : (op.toList == [124, 124]) = false := by rw [eqS]; exact decide_eq_false n5
 have HT0 := Lib.hid fun w1 => Test_calls w1 b op 0 0 (by decide) (by decide)
 have HD0 := Lib.hid fun w1 => Do_calls w1 b op 0 1 (by decide) (by decide)
 have HOK := Lib.hid hok
 have ht' : ((testF b op 0 0).2 == 0) = false := by simpa using ht
 generalize testF b op 0 0 = tr at *
 generalize doF b op 0 1 = dr at *
 clear n3 n4 n5 ht hok
 clear h n1 n2 hks
 go_enter Tryz.func10, Tryz.ntmps10
 go_wp2_with fail
 have H1 := Lib.hid (Bx.new w (.cells #[.string op, .int .i64 t.1, .bool t.2, .int .u64 num, .int .i64 v, .bool gl, .int .i64 ln, .int .i64 cl, .slice A kids.length c] 27))
 obtain ⟨w1, hw1⟩ : ∃ w1, w1 = ((w.alloc (.cells #[.string op, .int .i64 t.1, .bool t.2, .int .u64 num, .int .i64 v, .bool gl, .int .i64 ln, .int .i64 cl, .slice A kids.length c] 27)).alloc (.cells #[.int .i64 0, .bool false] 23)).alloc (.cells #[.int .i64 0, .bool false] 23) := ⟨_, rfl⟩
 have hsz := Lib.hid (show w1.heap.size = w.heap.size + 1 + 1 + 1 by rw [hw1]; simp)
 rw [← hw1] at H1 ⊢
 clear hw1
 have a0 : w1.cell? ⟨w.heap.size, 0, none⟩ = some (.string op) := blk_cell H1.out.box 0
 have a1 : w1.cell? ⟨w.heap.size, 1, none⟩ = some (.int .i64 t.1) := blk_cell H1.out.box 1
 have a2 : w1.cell? ⟨w.heap.size, 2, none⟩ = some (.bool t.2) := blk_cell H1.out.box 2
 have a4 : w1.cell? ⟨w.heap.size, 4, none⟩ = some (.int .i64 v) := blk_cell H1.out.box 4
 have a8 : w1.cell? ⟨w.heap.size, 8, none⟩ = some (.slice A kids.length c) := blk_cell H1.out.box 8
 have H2 := Lib.hid (H1.out.frm0 (frm_alloc w1 (.cells #[] 23)))
 have HR0 := Lib.hid (show SRow (w1.alloc (.cells #[] 23)) 23 encT (.slice (some ⟨w.heap.size + 1 + 1 + 1, 0, none⟩) 0 0) ([] : List Ty) from SRow.empty (blk_new_at _ hsz.out.symm))
 clear a0 a1 a2 a4 a8
 go_wp2_with fail
 go_loopw [7, 8] (fun v7 v8 w' => ∃ k : Nat, k ≤ kids.length ∧ v8 = .int .i64 k ∧ Hid (SRow w' 23 encT v7 (ks.take k)) ∧ Hid (Bx w w' (.cells #[.string op, .int .i64 t.1, .bool t.2, .int .u64 num, .int .i64 v, .bool gl, .int .i64 ln, .int .i64 cl, .slice A kids.length c] 27)) ∧ Hid (∀ g, v7.ownBlock = some g → w.heap.size + 3 ≤ g)) (fun _ v8 _ => kids.length - (intOf v8).toNat)
 case atStart => exact ⟨0, Nat.zero_le _, rfl, HR0, H2, Lib.hid fun g hg => by cases hg; exact Nat.le_refl _⟩
 case round =>
  obtain ⟨k, hk, rfl, HS, HB, HO⟩ := hrel
  have b8 : wr.cell? ⟨w.heap.size, 8, none⟩ = some (.slice A kids.length c) := blk_cell HB.out.box 8
  have hmost := HU.out.most
  by_cases hlt : k < kids.length
  ·have hle := HU.out.le
   have hltI : (k : Int) < (kids.length : Int) := by omega
   obtain ⟨x, hx⟩ : ∃ x, kids[k]? = some x := ⟨_, List.getElem?_eq_getElem (by omega)⟩
   obtain ⟨hx1, hx2⟩ := HU.out.typ k x hlt hx
   obtain ⟨g, o, rfl, hT⟩ := (HU.out.mem.frm0 HB.out.frm).get hx
   rw [Nat.zero_add] at hT
   obtain ⟨a0, a1, a2, a3, a4, a5, a6, a7, a8, hV, c0, c1, c2, c3, c4, c5, c6, c7, c8⟩ := hT.load
   have HC := Lib.hid (HU.out.call k x hx wr _ hV (HU.out.vars.frm0 HB.out.frm))
   have htk := Lib.hid (show ks.take (k + 1) = ks.take k ++ [(typeX vs x).1] by rw [List.take_add_one, hx2]; rfl)
   have hl7 := Lib.hid (show (ks.take k).length ≤ 4194304 by rw [List.length_take]; omega)
   obtain ⟨ys, hys⟩ : ∃ ys, ys = ks.take k := ⟨_, rfl⟩
   rw [← hys] at HS htk hl7
   have HY := Lib.hid hys
   clear hys
   rcases HS.out.slice with ⟨RA, RC, rfl, _⟩
   obtain ⟨u, hu⟩ : ∃ u, typeX vs x = (u, true) := ⟨(typeX vs x).1, Prod.ext rfl hx1⟩
   rw [hu] at HC htk
   clear hT hV hx hx1 hx2 hu
   go_wp2_with fail
   refine HC.out.mono ?_
   rintro e w2 ⟨rfl, hf⟩
   have HB2 := Lib.hid (HB.out.frm0 hf)
   have HS2 := Lib.hid (HS.out.frm0 hf)
   clear hf
   go_wp2_with (at_builtin; refine wpList_append_srow rfl _ _ 28 rfl 23 i0 (.agg #[.int .i64 0, .bool false]) 16 Tryz.underlying28 hi hz0 hz1 hz2 rfl (by decide) (E := encT) (.slice RA ys.length RC) ys rfl (HS2.out.frm0 ((frm_alloc w2 (.cells #[.int .i64 u.1, .bool u.2] 23)).alloc (.cells #[.int .i64 u.1, .bool u.2] 23))) ⟨w2.heap.size + 1, 0, none⟩ 1 u rfl ?c1 ?c2 ?c3 ?_)
   case c1 =>
    intro i u' hu'
    have e : (⟨w2.heap.size + 1, 0, none⟩ : Addr).add i = ⟨w2.heap.size + 1, i, none⟩ := by unfold Addr.add; split <;> simp_all
    rw [e, blk_cell (blk_new_at (w := w2.alloc (.cells #[.int .i64 u.1, .bool u.2] 23)) (n := w2.heap.size + 1) (.cells #[.int .i64 u.1, .bool u.2] 23) (by simp))]
    simpa [encT] using hu'
   case c2 => have := hl7.out; have : maxLen = 9223372036854775807 := rfl; omega
   case c3 => have := hl7.out; omega
   intro g' cap' w7 hrow hfr hg hlt7
   have HS7 := Lib.hid (show SRow w7 23 encT (.slice (some ⟨g', 0, none⟩) (ys.length + 1) cap') (ks.take (k + 1)) by rw [htk.out]; exact hrow)
   have hB3 := HB2.out.frm0 ((frm_alloc w2 (.cells #[.int .i64 u.1, .bool u.2] 23)).alloc (.cells #[.int .i64 u.1, .bool u.2] 23))
   have HB7 := Lib.hid (hB3.grow hfr fun b hb => HO.out b hb)
   have HO7 := Lib.hid (show w.heap.size + 3 ≤ g' by rcases hg with h | h; exact HO.out g' h; rw [h]; have := HB2.out.size3; simp; omega)
   clear hrow hfr hg hB3
   go_wp2
   go_roundw
   case rel => exact ⟨k + 1, by omega, by first | rfl | go_num, HS7, HB7, Lib.hid fun g'' hg'' => by cases hg''; exact HO7.out⟩
   case measure => simp [intOf]; omega
  ·obtain rfl : k = kids.length := by omega
   have hle := HU.out.le
   rw [List.take_of_length_le (Nat.le_of_eq HU.out.len)] at HS
   have hltI : ¬ (kids.length : Int) < (kids.length : Int) := by omega
   have a0 : wr.cell? ⟨w.heap.size, 0, none⟩ = some (.string op) := blk_cell HB.out.box 0
   have a1 : wr.cell? ⟨w.heap.size, 1, none⟩ = some (.int .i64 t.1) := blk_cell HB.out.box 1
   have a2 : wr.cell? ⟨w.heap.size, 2, none⟩ = some (.bool t.2) := blk_cell HB.out.box 2
   have r0 := blk_cell HB.out.res 0
   have r1 := blk_cell HB.out.res 1
   have z0 := blk_free HB.out.res 0
   have z1 := blk_free HB.out.res 1
   have q0 := blk_cell HB.out.non 0
   have q1 := blk_cell HB.out.non 1
   have hs0 : w.heap.size < wr.heap.size := by have := HB.out.size3; omega
   have hs1 : w.heap.size + 1 < wr.heap.size := by have := HB.out.size3; omega
   have hs2 : w.heap.size + 1 + 1 < wr.heap.size := by have := HB.out.size3; omega
   clear hlt hle hk
   have hSb : SRow wr 23 encT u7 [b, b] := by rw [← HK.out]; exact HS.out
   obtain ⟨RA, RC, rfl, hcell⟩ := hSb.slice
   obtain ⟨g, rfl, _, hcg⟩ := hcell 0 _ rfl
   have l0 : wr.cell? ⟨g, 0, none⟩ = some (.int .i64 b.1) := by simpa using hcg 0 _ rfl
   have l1 : wr.cell? ⟨g, 1, none⟩ = some (.bool b.2) := by simpa using hcg 1 _ rfl
   have lg : g < wr.heap.size := World.block_lt_of_cell? _ _ l0
   obtain ⟨g', e, _, hc1⟩ := hcell 1 _ rfl
   cases e
   have m1 : wr.cell? ⟨g, 2, none⟩ = some (.int .i64 b.1) := by simpa using hc1 0 _ rfl
   have p1 : wr.cell? ⟨g, 3, none⟩ = some (.bool b.2) := by simpa using hc1 1 _ rfl
   clear hc1
   clear hcg hcell hSb
   have HB9 := Lib.hid (HB.out.frm0 (frm_alloc wr (.cells #[.int .i64 b.1, .bool b.2] 23)))
   go_wp2_with fail
   obtain ⟨w9, hw9⟩ : ∃ w9, w9 = wr.alloc (.cells #[.int .i64 b.1, .bool b.2] 23) := ⟨_, rfl⟩
   have HT := Lib.hid (show w9.heap[wr.heap.size]? = some (.cells #[.int .i64 b.1, .bool b.2] 23) by rw [hw9]; exact blk_new _)
   have l0 : w9.cell? ⟨g, 0, none⟩ = some (.int .i64 b.1) := by rw [hw9]; exact frm_cell (frm_alloc _ _) l0
   have l1 : w9.cell? ⟨g, 1, none⟩ = some (.bool b.2) := by rw [hw9]; exact frm_cell (frm_alloc _ _) l1
   have m1 : w9.cell? ⟨g, 2, none⟩ = some (.int .i64 b.1) := by rw [hw9]; exact frm_cell (frm_alloc _ _) m1
   have p1 : w9.cell? ⟨g, 3, none⟩ = some (.bool b.2) := by rw [hw9]; exact frm_cell (frm_alloc _ _) p1
   have hs9 := Lib.hid (show w9.heap.size = wr.heap.size + 1 by rw [hw9]; simp)
   rw [← hw9] at HB9 ⊢
   clear hw9 r0 r1 z0 z1 q0 q1 a0 a1 a2
   have t0 : w9.cell? ⟨wr.heap.size, 0, none⟩ = some (.int .i64 b.1) := blk_cell HT.out 0
   have t1 : w9.cell? ⟨wr.heap.size, 1, none⟩ = some (.bool b.2) := blk_cell HT.out 1
   have a0 : w9.cell? ⟨w.heap.size, 0, none⟩ = some (.string op) := blk_cell HB9.out.box 0
   have a1 : w9.cell? ⟨w.heap.size, 1, none⟩ = some (.int .i64 t.1) := blk_cell HB9.out.box 1
   have a2 : w9.cell? ⟨w.heap.size, 2, none⟩ = some (.bool t.2) := blk_cell HB9.out.box 2
   have r0 := blk_cell HB9.out.res 0
   have r1 := blk_cell HB9.out.res 1
   have z0 := blk_free HB9.out.res 0
   have z1 := blk_free HB9.out.res 1
   have q0 := blk_cell HB9.out.non 0
   have q1 := blk_cell HB9.out.non 1
   go_wp2_with fail
   obtain ⟨w10, hw10⟩ : ∃ w10, w10 = w9.alloc (.cells #[.int .i64 1, .bool false] 23) := ⟨_, rfl⟩
   have HB10 := Lib.hid (show Bx w w10 (.cells #[.string op, .int .i64 t.1, .bool t.2, .int .u64 num, .int .i64 v, .bool gl, .int .i64 ln, .int .i64 cl, .slice A kids.length c] 27) by rw [hw10]; exact HB9.out.frm0 (frm_alloc _ _))
   have s0 : w10.cell? ⟨wr.heap.size + 1, 0, none⟩ = some (.int .i64 1) := by rw [hw10]; exact blk_cell (blk_new_at _ hs9.out.symm) 0
   have s1 : w10.cell? ⟨wr.heap.size + 1, 1, none⟩ = some (.bool false) := by rw [hw10]; exact blk_cell (blk_new_at _ hs9.out.symm) 1
   have l0 : w10.cell? ⟨g, 0, none⟩ = some (.int .i64 b.1) := by rw [hw10]; exact frm_cell (frm_alloc _ _) l0
   have l1 : w10.cell? ⟨g, 1, none⟩ = some (.bool b.2) := by rw [hw10]; exact frm_cell (frm_alloc _ _) l1
   have t0 : w10.cell? ⟨wr.heap.size, 0, none⟩ = some (.int .i64 b.1) := by rw [hw10]; exact frm_cell (frm_alloc _ _) t0
   have t1 : w10.cell? ⟨wr.heap.size, 1, none⟩ = some (.bool b.2) := by rw [hw10]; exact frm_cell (frm_alloc _ _) t1
   rw [← hw10]
   clear hw10 r0 r1 z0 z1 q0 q1 a0 a1 a2 m1 p1
   have a0 : w10.cell? ⟨w.heap.size, 0, none⟩ = some (.string op) := blk_cell HB10.out.box 0
   have r0 := blk_cell HB10.out.res 0
   have r1 := blk_cell HB10.out.res 1
   have z0 := blk_free HB10.out.res 0
   have z1 := blk_free HB10.out.res 1
   have q0 := blk_cell HB10.out.non 0
   have q1 := blk_cell HB10.out.non 1
   go_quiet (fail)
   obtain ⟨w11, hw11⟩ : ∃ w11, w11 = w10.drewN nq := ⟨_, rfl⟩
   rw [← hw11]
   have hf11 : Frm (fun _ => False) w10 w11 := by rw [hw11]; exact (Frm.refl _ _).drewN _
   have HB11 := Lib.hid (HB10.out.frm0 hf11)
   have t0 := frm_cell hf11 t0
   have t1 := frm_cell hf11 t1
   have s0 := frm_cell hf11 s0
   have s1 := frm_cell hf11 s1
   clear hw11 hf11 r0 r1 z0 z1 q0 q1 a0 l0 l1
   have a0 : w11.cell? ⟨w.heap.size, 0, none⟩ = some (.string op) := blk_cell HB11.out.box 0
   have r0 := blk_cell HB11.out.res 0
   have r1 := blk_cell HB11.out.res 1
   have z0 := blk_free HB11.out.res 0
   have z1 := blk_free HB11.out.res 1
   have q0 := blk_cell HB11.out.non 0
   have q1 := blk_cell HB11.out.non 1
   go_wp2_with fail
   refine (HT0.out _).mono ?_
   rintro e w12 ⟨rfl, hf⟩
   have HB12 := Lib.hid (HB11.out.frm0 hf)
   have t0 := frm_cell hf t0
   have t1 := frm_cell hf t1
   clear hf r0 r1 z0 z1 q0 q1 a0 s0 s1
   have a0 : w12.cell? ⟨w.heap.size, 0, none⟩ = some (.string op) := blk_cell HB12.out.box 0
   go_wp2_with fail
   refine (HD0.out _).mono ?_
   rintro e w13 ⟨rfl, hf⟩
   have HB13 := Lib.hid (HB12.out.frm0 hf)
   have t0 := frm_cell hf t0
   have t1 := frm_cell hf t1
   have r0 := blk_cell HB13.out.res 0
   have r1 := blk_cell HB13.out.res 1
   have z0 := blk_free HB13.out.res 0
   have z1 := blk_free HB13.out.res 1
   clear hf a0
   go_wp2
   refine bodyPost_ret (v := .tuple #[.agg #[.int .i64 b.1, .bool b.2], .bool (dr.2 == 0)]) (by simp [results, Tryz.results10, go_sem, r0, r1]) rfl ⟨ret_ok (by rw [HOK.out]; exact (Bool.eq_iff_iff.2 (by simp))), HB13.out.fin _ _⟩
end RfW
end Go.Proofs.YtbbajekecppioaaGreatDoor
