/- What the document says that a tree is, walked, part by part. -/
import Derived.Test.YtbbajekecppioaaGreatDoorGa36
set_option linter.unusedSimpArgs false
set_option linter.unusedVariables false
namespace Go.Proofs.YtbbajekecppioaaGreatDoor
open Go.RowKit Go.Mem Go.Wd Go.Tp
namespace RfW
open TmW (frm_alloc frm_then Box wrap_nat64 frm_cellD frm_cell negE eqS countX countL typeX kindsX typeK evalX evalL evalK lastX noTy vtype is64 sNum sVar sCast sIte sUNot sUNeg sUTil sLand sLor u64 bits_or_u64)
/-- Numbers in a slice, below a block. -/
def IsIn (w : World) (lim : Nat) (iv : Value) (is : List Nat) : Prop := ∃ A c, iv = .slice A is.length c ∧ is.length ≤ maxLen ∧ ∀ (i : Nat) u, is[i]? = some u → u < 2 ^ 64 ∧ ∃ g o, A = some ⟨g, o, none⟩ ∧ g < lim ∧ w.cell? ⟨g, o + i, none⟩ = some (.int .u64 u)
theorem IsIn.frm {w w' : World} {lim : Nat} {iv : Value} {is : List Nat} (h : IsIn w lim iv is) (hb : ∀ b, b < lim → b < w.heap.size → w'.heap[b]? = w.heap[b]?) : IsIn w' lim iv is := by
 obtain ⟨A, c, e, hl, hc⟩ := h
 refine ⟨A, c, e, hl, fun i u hu => ?_⟩
 obtain ⟨h0, g, o, e, hg, h1⟩ := hc i u hu
 have hlt := World.block_lt_of_cell? _ _ h1
 exact ⟨h0, g, o, e, hg, by rw [World.cell?_of_block (w := w) (hb g hg hlt)]; exact h1⟩
theorem IsIn.frm0 {w w' : World} {lim : Nat} {iv : Value} {is : List Nat} (h : IsIn w lim iv is) (hf : Frm (fun _ => False) w w') : IsIn w' lim iv is := h.frm fun b _ hb => hf.block b hb id
abbrev NPost (w : World) (r : Nat) (e : Ending) (w' : World) : Prop := e = .returned (.int .u64 r) ∧ Frm (fun _ => False) w w'
theorem evalL_get (vs : List Ty) (is : List Nat) : ∀ (l : List Tree) (i : Nat), (evalL vs is l)[i]? = l[i]?.map (evalX vs is)
 | [], i => by rw [evalL]; simp
 | x :: r, 0 => by rw [evalL]; simp
 | x :: r, i + 1 => by rw [evalL]; simpa using evalL_get vs is r i
theorem evalL_len (vs : List Ty) (is : List Nat) : ∀ l : List Tree, (evalL vs is l).length = l.length
 | [] => by rw [evalL]; rfl
 | x :: r => by rw [evalL]; simp [evalL_len vs is r]
theorem turn_lt (t : Ty) (op : ByteArray) (a : Nat) : (turnF t op a).1 < 2 ^ 64 := by
 unfold turnF
 split
 ·split
  ·exact norm_lt64 _ _
  ·split
   ·exact norm_lt64 _ _
   ·show (0 : Nat) < _; omega
 ·show (0 : Nat) < _; omega
theorem do_lt (t : Ty) (op : ByteArray) (a b : Nat) : (doF t op a b).1 < 2 ^ 64 := by
 unfold doF
 split
 ·split
  ·show (0 : Nat) < _; omega
  ·split
   ·show (0 : Nat) < _; omega
   ·exact norm_lt64 _ _
 ·show (0 : Nat) < _; omega
theorem evalK_lt (op : ByteArray) (xt t : Ty) (v : List Nat) (hv : ∀ i, v.getD i 0 < 2 ^ 64) : evalK op xt t v < 2 ^ 64 := by
 unfold evalK
 repeat' split
 ·exact TmW.castF_lt _ _ _
 ·exact hv _
 ·exact hv _
 ·exact turn_lt _ _ _
 ·exact Nat.mod_lt _ (by decide)
 ·exact Nat.or_lt_two_pow (hv _) (hv _)
 ·have := Bool.toNat_le (testF t op (v.getD 0 0) (v.getD 1 0)).1; omega
 ·exact do_lt _ _ _ _
mutual
theorem evalX_lt (vs : List Ty) (is : List Nat) : ∀ x : Tree, evalX vs is x < 2 ^ 64
 | .mk op t num v kids => by
  rw [evalX]
  split
  ·exact norm_lt64 _ _
  ·split
   ·exact norm_lt64 _ _
   ·exact evalK_lt _ _ _ _ (evalL_lt vs is kids)
theorem evalL_lt (vs : List Ty) (is : List Nat) : ∀ (l : List Tree) (i : Nat), (evalL vs is l).getD i 0 < 2 ^ 64
 | [], i => by rw [evalL]; simp
 | x :: r, 0 => by rw [evalL]; exact evalX_lt vs is x
 | x :: r, i + 1 => by rw [evalL]; exact evalL_lt vs is r i
end
set_option maxRecDepth 100000 in
set_option maxHeartbeats 2000000 in
theorem eval_num (w : World) (op : ByteArray) (t : Ty) (num : Nat) (v : Int) (gl : Bool) (ln cl : Int) (A : Option Addr) (n c : Nat) (vv iv : Value) (hn : num < 2 ^ 64) (n1 : op = sNum) :
  Calls Tryz.prog 14 #[.agg #[.string op, .int .i64 t.1, .bool t.2, .int .u64 num, .int .i64 v, .bool gl, .int .i64 ln, .int .i64 cl, .slice A n c], vv, iv] w (NPost w (normF t num)) := by
 have d1 : (op.toList == [110, 117, 109]) = true := by rw [eqS]; exact decide_eq_true n1
 have HN := Lib.hid fun w1 => Norm_calls w1 t num hn
 have HF1 := Lib.hid (frm_alloc w (.cells #[.string op, .int .i64 t.1, .bool t.2, .int .u64 num, .int .i64 v, .bool gl, .int .i64 ln, .int .i64 cl, .slice A n c] 27))
 clear n1 hn
 go_enter Tryz.func14, Tryz.ntmps14
 go_wp2_with fail
 refine (HN.out _).mono ?_
 rintro e w2 ⟨rfl, hf⟩
 have HF2 := Lib.hid (frm_then HF1.out hf)
 clear hf
 go_wp2
 go_ret
 exact ⟨rfl, HF2.out⟩
set_option maxRecDepth 100000 in
set_option maxHeartbeats 2000000 in
theorem eval_var (w : World) (op : ByteArray) (t : Ty) (num : Nat) (k : Nat) (gl : Bool) (ln cl : Int) (A : Option Addr) (n c : Nat) (g o m d g2 o2 m2 d2 : Nat) (u : Ty) (z : Nat) (hm : m ≤ maxLen) (hm2 : m2 ≤ maxLen) (n1 : op = sVar) (hk : k < m) (hk2 : k < m2) (hz : z < 2 ^ 64)
  (h0 : w.cell? ⟨g, o + k * 2, none⟩ = some (.int .i64 u.1)) (h1 : w.cell? ⟨g, o + k * 2 + 1, none⟩ = some (.bool u.2)) (h2 : w.cell? ⟨g2, o2 + k, none⟩ = some (.int .u64 z)) :
  Calls Tryz.prog 14 #[.agg #[.string op, .int .i64 t.1, .bool t.2, .int .u64 num, .int .i64 k, .bool gl, .int .i64 ln, .int .i64 cl, .slice A n c], .slice (some ⟨g, o, none⟩) m d, .slice (some ⟨g2, o2, none⟩) m2 d2] w (NPost w (normF u z)) := by
 have e1 : (op.toList == [110, 117, 109]) = false := by rw [eqS, n1]; decide
 have e2 : (op.toList == [118, 97, 114]) = true := by rw [eqS]; exact decide_eq_true n1
 have HN := Lib.hid fun w1 => Norm_calls w1 u z hz
 have hm' : m ≤ 9223372036854775807 := hm
 have hm2' : m2 ≤ 9223372036854775807 := hm2
 have hki : (k : Int) < (m : Int) := by omega
 have hki2 : (k : Int) < (m2 : Int) := by omega
 clear n1 hz hm hm2
 go_enter Tryz.func14, Tryz.ntmps14
 go_wp2_with fail
 have HF1 := Lib.hid (frm_alloc w (.cells #[.string op, .int .i64 t.1, .bool t.2, .int .u64 num, .int .i64 k, .bool gl, .int .i64 ln, .int .i64 cl, .slice A n c] 27))
 have HB1 := Lib.hid (blk_new (w := w) (.cells #[.string op, .int .i64 t.1, .bool t.2, .int .u64 num, .int .i64 k, .bool gl, .int .i64 ln, .int .i64 cl, .slice A n c] 27))
 obtain ⟨w1, hw1⟩ : ∃ w1, w1 = w.alloc (.cells #[.string op, .int .i64 t.1, .bool t.2, .int .u64 num, .int .i64 k, .bool gl, .int .i64 ln, .int .i64 cl, .slice A n c] 27) := ⟨_, rfl⟩
 rw [← hw1] at HB1 HF1 ⊢
 clear hw1
 have h0 := frm_cell HF1.out h0
 have h1 := frm_cell HF1.out h1
 have h2 := frm_cell HF1.out h2
 have a4 : w1.cell? ⟨w.heap.size, 4, none⟩ = some (.int .i64 k) := blk_cell HB1.out 4
 refine Plan.wp_region_plan [0, 0, 2, 7, 15, 0, 0, 64, 224, 480, 1023, 2047] [.mk [0, 1, 2, 3, 4, 5, 6, 7, 8, 9] 10 []] [11] (by kernel_rfl) (by kernel_rfl) ?_
 simp only [Plan.wayOf, Plan.pickAll, List.getElem?_cons_zero, List.getElem?_cons_succ, List.getD_eq_getElem?_getD, Option.getD_some]
 refine Plan.wpWay_seg ?_
 repeat go_big_quiet_step (fail)
 refine wpQuiet_nil ?_; refine Plan.wpWay_act ?_
 go_wp2_with fail
 refine (HN.out _).mono ?_
 rintro e w2 ⟨rfl, hf⟩
 have HF2 := Lib.hid (frm_then HF1.out.drew hf)
 clear hf
 go_wp2_with fail
 refine And.intro Plan.again_nil ?_
 refine Plan.wpWay_last ?_
 repeat go_big_quiet_step (fail)
 refine wpQuiet_nil ?_; refine NoPanic.normal ?_
 go_wp2
 go_ret
 exact ⟨rfl, HF2.out⟩
theorem info_u64 : (Tryz.prog.info? 24).map (fun i => (i.zero, i.size, i.bytes)) = some (some (.int .u64 0), 1, 8) := by kernel_rfl
/-- What is known of a tree's kids. -/
structure Kid (w : World) (lim : Nat) (vv iv : Value) (vs : List Ty) (is : List Nat) (A : Option Addr) (kids : List Tree) : Prop where
 mem : KidsAt w lim A 0 kids
 vars : VarsIn w lim vv vs
 nums : IsIn w lim iv is
 call : ∀ (i : Nat) x, kids[i]? = some x → ∀ w1 val, TreeV w1 lim val x → VarsIn w1 lim vv vs → IsIn w1 lim iv is → Calls Tryz.prog 14 #[val, vv, iv] w1 (NPost w1 (evalX vs is x))
 most : countL kids ≤ 4194304
 ok : ∀ (i : Nat) x, kids[i]? = some x → (typeX vs x).2 = true
theorem last_kid (vs : List Ty) : ∀ {l : List Tree} {m : Nat} {x : Tree}, l.length = m + 1 → l[m]? = some x → lastX vs l = (typeX vs x).1
 | [], _, _, h, _ => by simp at h
 | [y], m, x, h, hx => by
  obtain rfl : m = 0 := by simp at h; omega
  simp only [List.getElem?_cons_zero, Option.some.injEq] at hx
  subst hx
  rw [lastX]
 | y :: z :: r, m, x, h, hx => by
  cases m with
  | zero => simp at h
  | succ m => rw [lastX]; exact last_kid vs (m := m) (by simpa using h) (by simpa using hx)
set_option maxRecDepth 100000 in
set_option maxHeartbeats 2000000 in
theorem eval_cast {lim : Nat} (w : World) (op : ByteArray) (t : Ty) (num : Nat) (v : Int) (gl : Bool) (ln cl : Int) (A : Option Addr) (c : Nat) (kids : List Tree) (vv iv : Value) (vs : List Ty) (is : List Nat) (h : Kid w lim vv iv vs is A kids) (m : Nat) (hm : kids.length = m + 1) (n1 : op ≠ sNum) (n2 : op ≠ sVar) (a : Nat) (r : Ty) (hr : lastX vs kids = r) (he : evalL vs is kids = [a]) (n3 : op = sCast) (ha : a < 2 ^ 64) :
  Calls Tryz.prog 14 #[.agg #[.string op, .int .i64 t.1, .bool t.2, .int .u64 num, .int .i64 v, .bool gl, .int .i64 ln, .int .i64 cl, .slice A kids.length c], vv, iv] w (NPost w (castF r t a)) := by
 have d1 : (op.toList == [110, 117, 109]) = false := by rw [eqS]; exact decide_eq_false n1
 have d2 : (op.toList == [118, 97, 114]) = false := by rw [eqS]; exact decide_eq_false n2
 obtain ⟨i0, hi, hz0, hz1, hz2⟩ := info_parts info_u64
 have HU := Lib.hid h
 have HM := Lib.hid hm
 have d3 : (op.toList == [99, 97, 115, 116]) = true := by rw [eqS]; exact decide_eq_true n3
 have HR := Lib.hid hr
 have HE := Lib.hid he
 have HCA := Lib.hid fun w1 => Cast_calls w1 r t a ha
 clear n3 ha hr he
 clear h hm n1 n2
 go_enter Tryz.func14, Tryz.ntmps14
 go_wp2_with fail
 have HB1 := Lib.hid (blk_new (w := w) (.cells #[.string op, .int .i64 t.1, .bool t.2, .int .u64 num, .int .i64 v, .bool gl, .int .i64 ln, .int .i64 cl, .slice A kids.length c] 27))
 have HF1 := Lib.hid (frm_alloc w (.cells #[.string op, .int .i64 t.1, .bool t.2, .int .u64 num, .int .i64 v, .bool gl, .int .i64 ln, .int .i64 cl, .slice A kids.length c] 27))
 obtain ⟨w1, hw1⟩ : ∃ w1, w1 = w.alloc (.cells #[.string op, .int .i64 t.1, .bool t.2, .int .u64 num, .int .i64 v, .bool gl, .int .i64 ln, .int .i64 cl, .slice A kids.length c] 27) := ⟨_, rfl⟩
 have hs1 := Lib.hid (show w1.heap.size = w.heap.size + 1 by rw [hw1]; simp)
 rw [← hw1] at HB1 HF1 ⊢
 clear hw1
 go_wp2_with fail
 have HR0 := Lib.hid (show Row (w1.alloc (.cells #[] 24)) 24 u64 (.slice (some ⟨w.heap.size + 1, 0, none⟩) 0 0) ([] : List Nat) from ⟨by simp, .inr ⟨w.heap.size + 1, 0, #[], rfl, Nat.zero_le _, blk_new_at _ hs1.out.symm, Nat.zero_le _, Nat.zero_le _, by simp, by simp⟩⟩)
 have HF2 := Lib.hid (HF1.out.alloc (.cells #[] 24))
 have HB2 := Lib.hid (blk_alloc HB1.out (.cells #[] 24))
 go_loopw [7, 8] (fun v7 v8 w' => ∃ k : Nat, k ≤ kids.length ∧ v8 = .int .i64 k ∧ Hid (Row w' 24 u64 v7 ((evalL vs is kids).take k)) ∧ Hid (Frm (fun _ => False) w w') ∧ Hid (w'.heap[w.heap.size]? = some (.cells #[.string op, .int .i64 t.1, .bool t.2, .int .u64 num, .int .i64 v, .bool gl, .int .i64 ln, .int .i64 cl, .slice A kids.length c] 27)) ∧ Hid (∀ g, v7.ownBlock = some g → w.heap.size + 1 ≤ g)) (fun _ v8 _ => kids.length - (intOf v8).toNat)
 case atStart => exact ⟨0, Nat.zero_le _, rfl, HR0, HF2, HB2, Lib.hid fun g hg => by cases hg; exact Nat.le_refl _⟩
 case round =>
  obtain ⟨k, hk, rfl, HS, HF, HB, HO⟩ := hrel
  have b8 : wr.cell? ⟨w.heap.size, 8, none⟩ = some (.slice A kids.length c) := blk_cell HB.out 8
  have hmost : kids.length ≤ 4194304 := Nat.le_trans (count_len kids) HU.out.most
  by_cases hlt : k < kids.length
  ·have hltI : (k : Int) < (kids.length : Int) := by omega
   obtain ⟨x, hx⟩ : ∃ x, kids[k]? = some x := ⟨_, List.getElem?_eq_getElem (by omega)⟩
   obtain ⟨g, o, rfl, hT⟩ := (HU.out.mem.frm0 HF.out).get hx
   rw [Nat.zero_add] at hT
   obtain ⟨a0, a1, a2, a3, a4, a5, a6, a7, a8, hV, c0, c1, c2, c3, c4, c5, c6, c7, c8⟩ := hT.load
   have HC := Lib.hid (HU.out.call k x hx wr _ hV (HU.out.vars.frm0 HF.out) (HU.out.nums.frm0 HF.out))
   have htk := Lib.hid (show (evalL vs is kids).take (k + 1) = (evalL vs is kids).take k ++ [evalX vs is x] by rw [List.take_add_one, evalL_get, hx]; rfl)
   have hl7 := Lib.hid (show ((evalL vs is kids).take k).length ≤ 4194304 by rw [List.length_take, evalL_len]; omega)
   obtain ⟨ys, hys⟩ : ∃ ys, ys = (evalL vs is kids).take k := ⟨_, rfl⟩
   rw [← hys] at HS htk hl7
   obtain ⟨z, hz⟩ : ∃ z, z = evalX vs is x := ⟨_, rfl⟩
   rw [← hz] at HC htk
   obtain ⟨RA, RC, rfl, _⟩ := sees_slice HS.out.sees
   clear hT hV hx hys hz
   go_wp2_with fail
   refine HC.out.mono ?_
   rintro e w2 ⟨rfl, hf⟩
   have HF3 := Lib.hid (frm_then HF.out hf)
   have HB3 := Lib.hid (blk_frm HB.out hf id)
   have HS2 := Lib.hid (HS.out.frm0 hf)
   clear hf
   go_wp2_with (at_builtin; refine wpList_append_row rfl _ _ 29 rfl 24 i0 (.int .u64 0) 8 Tryz.underlying29 hi hz0 hz1 hz2 rfl (enc := u64) (.slice RA ys.length RC) ys rfl (HS2.out.frm0 (frm_alloc _ _)) ⟨w2.heap.size, 0, none⟩ 1 z rfl ?c1 rfl ?c2 ?c3 ?_)
   case c1 => exact blk_cell (blk_new _) 0
   case c2 => have := hl7.out; have : maxLen = 9223372036854775807 := rfl; omega
   case c3 => have := hl7.out; omega
   intro g' cap' w7 hrow hfr hg hlt7
   have HS7 := Lib.hid (show Row w7 24 u64 (.slice (some ⟨g', 0, none⟩) (ys.length + 1) cap') ((evalL vs is kids).take (k + 1)) by rw [htk.out]; exact hrow)
   have hS : ∀ b, (Value.slice RA ys.length RC).ownBlock = some b → w.heap.size + 1 ≤ b := HO.out
   have HF7 := Lib.hid ((frm_then HF3.out (frm_alloc _ _)).trans hfr fun x hx h => by have := hS x h; omega)
   have HB7 := Lib.hid (blk_frm (blk_alloc HB3.out _) hfr fun h => by have := hS _ h; omega)
   have HO7 := Lib.hid (show w.heap.size + 1 ≤ g' by rcases hg with h | h; exact hS g' h; rw [h]; have := lt_of_block HB3.out; simp; omega)
   clear hrow hfr hg hS
   go_wp2
   go_roundw
   case rel => exact ⟨k + 1, by omega, by first | rfl | go_num, HS7, HF7, HB7, Lib.hid fun g'' hg'' => by cases hg''; exact HO7.out⟩
   case measure => simp [intOf]; omega
  ·obtain rfl : k = kids.length := by omega
   rw [List.take_of_length_le (by rw [evalL_len]; exact Nat.le_refl _)] at HS
   have hltI : ¬ (kids.length : Int) < (kids.length : Int) := by omega
   clear hlt hk
   obtain ⟨x, hx⟩ : ∃ x, kids[m]? = some x := ⟨_, List.getElem?_eq_getElem (by have := HM.out; omega)⟩
   obtain ⟨g, o, rfl, hT⟩ := (HU.out.mem.frm0 HF.out).get hx
   rw [Nat.zero_add] at hT
   obtain ⟨a0, a1, a2, a3, a4, a5, a6, a7, a8, hV, c0, c1, c2, c3, c4, c5, c6, c7, c8⟩ := hT.load
   have hcx := Nat.le_trans (countL_mem hx) HU.out.most
   have HC := Lib.hid (Type_calls lim vs vv (countX x) x (Nat.le_refl _) hcx wr _ hV (HU.out.vars.frm0 HF.out))
   have HLX := Lib.hid (show typeX vs x = (r, true) from Prod.ext ((last_kid vs HM.out hx).symm.trans HR.out) (HU.out.ok m x hx))
   rw [HLX.out] at HC
   have hmi : (kids.length : Int) - 1 = (m : Int) := by have := HM.out; omega
   have hmlt : (m : Int) < (kids.length : Int) := by have := HM.out; omega
   clear hT hV hx hcx
   go_wp2_with fail
   refine HC.out.mono ?_
   rintro e w2 ⟨rfl, hf⟩
   have HF2 := Lib.hid (frm_then HF.out hf)
   have HB2 := Lib.hid (blk_frm HB.out hf id)
   have HS2 := Lib.hid (HS.out.frm0 hf)
   clear hf c0 c1 c2 c3 c4 c5 c6 c7 c8 b8
   have x0 : w2.cell? ⟨w.heap.size, 0, none⟩ = some (.string op) := blk_cell HB2.out 0
   have x1 : w2.cell? ⟨w.heap.size, 1, none⟩ = some (.int .i64 t.1) := blk_cell HB2.out 1
   have x2 : w2.cell? ⟨w.heap.size, 2, none⟩ = some (.bool t.2) := blk_cell HB2.out 2
   have xs : w.heap.size < w2.heap.size := lt_of_block HB2.out
   have hY : Row w2 24 u64 u7 [a] := by rw [← HE.out]; exact HS2.out
   obtain ⟨RA, RC, rfl, hcell⟩ := sees_slice hY.sees
   obtain ⟨g7, o7, rfl, _⟩ := hcell 0 _ rfl
   rw [← HE.out] at hY
   obtain ⟨_, _, e, y0⟩ := hcell 0 _ rfl
   cases e
   have y0 : w2.cell? ⟨g7, o7, none⟩ = some (.int .u64 a) := by rw [Nat.add_zero] at y0; exact y0
   have yl0 := World.block_lt_of_cell? _ _ y0
   clear hcell hY
   go_wp2_with fail
   obtain ⟨w3, hw3⟩ : ∃ w3, w3 = w2.alloc (.cells #[.int .i64 r.1, .bool r.2] 23) := ⟨_, rfl⟩
   have HF3 := Lib.hid (show Frm (fun _ => False) w w3 by rw [hw3]; exact frm_then HF2.out (frm_alloc _ _))
   have hf3 : Frm (fun _ => False) w2 w3 := by rw [hw3]; exact frm_alloc _ _
   have t0 : w3.cell? ⟨w2.heap.size, 0, none⟩ = some (.int .i64 r.1) := by rw [hw3]; exact blk_cell (blk_new _) 0
   have t1 : w3.cell? ⟨w2.heap.size, 1, none⟩ = some (.bool r.2) := by rw [hw3]; exact blk_cell (blk_new _) 1
   rw [← hw3]
   clear hw3
   have x0 := frm_cell hf3 x0
   have x1 := frm_cell hf3 x1
   have x2 := frm_cell hf3 x2
   have y0 := frm_cell hf3 y0
   clear hf3
   refine Plan.wp_region_plan [0, 0, 2, 0, 8, 24, 63, 127] [.mk [0, 1, 2, 3, 4, 5] 6 []] [7] (by kernel_rfl) (by kernel_rfl) ?_
   simp only [Plan.wayOf, Plan.pickAll, List.getElem?_cons_zero, List.getElem?_cons_succ, List.getD_eq_getElem?_getD, Option.getD_some]
   refine Plan.wpWay_seg ?_
   repeat go_big_quiet_step (fail)
   refine wpQuiet_nil ?_; refine Plan.wpWay_act ?_
   go_wp2_with fail
   refine (HCA.out _).mono ?_
   rintro e w4 ⟨rfl, hf⟩
   have HF4 := Lib.hid (frm_then HF3.out.drew hf)
   clear hf
   go_wp2_with fail
   refine And.intro Plan.again_nil ?_
   refine Plan.wpWay_last ?_
   repeat go_big_quiet_step (fail)
   refine wpQuiet_nil ?_; refine NoPanic.normal ?_
   go_wp2
   go_ret
   exact ⟨rfl, HF4.out⟩
set_option maxRecDepth 100000 in
set_option maxHeartbeats 2000000 in
theorem eval_ite {lim : Nat} (w : World) (op : ByteArray) (t : Ty) (num : Nat) (v : Int) (gl : Bool) (ln cl : Int) (A : Option Addr) (c : Nat) (kids : List Tree) (vv iv : Value) (vs : List Ty) (is : List Nat) (h : Kid w lim vv iv vs is A kids) (m : Nat) (hm : kids.length = m + 1) (n1 : op ≠ sNum) (n2 : op ≠ sVar) (a b d : Nat) (r : Ty) (hr : lastX vs kids = r) (he : evalL vs is kids = [a, b, d]) (n3 : op = sIte) (res : Nat) (hres : res = if a = 1 then b else d) :
  Calls Tryz.prog 14 #[.agg #[.string op, .int .i64 t.1, .bool t.2, .int .u64 num, .int .i64 v, .bool gl, .int .i64 ln, .int .i64 cl, .slice A kids.length c], vv, iv] w (NPost w (res)) := by
 have d1 : (op.toList == [110, 117, 109]) = false := by rw [eqS]; exact decide_eq_false n1
 have d2 : (op.toList == [118, 97, 114]) = false := by rw [eqS]; exact decide_eq_false n2
 obtain ⟨i0, hi, hz0, hz1, hz2⟩ := info_parts info_u64
 have HU := Lib.hid h
 have HM := Lib.hid hm
 have d3 : (op.toList == [99, 97, 115, 116]) = false := by rw [eqS, n3]; decide
 have d4 : (op.toList == [105, 116, 101]) = true := by rw [eqS]; exact decide_eq_true n3
 have HR := Lib.hid hr
 have HE := Lib.hid he
 have HW := Lib.hid hres
 clear n3 hr he hres
 clear h hm n1 n2
 go_enter Tryz.func14, Tryz.ntmps14
 go_wp2_with fail
 have HB1 := Lib.hid (blk_new (w := w) (.cells #[.string op, .int .i64 t.1, .bool t.2, .int .u64 num, .int .i64 v, .bool gl, .int .i64 ln, .int .i64 cl, .slice A kids.length c] 27))
 have HF1 := Lib.hid (frm_alloc w (.cells #[.string op, .int .i64 t.1, .bool t.2, .int .u64 num, .int .i64 v, .bool gl, .int .i64 ln, .int .i64 cl, .slice A kids.length c] 27))
 obtain ⟨w1, hw1⟩ : ∃ w1, w1 = w.alloc (.cells #[.string op, .int .i64 t.1, .bool t.2, .int .u64 num, .int .i64 v, .bool gl, .int .i64 ln, .int .i64 cl, .slice A kids.length c] 27) := ⟨_, rfl⟩
 have hs1 := Lib.hid (show w1.heap.size = w.heap.size + 1 by rw [hw1]; simp)
 rw [← hw1] at HB1 HF1 ⊢
 clear hw1
 go_wp2_with fail
 have HR0 := Lib.hid (show Row (w1.alloc (.cells #[] 24)) 24 u64 (.slice (some ⟨w.heap.size + 1, 0, none⟩) 0 0) ([] : List Nat) from ⟨by simp, .inr ⟨w.heap.size + 1, 0, #[], rfl, Nat.zero_le _, blk_new_at _ hs1.out.symm, Nat.zero_le _, Nat.zero_le _, by simp, by simp⟩⟩)
 have HF2 := Lib.hid (HF1.out.alloc (.cells #[] 24))
 have HB2 := Lib.hid (blk_alloc HB1.out (.cells #[] 24))
 go_loopw [7, 8] (fun v7 v8 w' => ∃ k : Nat, k ≤ kids.length ∧ v8 = .int .i64 k ∧ Hid (Row w' 24 u64 v7 ((evalL vs is kids).take k)) ∧ Hid (Frm (fun _ => False) w w') ∧ Hid (w'.heap[w.heap.size]? = some (.cells #[.string op, .int .i64 t.1, .bool t.2, .int .u64 num, .int .i64 v, .bool gl, .int .i64 ln, .int .i64 cl, .slice A kids.length c] 27)) ∧ Hid (∀ g, v7.ownBlock = some g → w.heap.size + 1 ≤ g)) (fun _ v8 _ => kids.length - (intOf v8).toNat)
 case atStart => exact ⟨0, Nat.zero_le _, rfl, HR0, HF2, HB2, Lib.hid fun g hg => by cases hg; exact Nat.le_refl _⟩
 case round =>
  obtain ⟨k, hk, rfl, HS, HF, HB, HO⟩ := hrel
  have b8 : wr.cell? ⟨w.heap.size, 8, none⟩ = some (.slice A kids.length c) := blk_cell HB.out 8
  have hmost : kids.length ≤ 4194304 := Nat.le_trans (count_len kids) HU.out.most
  by_cases hlt : k < kids.length
  ·have hltI : (k : Int) < (kids.length : Int) := by omega
   obtain ⟨x, hx⟩ : ∃ x, kids[k]? = some x := ⟨_, List.getElem?_eq_getElem (by omega)⟩
   obtain ⟨g, o, rfl, hT⟩ := (HU.out.mem.frm0 HF.out).get hx
   rw [Nat.zero_add] at hT
   obtain ⟨a0, a1, a2, a3, a4, a5, a6, a7, a8, hV, c0, c1, c2, c3, c4, c5, c6, c7, c8⟩ := hT.load
   have HC := Lib.hid (HU.out.call k x hx wr _ hV (HU.out.vars.frm0 HF.out) (HU.out.nums.frm0 HF.out))
   have htk := Lib.hid (show (evalL vs is kids).take (k + 1) = (evalL vs is kids).take k ++ [evalX vs is x] by rw [List.take_add_one, evalL_get, hx]; rfl)
   have hl7 := Lib.hid (show ((evalL vs is kids).take k).length ≤ 4194304 by rw [List.length_take, evalL_len]; omega)
   obtain ⟨ys, hys⟩ : ∃ ys, ys = (evalL vs is kids).take k := ⟨_, rfl⟩
   rw [← hys] at HS htk hl7
   obtain ⟨z, hz⟩ : ∃ z, z = evalX vs is x := ⟨_, rfl⟩
   rw [← hz] at HC htk
   obtain ⟨RA, RC, rfl, _⟩ := sees_slice HS.out.sees
   clear hT hV hx hys hz
   go_wp2_with fail
   refine HC.out.mono ?_
   rintro e w2 ⟨rfl, hf⟩
   have HF3 := Lib.hid (frm_then HF.out hf)
   have HB3 := Lib.hid (blk_frm HB.out hf id)
   have HS2 := Lib.hid (HS.out.frm0 hf)
   clear hf
   go_wp2_with (at_builtin; refine wpList_append_row rfl _ _ 29 rfl 24 i0 (.int .u64 0) 8 Tryz.underlying29 hi hz0 hz1 hz2 rfl (enc := u64) (.slice RA ys.length RC) ys rfl (HS2.out.frm0 (frm_alloc _ _)) ⟨w2.heap.size, 0, none⟩ 1 z rfl ?c1 rfl ?c2 ?c3 ?_)
   case c1 => exact blk_cell (blk_new _) 0
   case c2 => have := hl7.out; have : maxLen = 9223372036854775807 := rfl; omega
   case c3 => have := hl7.out; omega
   intro g' cap' w7 hrow hfr hg hlt7
   have HS7 := Lib.hid (show Row w7 24 u64 (.slice (some ⟨g', 0, none⟩) (ys.length + 1) cap') ((evalL vs is kids).take (k + 1)) by rw [htk.out]; exact hrow)
   have hS : ∀ b, (Value.slice RA ys.length RC).ownBlock = some b → w.heap.size + 1 ≤ b := HO.out
   have HF7 := Lib.hid ((frm_then HF3.out (frm_alloc _ _)).trans hfr fun x hx h => by have := hS x h; omega)
   have HB7 := Lib.hid (blk_frm (blk_alloc HB3.out _) hfr fun h => by have := hS _ h; omega)
   have HO7 := Lib.hid (show w.heap.size + 1 ≤ g' by rcases hg with h | h; exact hS g' h; rw [h]; have := lt_of_block HB3.out; simp; omega)
   clear hrow hfr hg hS
   go_wp2
   go_roundw
   case rel => exact ⟨k + 1, by omega, by first | rfl | go_num, HS7, HF7, HB7, Lib.hid fun g'' hg'' => by cases hg''; exact HO7.out⟩
   case measure => simp [intOf]; omega
  ·obtain rfl : k = kids.length := by omega
   rw [List.take_of_length_le (by rw [evalL_len]; exact Nat.le_refl _)] at HS
   have hltI : ¬ (kids.length : Int) < (kids.length : Int) := by omega
   clear hlt hk
   obtain ⟨x, hx⟩ : ∃ x, kids[m]? = some x := ⟨_, List.getElem?_eq_getElem (by have := HM.out; omega)⟩
   obtain ⟨g, o, rfl, hT⟩ := (HU.out.mem.frm0 HF.out).get hx
   rw [Nat.zero_add] at hT
   obtain ⟨a0, a1, a2, a3, a4, a5, a6, a7, a8, hV, c0, c1, c2, c3, c4, c5, c6, c7, c8⟩ := hT.load
   have hcx := Nat.le_trans (countL_mem hx) HU.out.most
   have HC := Lib.hid (Type_calls lim vs vv (countX x) x (Nat.le_refl _) hcx wr _ hV (HU.out.vars.frm0 HF.out))
   have HLX := Lib.hid (show typeX vs x = (r, true) from Prod.ext ((last_kid vs HM.out hx).symm.trans HR.out) (HU.out.ok m x hx))
   rw [HLX.out] at HC
   have hmi : (kids.length : Int) - 1 = (m : Int) := by have := HM.out; omega
   have hmlt : (m : Int) < (kids.length : Int) := by have := HM.out; omega
   clear hT hV hx hcx
   go_wp2_with fail
   refine HC.out.mono ?_
   rintro e w2 ⟨rfl, hf⟩
   have HF2 := Lib.hid (frm_then HF.out hf)
   have HB2 := Lib.hid (blk_frm HB.out hf id)
   have HS2 := Lib.hid (HS.out.frm0 hf)
   clear hf c0 c1 c2 c3 c4 c5 c6 c7 c8 b8
   have x0 : w2.cell? ⟨w.heap.size, 0, none⟩ = some (.string op) := blk_cell HB2.out 0
   have x1 : w2.cell? ⟨w.heap.size, 1, none⟩ = some (.int .i64 t.1) := blk_cell HB2.out 1
   have x2 : w2.cell? ⟨w.heap.size, 2, none⟩ = some (.bool t.2) := blk_cell HB2.out 2
   have xs : w.heap.size < w2.heap.size := lt_of_block HB2.out
   have hY : Row w2 24 u64 u7 [a, b, d] := by rw [← HE.out]; exact HS2.out
   obtain ⟨RA, RC, rfl, hcell⟩ := sees_slice hY.sees
   obtain ⟨g7, o7, rfl, _⟩ := hcell 0 _ rfl
   rw [← HE.out] at hY
   obtain ⟨_, _, e, y0⟩ := hcell 0 _ rfl
   cases e
   have y0 : w2.cell? ⟨g7, o7, none⟩ = some (.int .u64 a) := by rw [Nat.add_zero] at y0; exact y0
   have yl0 := World.block_lt_of_cell? _ _ y0
   obtain ⟨_, _, e, y1⟩ := hcell 1 _ rfl
   cases e
   have y1 : w2.cell? ⟨g7, o7 + 1, none⟩ = some (.int .u64 b) := y1
   have yl1 := World.block_lt_of_cell? _ _ y1
   obtain ⟨_, _, e, y2⟩ := hcell 2 _ rfl
   cases e
   have y2 : w2.cell? ⟨g7, o7 + 2, none⟩ = some (.int .u64 d) := y2
   have yl2 := World.block_lt_of_cell? _ _ y2
   clear hcell hY
   have HF3 := Lib.hid (frm_then HF2.out (frm_alloc w2 (.cells #[.int .i64 r.1, .bool r.2] 23)))
   by_cases ha : a = 1
   ·subst ha
    have hi1 := Lib.hid (show b = res by rw [HW.out]; exact (if_pos rfl).symm)
    go_wp2
    go_ret
    exact ⟨by rw [← hi1.out]; rfl, HF3.out⟩
   ·have hi1 := Lib.hid (show d = res by rw [HW.out]; exact (if_neg ha).symm)
    go_wp2
    go_ret
    exact ⟨by rw [← hi1.out]; rfl, HF3.out⟩
set_option maxRecDepth 100000 in
set_option maxHeartbeats 2000000 in
theorem eval_turn {lim : Nat} (w : World) (op : ByteArray) (t : Ty) (num : Nat) (v : Int) (gl : Bool) (ln cl : Int) (A : Option Addr) (c : Nat) (kids : List Tree) (vv iv : Value) (vs : List Ty) (is : List Nat) (h : Kid w lim vv iv vs is A kids) (m : Nat) (hm : kids.length = m + 1) (n1 : op ≠ sNum) (n2 : op ≠ sVar) (a : Nat) (r : Ty) (hr : lastX vs kids = r) (he : evalL vs is kids = [a]) (n3 : op = sUNot ∨ op = sUNeg ∨ op = sUTil) (ha : a < 2 ^ 64) :
  Calls Tryz.prog 14 #[.agg #[.string op, .int .i64 t.1, .bool t.2, .int .u64 num, .int .i64 v, .bool gl, .int .i64 ln, .int .i64 cl, .slice A kids.length c], vv, iv] w (NPost w ((turnF r (op.extract 1 op.size) a).1)) := by
 have d1 : (op.toList == [110, 117, 109]) = false := by rw [eqS]; exact decide_eq_false n1
 have d2 : (op.toList == [118, 97, 114]) = false := by rw [eqS]; exact decide_eq_false n2
 obtain ⟨i0, hi, hz0, hz1, hz2⟩ := info_parts info_u64
 have HU := Lib.hid h
 have HM := Lib.hid hm
 have d3 : (op.toList == [99, 97, 115, 116]) = false := by rw [eqS]; rcases n3 with rfl | rfl | rfl <;> decide
 have d4 : (op.toList == [105, 116, 101]) = false := by rw [eqS]; rcases n3 with rfl | rfl | rfl <;> decide
 have d5 : (op.toList == [117, 33]) = true ∨ ((op.toList == [117, 33]) = false ∧ (op.toList == [117, 45]) = true) ∨ ((op.toList == [117, 33]) = false ∧ (op.toList == [117, 45]) = false ∧ (op.toList == [117, 126]) = true) := by
  rcases n3 with rfl | rfl | rfl
  ·exact .inl (by rw [eqS]; rfl)
  ·exact .inr (.inl ⟨by rw [eqS]; decide, by rw [eqS]; rfl⟩)
  ·exact .inr (.inr ⟨by rw [eqS]; decide, by rw [eqS]; decide, by rw [eqS]; rfl⟩)
 have hsz : op.size = 2 := by rcases n3 with rfl | rfl | rfl <;> rfl
 have HR := Lib.hid hr
 have HE := Lib.hid he
 have HT := Lib.hid fun w1 => Turn_calls w1 r (op.extract 1 op.size) a ha
 have HZ := Lib.hid hsz
 have hs0 : 1 ≤ op.size := by omega
 have hs9 : op.size ≤ 9223372036854775807 := by omega
 generalize turnF r (op.extract 1 op.size) a = tr at *
 clear n3 ha hr he hsz
 clear h hm n1 n2
 go_enter Tryz.func14, Tryz.ntmps14
 go_wp2_with fail
 have HB1 := Lib.hid (blk_new (w := w) (.cells #[.string op, .int .i64 t.1, .bool t.2, .int .u64 num, .int .i64 v, .bool gl, .int .i64 ln, .int .i64 cl, .slice A kids.length c] 27))
 have HF1 := Lib.hid (frm_alloc w (.cells #[.string op, .int .i64 t.1, .bool t.2, .int .u64 num, .int .i64 v, .bool gl, .int .i64 ln, .int .i64 cl, .slice A kids.length c] 27))
 obtain ⟨w1, hw1⟩ : ∃ w1, w1 = w.alloc (.cells #[.string op, .int .i64 t.1, .bool t.2, .int .u64 num, .int .i64 v, .bool gl, .int .i64 ln, .int .i64 cl, .slice A kids.length c] 27) := ⟨_, rfl⟩
 have hs1 := Lib.hid (show w1.heap.size = w.heap.size + 1 by rw [hw1]; simp)
 rw [← hw1] at HB1 HF1 ⊢
 clear hw1
 go_wp2_with fail
 have HR0 := Lib.hid (show Row (w1.alloc (.cells #[] 24)) 24 u64 (.slice (some ⟨w.heap.size + 1, 0, none⟩) 0 0) ([] : List Nat) from ⟨by simp, .inr ⟨w.heap.size + 1, 0, #[], rfl, Nat.zero_le _, blk_new_at _ hs1.out.symm, Nat.zero_le _, Nat.zero_le _, by simp, by simp⟩⟩)
 have HF2 := Lib.hid (HF1.out.alloc (.cells #[] 24))
 have HB2 := Lib.hid (blk_alloc HB1.out (.cells #[] 24))
 go_loopw [7, 8] (fun v7 v8 w' => ∃ k : Nat, k ≤ kids.length ∧ v8 = .int .i64 k ∧ Hid (Row w' 24 u64 v7 ((evalL vs is kids).take k)) ∧ Hid (Frm (fun _ => False) w w') ∧ Hid (w'.heap[w.heap.size]? = some (.cells #[.string op, .int .i64 t.1, .bool t.2, .int .u64 num, .int .i64 v, .bool gl, .int .i64 ln, .int .i64 cl, .slice A kids.length c] 27)) ∧ Hid (∀ g, v7.ownBlock = some g → w.heap.size + 1 ≤ g)) (fun _ v8 _ => kids.length - (intOf v8).toNat)
 case atStart => exact ⟨0, Nat.zero_le _, rfl, HR0, HF2, HB2, Lib.hid fun g hg => by cases hg; exact Nat.le_refl _⟩
 case round =>
  obtain ⟨k, hk, rfl, HS, HF, HB, HO⟩ := hrel
  have b8 : wr.cell? ⟨w.heap.size, 8, none⟩ = some (.slice A kids.length c) := blk_cell HB.out 8
  have hmost : kids.length ≤ 4194304 := Nat.le_trans (count_len kids) HU.out.most
  by_cases hlt : k < kids.length
  ·have hltI : (k : Int) < (kids.length : Int) := by omega
   obtain ⟨x, hx⟩ : ∃ x, kids[k]? = some x := ⟨_, List.getElem?_eq_getElem (by omega)⟩
   obtain ⟨g, o, rfl, hT⟩ := (HU.out.mem.frm0 HF.out).get hx
   rw [Nat.zero_add] at hT
   obtain ⟨a0, a1, a2, a3, a4, a5, a6, a7, a8, hV, c0, c1, c2, c3, c4, c5, c6, c7, c8⟩ := hT.load
   have HC := Lib.hid (HU.out.call k x hx wr _ hV (HU.out.vars.frm0 HF.out) (HU.out.nums.frm0 HF.out))
   have htk := Lib.hid (show (evalL vs is kids).take (k + 1) = (evalL vs is kids).take k ++ [evalX vs is x] by rw [List.take_add_one, evalL_get, hx]; rfl)
   have hl7 := Lib.hid (show ((evalL vs is kids).take k).length ≤ 4194304 by rw [List.length_take, evalL_len]; omega)
   obtain ⟨ys, hys⟩ : ∃ ys, ys = (evalL vs is kids).take k := ⟨_, rfl⟩
   rw [← hys] at HS htk hl7
   obtain ⟨z, hz⟩ : ∃ z, z = evalX vs is x := ⟨_, rfl⟩
   rw [← hz] at HC htk
   obtain ⟨RA, RC, rfl, _⟩ := sees_slice HS.out.sees
   clear hT hV hx hys hz
   go_wp2_with fail
   refine HC.out.mono ?_
   rintro e w2 ⟨rfl, hf⟩
   have HF3 := Lib.hid (frm_then HF.out hf)
   have HB3 := Lib.hid (blk_frm HB.out hf id)
   have HS2 := Lib.hid (HS.out.frm0 hf)
   clear hf
   go_wp2_with (at_builtin; refine wpList_append_row rfl _ _ 29 rfl 24 i0 (.int .u64 0) 8 Tryz.underlying29 hi hz0 hz1 hz2 rfl (enc := u64) (.slice RA ys.length RC) ys rfl (HS2.out.frm0 (frm_alloc _ _)) ⟨w2.heap.size, 0, none⟩ 1 z rfl ?c1 rfl ?c2 ?c3 ?_)
   case c1 => exact blk_cell (blk_new _) 0
   case c2 => have := hl7.out; have : maxLen = 9223372036854775807 := rfl; omega
   case c3 => have := hl7.out; omega
   intro g' cap' w7 hrow hfr hg hlt7
   have HS7 := Lib.hid (show Row w7 24 u64 (.slice (some ⟨g', 0, none⟩) (ys.length + 1) cap') ((evalL vs is kids).take (k + 1)) by rw [htk.out]; exact hrow)
   have hS : ∀ b, (Value.slice RA ys.length RC).ownBlock = some b → w.heap.size + 1 ≤ b := HO.out
   have HF7 := Lib.hid ((frm_then HF3.out (frm_alloc _ _)).trans hfr fun x hx h => by have := hS x h; omega)
   have HB7 := Lib.hid (blk_frm (blk_alloc HB3.out _) hfr fun h => by have := hS _ h; omega)
   have HO7 := Lib.hid (show w.heap.size + 1 ≤ g' by rcases hg with h | h; exact hS g' h; rw [h]; have := lt_of_block HB3.out; simp; omega)
   clear hrow hfr hg hS
   go_wp2
   go_roundw
   case rel => exact ⟨k + 1, by omega, by first | rfl | go_num, HS7, HF7, HB7, Lib.hid fun g'' hg'' => by cases hg''; exact HO7.out⟩
   case measure => simp [intOf]; omega
  ·obtain rfl : k = kids.length := by omega
   rw [List.take_of_length_le (by rw [evalL_len]; exact Nat.le_refl _)] at HS
   have hltI : ¬ (kids.length : Int) < (kids.length : Int) := by omega
   clear hlt hk
   obtain ⟨x, hx⟩ : ∃ x, kids[m]? = some x := ⟨_, List.getElem?_eq_getElem (by have := HM.out; omega)⟩
   obtain ⟨g, o, rfl, hT⟩ := (HU.out.mem.frm0 HF.out).get hx
   rw [Nat.zero_add] at hT
   obtain ⟨a0, a1, a2, a3, a4, a5, a6, a7, a8, hV, c0, c1, c2, c3, c4, c5, c6, c7, c8⟩ := hT.load
   have hcx := Nat.le_trans (countL_mem hx) HU.out.most
   have HC := Lib.hid (Type_calls lim vs vv (countX x) x (Nat.le_refl _) hcx wr _ hV (HU.out.vars.frm0 HF.out))
   have HLX := Lib.hid (show typeX vs x = (r, true) from Prod.ext ((last_kid vs HM.out hx).symm.trans HR.out) (HU.out.ok m x hx))
   rw [HLX.out] at HC
   have hmi : (kids.length : Int) - 1 = (m : Int) := by have := HM.out; omega
   have hmlt : (m : Int) < (kids.length : Int) := by have := HM.out; omega
   clear hT hV hx hcx
   go_wp2_with fail
   refine HC.out.mono ?_
   rintro e w2 ⟨rfl, hf⟩
   have HF2 := Lib.hid (frm_then HF.out hf)
   have HB2 := Lib.hid (blk_frm HB.out hf id)
   have HS2 := Lib.hid (HS.out.frm0 hf)
   clear hf c0 c1 c2 c3 c4 c5 c6 c7 c8 b8
   have x0 : w2.cell? ⟨w.heap.size, 0, none⟩ = some (.string op) := blk_cell HB2.out 0
   have x1 : w2.cell? ⟨w.heap.size, 1, none⟩ = some (.int .i64 t.1) := blk_cell HB2.out 1
   have x2 : w2.cell? ⟨w.heap.size, 2, none⟩ = some (.bool t.2) := blk_cell HB2.out 2
   have xs : w.heap.size < w2.heap.size := lt_of_block HB2.out
   have hY : Row w2 24 u64 u7 [a] := by rw [← HE.out]; exact HS2.out
   obtain ⟨RA, RC, rfl, hcell⟩ := sees_slice hY.sees
   obtain ⟨g7, o7, rfl, _⟩ := hcell 0 _ rfl
   rw [← HE.out] at hY
   obtain ⟨_, _, e, y0⟩ := hcell 0 _ rfl
   cases e
   have y0 : w2.cell? ⟨g7, o7, none⟩ = some (.int .u64 a) := by rw [Nat.add_zero] at y0; exact y0
   have yl0 := World.block_lt_of_cell? _ _ y0
   clear hcell hY
   rcases d5 with d5 | ⟨d5, d6⟩ | ⟨d5, d6, d7⟩
   ·skip
    go_wp2_with fail
    obtain ⟨w3, hw3⟩ : ∃ w3, w3 = w2.alloc (.cells #[.int .i64 r.1, .bool r.2] 23) := ⟨_, rfl⟩
    have HF3 := Lib.hid (show Frm (fun _ => False) w w3 by rw [hw3]; exact frm_then HF2.out (frm_alloc _ _))
    have hf3 : Frm (fun _ => False) w2 w3 := by rw [hw3]; exact frm_alloc _ _
    have t0 : w3.cell? ⟨w2.heap.size, 0, none⟩ = some (.int .i64 r.1) := by rw [hw3]; exact blk_cell (blk_new _) 0
    have t1 : w3.cell? ⟨w2.heap.size, 1, none⟩ = some (.bool r.2) := by rw [hw3]; exact blk_cell (blk_new _) 1
    rw [← hw3]
    clear hw3
    have x0 := frm_cell hf3 x0
    have x1 := frm_cell hf3 x1
    have x2 := frm_cell hf3 x2
    have y0 := frm_cell hf3 y0
    clear hf3
    refine Plan.wp_region_plan [0, 0, 2, 6, 0, 16, 48, 127, 255, 511, 511, 1023, 4095] [.mk [0, 1, 2, 3, 4, 5, 6] 7 []] [8, 9, 10, 11, 12] (by kernel_rfl) (by kernel_rfl) ?_
    simp only [Plan.wayOf, Plan.pickAll, List.getElem?_cons_zero, List.getElem?_cons_succ, List.getD_eq_getElem?_getD, Option.getD_some]
    refine Plan.wpWay_seg ?_
    repeat go_big_quiet_step (fail)
    refine wpQuiet_nil ?_; refine Plan.wpWay_act ?_
    go_wp2_with fail
    refine (HT.out _).mono ?_
    rintro e w4 ⟨rfl, hf⟩
    have HF4 := Lib.hid (frm_then HF3.out.drew hf)
    clear hf
    go_wp2_with fail
    refine And.intro Plan.again_nil ?_
    refine Plan.wpWay_last ?_
    repeat go_big_quiet_step (fail)
    refine wpQuiet_nil ?_; refine NoPanic.normal ?_
    go_wp2
    go_ret
    exact ⟨rfl, HF4.out⟩
   ·skip
    go_wp2_with fail
    obtain ⟨w3, hw3⟩ : ∃ w3, w3 = w2.alloc (.cells #[.int .i64 r.1, .bool r.2] 23) := ⟨_, rfl⟩
    have HF3 := Lib.hid (show Frm (fun _ => False) w w3 by rw [hw3]; exact frm_then HF2.out (frm_alloc _ _))
    have hf3 : Frm (fun _ => False) w2 w3 := by rw [hw3]; exact frm_alloc _ _
    have t0 : w3.cell? ⟨w2.heap.size, 0, none⟩ = some (.int .i64 r.1) := by rw [hw3]; exact blk_cell (blk_new _) 0
    have t1 : w3.cell? ⟨w2.heap.size, 1, none⟩ = some (.bool r.2) := by rw [hw3]; exact blk_cell (blk_new _) 1
    rw [← hw3]
    clear hw3
    have x0 := frm_cell hf3 x0
    have x1 := frm_cell hf3 x1
    have x2 := frm_cell hf3 x2
    have y0 := frm_cell hf3 y0
    clear hf3
    refine Plan.wp_region_plan [0, 0, 2, 6, 0, 16, 48, 127, 255, 511, 511, 1023, 4095] [.mk [0, 1, 2, 3, 4, 5, 6] 7 []] [8, 9, 10, 11, 12] (by kernel_rfl) (by kernel_rfl) ?_
    simp only [Plan.wayOf, Plan.pickAll, List.getElem?_cons_zero, List.getElem?_cons_succ, List.getD_eq_getElem?_getD, Option.getD_some]
    refine Plan.wpWay_seg ?_
    repeat go_big_quiet_step (fail)
    refine wpQuiet_nil ?_; refine Plan.wpWay_act ?_
    go_wp2_with fail
    refine (HT.out _).mono ?_
    rintro e w4 ⟨rfl, hf⟩
    have HF4 := Lib.hid (frm_then HF3.out.drew hf)
    clear hf
    go_wp2_with fail
    refine And.intro Plan.again_nil ?_
    refine Plan.wpWay_last ?_
    repeat go_big_quiet_step (fail)
    refine wpQuiet_nil ?_; refine NoPanic.normal ?_
    go_wp2
    go_ret
    exact ⟨rfl, HF4.out⟩
   ·skip
    go_wp2_with fail
    obtain ⟨w3, hw3⟩ : ∃ w3, w3 = w2.alloc (.cells #[.int .i64 r.1, .bool r.2] 23) := ⟨_, rfl⟩
    have HF3 := Lib.hid (show Frm (fun _ => False) w w3 by rw [hw3]; exact frm_then HF2.out (frm_alloc _ _))
    have hf3 : Frm (fun _ => False) w2 w3 := by rw [hw3]; exact frm_alloc _ _
    have t0 : w3.cell? ⟨w2.heap.size, 0, none⟩ = some (.int .i64 r.1) := by rw [hw3]; exact blk_cell (blk_new _) 0
    have t1 : w3.cell? ⟨w2.heap.size, 1, none⟩ = some (.bool r.2) := by rw [hw3]; exact blk_cell (blk_new _) 1
    rw [← hw3]
    clear hw3
    have x0 := frm_cell hf3 x0
    have x1 := frm_cell hf3 x1
    have x2 := frm_cell hf3 x2
    have y0 := frm_cell hf3 y0
    clear hf3
    refine Plan.wp_region_plan [0, 0, 2, 6, 0, 16, 48, 127, 255, 511, 511, 1023, 4095] [.mk [0, 1, 2, 3, 4, 5, 6] 7 []] [8, 9, 10, 11, 12] (by kernel_rfl) (by kernel_rfl) ?_
    simp only [Plan.wayOf, Plan.pickAll, List.getElem?_cons_zero, List.getElem?_cons_succ, List.getD_eq_getElem?_getD, Option.getD_some]
    refine Plan.wpWay_seg ?_
    repeat go_big_quiet_step (fail)
    refine wpQuiet_nil ?_; refine Plan.wpWay_act ?_
    go_wp2_with fail
    refine (HT.out _).mono ?_
    rintro e w4 ⟨rfl, hf⟩
    have HF4 := Lib.hid (frm_then HF3.out.drew hf)
    clear hf
    go_wp2_with fail
    refine And.intro Plan.again_nil ?_
    refine Plan.wpWay_last ?_
    repeat go_big_quiet_step (fail)
    refine wpQuiet_nil ?_; refine NoPanic.normal ?_
    go_wp2
    go_ret
    exact ⟨rfl, HF4.out⟩
set_option maxRecDepth 100000 in
set_option maxHeartbeats 2000000 in
theorem eval_and {lim : Nat} (w : World) (op : ByteArray) (t : Ty) (num : Nat) (v : Int) (gl : Bool) (ln cl : Int) (A : Option Addr) (c : Nat) (kids : List Tree) (vv iv : Value) (vs : List Ty) (is : List Nat) (h : Kid w lim vv iv vs is A kids) (m : Nat) (hm : kids.length = m + 1) (n1 : op ≠ sNum) (n2 : op ≠ sVar) (a b : Nat) (r : Ty) (hr : lastX vs kids = r) (he : evalL vs is kids = [a, b]) (n3 : op = sLand) :
  Calls Tryz.prog 14 #[.agg #[.string op, .int .i64 t.1, .bool t.2, .int .u64 num, .int .i64 v, .bool gl, .int .i64 ln, .int .i64 cl, .slice A kids.length c], vv, iv] w (NPost w (a * b % 2 ^ 64)) := by
 have d1 : (op.toList == [110, 117, 109]) = false := by rw [eqS]; exact decide_eq_false n1
 have d2 : (op.toList == [118, 97, 114]) = false := by rw [eqS]; exact decide_eq_false n2
 obtain ⟨i0, hi, hz0, hz1, hz2⟩ := info_parts info_u64
 have HU := Lib.hid h
 have HM := Lib.hid hm
 have d3 : (op.toList == [99, 97, 115, 116]) = false := by rw [eqS, n3]; decide
 have d4 : (op.toList == [105, 116, 101]) = false := by rw [eqS, n3]; decide
 have d5 : (op.toList == [117, 33]) = false := by rw [eqS, n3]; decide
 have d6 : (op.toList == [117, 45]) = false := by rw [eqS, n3]; decide
 have d7 : (op.toList == [117, 126]) = false := by rw [eqS, n3]; decide
 have d8 : (op.toList == [38, 38]) = true := by rw [eqS, n3]; rfl
 have HW := Lib.hid (mulE a b)
 have HR := Lib.hid hr
 have HE := Lib.hid he
 clear hr he n3
 clear h hm n1 n2
 go_enter Tryz.func14, Tryz.ntmps14
 go_wp2_with fail
 have HB1 := Lib.hid (blk_new (w := w) (.cells #[.string op, .int .i64 t.1, .bool t.2, .int .u64 num, .int .i64 v, .bool gl, .int .i64 ln, .int .i64 cl, .slice A kids.length c] 27))
 have HF1 := Lib.hid (frm_alloc w (.cells #[.string op, .int .i64 t.1, .bool t.2, .int .u64 num, .int .i64 v, .bool gl, .int .i64 ln, .int .i64 cl, .slice A kids.length c] 27))
 obtain ⟨w1, hw1⟩ : ∃ w1, w1 = w.alloc (.cells #[.string op, .int .i64 t.1, .bool t.2, .int .u64 num, .int .i64 v, .bool gl, .int .i64 ln, .int .i64 cl, .slice A kids.length c] 27) := ⟨_, rfl⟩
 have hs1 := Lib.hid (show w1.heap.size = w.heap.size + 1 by rw [hw1]; simp)
 rw [← hw1] at HB1 HF1 ⊢
 clear hw1
 go_wp2_with fail
 have HR0 := Lib.hid (show Row (w1.alloc (.cells #[] 24)) 24 u64 (.slice (some ⟨w.heap.size + 1, 0, none⟩) 0 0) ([] : List Nat) from ⟨by simp, .inr ⟨w.heap.size + 1, 0, #[], rfl, Nat.zero_le _, blk_new_at _ hs1.out.symm, Nat.zero_le _, Nat.zero_le _, by simp, by simp⟩⟩)
 have HF2 := Lib.hid (HF1.out.alloc (.cells #[] 24))
 have HB2 := Lib.hid (blk_alloc HB1.out (.cells #[] 24))
 go_loopw [7, 8] (fun v7 v8 w' => ∃ k : Nat, k ≤ kids.length ∧ v8 = .int .i64 k ∧ Hid (Row w' 24 u64 v7 ((evalL vs is kids).take k)) ∧ Hid (Frm (fun _ => False) w w') ∧ Hid (w'.heap[w.heap.size]? = some (.cells #[.string op, .int .i64 t.1, .bool t.2, .int .u64 num, .int .i64 v, .bool gl, .int .i64 ln, .int .i64 cl, .slice A kids.length c] 27)) ∧ Hid (∀ g, v7.ownBlock = some g → w.heap.size + 1 ≤ g)) (fun _ v8 _ => kids.length - (intOf v8).toNat)
 case atStart => exact ⟨0, Nat.zero_le _, rfl, HR0, HF2, HB2, Lib.hid fun g hg => by cases hg; exact Nat.le_refl _⟩
 case round =>
  obtain ⟨k, hk, rfl, HS, HF, HB, HO⟩ := hrel
  have b8 : wr.cell? ⟨w.heap.size, 8, none⟩ = some (.slice A kids.length c) := blk_cell HB.out 8
  have hmost : kids.length ≤ 4194304 := Nat.le_trans (count_len kids) HU.out.most
  by_cases hlt : k < kids.length
  ·have hltI : (k : Int) < (kids.length : Int) := by omega
   obtain ⟨x, hx⟩ : ∃ x, kids[k]? = some x := ⟨_, List.getElem?_eq_getElem (by omega)⟩
   obtain ⟨g, o, rfl, hT⟩ := (HU.out.mem.frm0 HF.out).get hx
   rw [Nat.zero_add] at hT
   obtain ⟨a0, a1, a2, a3, a4, a5, a6, a7, a8, hV, c0, c1, c2, c3, c4, c5, c6, c7, c8⟩ := hT.load
   have HC := Lib.hid (HU.out.call k x hx wr _ hV (HU.out.vars.frm0 HF.out) (HU.out.nums.frm0 HF.out))
   have htk := Lib.hid (show (evalL vs is kids).take (k + 1) = (evalL vs is kids).take k ++ [evalX vs is x] by rw [List.take_add_one, evalL_get, hx]; rfl)
   have hl7 := Lib.hid (show ((evalL vs is kids).take k).length ≤ 4194304 by rw [List.length_take, evalL_len]; omega)
   obtain ⟨ys, hys⟩ : ∃ ys, ys = (evalL vs is kids).take k := ⟨_, rfl⟩
   rw [← hys] at HS htk hl7
   obtain ⟨z, hz⟩ : ∃ z, z = evalX vs is x := ⟨_, rfl⟩
   rw [← hz] at HC htk
   obtain ⟨RA, RC, rfl, _⟩ := sees_slice HS.out.sees
   clear hT hV hx hys hz
   go_wp2_with fail
   refine HC.out.mono ?_
   rintro e w2 ⟨rfl, hf⟩
   have HF3 := Lib.hid (frm_then HF.out hf)
   have HB3 := Lib.hid (blk_frm HB.out hf id)
   have HS2 := Lib.hid (HS.out.frm0 hf)
   clear hf
   go_wp2_with (at_builtin; refine wpList_append_row rfl _ _ 29 rfl 24 i0 (.int .u64 0) 8 Tryz.underlying29 hi hz0 hz1 hz2 rfl (enc := u64) (.slice RA ys.length RC) ys rfl (HS2.out.frm0 (frm_alloc _ _)) ⟨w2.heap.size, 0, none⟩ 1 z rfl ?c1 rfl ?c2 ?c3 ?_)
   case c1 => exact blk_cell (blk_new _) 0
   case c2 => have := hl7.out; have : maxLen = 9223372036854775807 := rfl; omega
   case c3 => have := hl7.out; omega
   intro g' cap' w7 hrow hfr hg hlt7
   have HS7 := Lib.hid (show Row w7 24 u64 (.slice (some ⟨g', 0, none⟩) (ys.length + 1) cap') ((evalL vs is kids).take (k + 1)) by rw [htk.out]; exact hrow)
   have hS : ∀ b, (Value.slice RA ys.length RC).ownBlock = some b → w.heap.size + 1 ≤ b := HO.out
   have HF7 := Lib.hid ((frm_then HF3.out (frm_alloc _ _)).trans hfr fun x hx h => by have := hS x h; omega)
   have HB7 := Lib.hid (blk_frm (blk_alloc HB3.out _) hfr fun h => by have := hS _ h; omega)
   have HO7 := Lib.hid (show w.heap.size + 1 ≤ g' by rcases hg with h | h; exact hS g' h; rw [h]; have := lt_of_block HB3.out; simp; omega)
   clear hrow hfr hg hS
   go_wp2
   go_roundw
   case rel => exact ⟨k + 1, by omega, by first | rfl | go_num, HS7, HF7, HB7, Lib.hid fun g'' hg'' => by cases hg''; exact HO7.out⟩
   case measure => simp [intOf]; omega
  ·obtain rfl : k = kids.length := by omega
   rw [List.take_of_length_le (by rw [evalL_len]; exact Nat.le_refl _)] at HS
   have hltI : ¬ (kids.length : Int) < (kids.length : Int) := by omega
   clear hlt hk
   obtain ⟨x, hx⟩ : ∃ x, kids[m]? = some x := ⟨_, List.getElem?_eq_getElem (by have := HM.out; omega)⟩
   obtain ⟨g, o, rfl, hT⟩ := (HU.out.mem.frm0 HF.out).get hx
   rw [Nat.zero_add] at hT
   obtain ⟨a0, a1, a2, a3, a4, a5, a6, a7, a8, hV, c0, c1, c2, c3, c4, c5, c6, c7, c8⟩ := hT.load
   have hcx := Nat.le_trans (countL_mem hx) HU.out.most
   have HC := Lib.hid (Type_calls lim vs vv (countX x) x (Nat.le_refl _) hcx wr _ hV (HU.out.vars.frm0 HF.out))
   have HLX := Lib.hid (show typeX vs x = (r, true) from Prod.ext ((last_kid vs HM.out hx).symm.trans HR.out) (HU.out.ok m x hx))
   rw [HLX.out] at HC
   have hmi : (kids.length : Int) - 1 = (m : Int) := by have := HM.out; omega
   have hmlt : (m : Int) < (kids.length : Int) := by have := HM.out; omega
   clear hT hV hx hcx
   go_wp2_with fail
   refine HC.out.mono ?_
   rintro e w2 ⟨rfl, hf⟩
   have HF2 := Lib.hid (frm_then HF.out hf)
   have HB2 := Lib.hid (blk_frm HB.out hf id)
   have HS2 := Lib.hid (HS.out.frm0 hf)
   clear hf c0 c1 c2 c3 c4 c5 c6 c7 c8 b8
   have x0 : w2.cell? ⟨w.heap.size, 0, none⟩ = some (.string op) := blk_cell HB2.out 0
   have x1 : w2.cell? ⟨w.heap.size, 1, none⟩ = some (.int .i64 t.1) := blk_cell HB2.out 1
   have x2 : w2.cell? ⟨w.heap.size, 2, none⟩ = some (.bool t.2) := blk_cell HB2.out 2
   have xs : w.heap.size < w2.heap.size := lt_of_block HB2.out
   have hY : Row w2 24 u64 u7 [a, b] := by rw [← HE.out]; exact HS2.out
   obtain ⟨RA, RC, rfl, hcell⟩ := sees_slice hY.sees
   obtain ⟨g7, o7, rfl, _⟩ := hcell 0 _ rfl
   rw [← HE.out] at hY
   obtain ⟨_, _, e, y0⟩ := hcell 0 _ rfl
   cases e
   have y0 : w2.cell? ⟨g7, o7, none⟩ = some (.int .u64 a) := by rw [Nat.add_zero] at y0; exact y0
   have yl0 := World.block_lt_of_cell? _ _ y0
   obtain ⟨_, _, e, y1⟩ := hcell 1 _ rfl
   cases e
   have y1 : w2.cell? ⟨g7, o7 + 1, none⟩ = some (.int .u64 b) := y1
   have yl1 := World.block_lt_of_cell? _ _ y1
   clear hcell hY
   go_wp2_with fail
   obtain ⟨w3, hw3⟩ : ∃ w3, w3 = w2.alloc (.cells #[.int .i64 r.1, .bool r.2] 23) := ⟨_, rfl⟩
   have HF3 := Lib.hid (show Frm (fun _ => False) w w3 by rw [hw3]; exact frm_then HF2.out (frm_alloc _ _))
   have hf3 : Frm (fun _ => False) w2 w3 := by rw [hw3]; exact frm_alloc _ _
   have t0 : w3.cell? ⟨w2.heap.size, 0, none⟩ = some (.int .i64 r.1) := by rw [hw3]; exact blk_cell (blk_new _) 0
   have t1 : w3.cell? ⟨w2.heap.size, 1, none⟩ = some (.bool r.2) := by rw [hw3]; exact blk_cell (blk_new _) 1
   rw [← hw3]
   clear hw3
   have x0 := frm_cell hf3 x0
   have x1 := frm_cell hf3 x1
   have x2 := frm_cell hf3 x2
   have y0 := frm_cell hf3 y0
   have y1 := frm_cell hf3 y1
   clear hf3
   go_quiet (fail)
   go_wp2
   go_ret
   exact ⟨by rw [← HW.out]; rfl, HF3.out.drewN _⟩
set_option maxRecDepth 100000 in
set_option maxHeartbeats 2000000 in
theorem eval_or {lim : Nat} (w : World) (op : ByteArray) (t : Ty) (num : Nat) (v : Int) (gl : Bool) (ln cl : Int) (A : Option Addr) (c : Nat) (kids : List Tree) (vv iv : Value) (vs : List Ty) (is : List Nat) (h : Kid w lim vv iv vs is A kids) (m : Nat) (hm : kids.length = m + 1) (n1 : op ≠ sNum) (n2 : op ≠ sVar) (a b : Nat) (r : Ty) (hr : lastX vs kids = r) (he : evalL vs is kids = [a, b]) (n3 : op = sLor) (ha : a < 2 ^ 64) (hb : b < 2 ^ 64) :
  Calls Tryz.prog 14 #[.agg #[.string op, .int .i64 t.1, .bool t.2, .int .u64 num, .int .i64 v, .bool gl, .int .i64 ln, .int .i64 cl, .slice A kids.length c], vv, iv] w (NPost w (a ||| b)) := by
 have d1 : (op.toList == [110, 117, 109]) = false := by rw [eqS]; exact decide_eq_false n1
 have d2 : (op.toList == [118, 97, 114]) = false := by rw [eqS]; exact decide_eq_false n2
 obtain ⟨i0, hi, hz0, hz1, hz2⟩ := info_parts info_u64
 have HU := Lib.hid h
 have HM := Lib.hid hm
 have d3 : (op.toList == [99, 97, 115, 116]) = false := by rw [eqS, n3]; decide
 have d4 : (op.toList == [105, 116, 101]) = false := by rw [eqS, n3]; decide
 have d5 : (op.toList == [117, 33]) = false := by rw [eqS, n3]; decide
 have d6 : (op.toList == [117, 45]) = false := by rw [eqS, n3]; decide
 have d7 : (op.toList == [117, 126]) = false := by rw [eqS, n3]; decide
 have d8 : (op.toList == [38, 38]) = false := by rw [eqS, n3]; decide
 have d9 : (op.toList == [124, 124]) = true := by rw [eqS, n3]; rfl
 have HW := Lib.hid (bits_or_u64 a b ha hb)
 have HR := Lib.hid hr
 have HE := Lib.hid he
 clear hr he ha hb n3
 clear h hm n1 n2
 go_enter Tryz.func14, Tryz.ntmps14
 go_wp2_with fail
 have HB1 := Lib.hid (blk_new (w := w) (.cells #[.string op, .int .i64 t.1, .bool t.2, .int .u64 num, .int .i64 v, .bool gl, .int .i64 ln, .int .i64 cl, .slice A kids.length c] 27))
 have HF1 := Lib.hid (frm_alloc w (.cells #[.string op, .int .i64 t.1, .bool t.2, .int .u64 num, .int .i64 v, .bool gl, .int .i64 ln, .int .i64 cl, .slice A kids.length c] 27))
 obtain ⟨w1, hw1⟩ : ∃ w1, w1 = w.alloc (.cells #[.string op, .int .i64 t.1, .bool t.2, .int .u64 num, .int .i64 v, .bool gl, .int .i64 ln, .int .i64 cl, .slice A kids.length c] 27) := ⟨_, rfl⟩
 have hs1 := Lib.hid (show w1.heap.size = w.heap.size + 1 by rw [hw1]; simp)
 rw [← hw1] at HB1 HF1 ⊢
 clear hw1
 go_wp2_with fail
 have HR0 := Lib.hid (show Row (w1.alloc (.cells #[] 24)) 24 u64 (.slice (some ⟨w.heap.size + 1, 0, none⟩) 0 0) ([] : List Nat) from ⟨by simp, .inr ⟨w.heap.size + 1, 0, #[], rfl, Nat.zero_le _, blk_new_at _ hs1.out.symm, Nat.zero_le _, Nat.zero_le _, by simp, by simp⟩⟩)
 have HF2 := Lib.hid (HF1.out.alloc (.cells #[] 24))
 have HB2 := Lib.hid (blk_alloc HB1.out (.cells #[] 24))
 go_loopw [7, 8] (fun v7 v8 w' => ∃ k : Nat, k ≤ kids.length ∧ v8 = .int .i64 k ∧ Hid (Row w' 24 u64 v7 ((evalL vs is kids).take k)) ∧ Hid (Frm (fun _ => False) w w') ∧ Hid (w'.heap[w.heap.size]? = some (.cells #[.string op, .int .i64 t.1, .bool t.2, .int .u64 num, .int .i64 v, .bool gl, .int .i64 ln, .int .i64 cl, .slice A kids.length c] 27)) ∧ Hid (∀ g, v7.ownBlock = some g → w.heap.size + 1 ≤ g)) (fun _ v8 _ => kids.length - (intOf v8).toNat)
 case atStart => exact ⟨0, Nat.zero_le _, rfl, HR0, HF2, HB2, Lib.hid fun g hg => by cases hg; exact Nat.le_refl _⟩
 case round =>
  obtain ⟨k, hk, rfl, HS, HF, HB, HO⟩ := hrel
  have b8 : wr.cell? ⟨w.heap.size, 8, none⟩ = some (.slice A kids.length c) := blk_cell HB.out 8
  have hmost : kids.length ≤ 4194304 := Nat.le_trans (count_len kids) HU.out.most
  by_cases hlt : k < kids.length
  ·have hltI : (k : Int) < (kids.length : Int) := by omega
   obtain ⟨x, hx⟩ : ∃ x, kids[k]? = some x := ⟨_, List.getElem?_eq_getElem (by omega)⟩
   obtain ⟨g, o, rfl, hT⟩ := (HU.out.mem.frm0 HF.out).get hx
   rw [Nat.zero_add] at hT
   obtain ⟨a0, a1, a2, a3, a4, a5, a6, a7, a8, hV, c0, c1, c2, c3, c4, c5, c6, c7, c8⟩ := hT.load
   have HC := Lib.hid (HU.out.call k x hx wr _ hV (HU.out.vars.frm0 HF.out) (HU.out.nums.frm0 HF.out))
   have htk := Lib.hid (show (evalL vs is kids).take (k + 1) = (evalL vs is kids).take k ++ [evalX vs is x] by rw [List.take_add_one, evalL_get, hx]; rfl)
   have hl7 := Lib.hid (show ((evalL vs is kids).take k).length ≤ 4194304 by rw [List.length_take, evalL_len]; omega)
   obtain ⟨ys, hys⟩ : ∃ ys, ys = (evalL vs is kids).take k := ⟨_, rfl⟩
   rw [← hys] at HS htk hl7
   obtain ⟨z, hz⟩ : ∃ z, z = evalX vs is x := ⟨_, rfl⟩
   rw [← hz] at HC htk
   obtain ⟨RA, RC, rfl, _⟩ := sees_slice HS.out.sees
   clear hT hV hx hys hz
   go_wp2_with fail
   refine HC.out.mono ?_
   rintro e w2 ⟨rfl, hf⟩
   have HF3 := Lib.hid (frm_then HF.out hf)
   have HB3 := Lib.hid (blk_frm HB.out hf id)
   have HS2 := Lib.hid (HS.out.frm0 hf)
   clear hf
   go_wp2_with (at_builtin; refine wpList_append_row rfl _ _ 29 rfl 24 i0 (.int .u64 0) 8 Tryz.underlying29 hi hz0 hz1 hz2 rfl (enc := u64) (.slice RA ys.length RC) ys rfl (HS2.out.frm0 (frm_alloc _ _)) ⟨w2.heap.size, 0, none⟩ 1 z rfl ?c1 rfl ?c2 ?c3 ?_)
   case c1 => exact blk_cell (blk_new _) 0
   case c2 => have := hl7.out; have : maxLen = 9223372036854775807 := rfl; omega
   case c3 => have := hl7.out; omega
   intro g' cap' w7 hrow hfr hg hlt7
   have HS7 := Lib.hid (show Row w7 24 u64 (.slice (some ⟨g', 0, none⟩) (ys.length + 1) cap') ((evalL vs is kids).take (k + 1)) by rw [htk.out]; exact hrow)
   have hS : ∀ b, (Value.slice RA ys.length RC).ownBlock = some b → w.heap.size + 1 ≤ b := HO.out
   have HF7 := Lib.hid ((frm_then HF3.out (frm_alloc _ _)).trans hfr fun x hx h => by have := hS x h; omega)
   have HB7 := Lib.hid (blk_frm (blk_alloc HB3.out _) hfr fun h => by have := hS _ h; omega)
   have HO7 := Lib.hid (show w.heap.size + 1 ≤ g' by rcases hg with h | h; exact hS g' h; rw [h]; have := lt_of_block HB3.out; simp; omega)
   clear hrow hfr hg hS
   go_wp2
   go_roundw
   case rel => exact ⟨k + 1, by omega, by first | rfl | go_num, HS7, HF7, HB7, Lib.hid fun g'' hg'' => by cases hg''; exact HO7.out⟩
   case measure => simp [intOf]; omega
  ·obtain rfl : k = kids.length := by omega
   rw [List.take_of_length_le (by rw [evalL_len]; exact Nat.le_refl _)] at HS
   have hltI : ¬ (kids.length : Int) < (kids.length : Int) := by omega
   clear hlt hk
   obtain ⟨x, hx⟩ : ∃ x, kids[m]? = some x := ⟨_, List.getElem?_eq_getElem (by have := HM.out; omega)⟩
   obtain ⟨g, o, rfl, hT⟩ := (HU.out.mem.frm0 HF.out).get hx
   rw [Nat.zero_add] at hT
   obtain ⟨a0, a1, a2, a3, a4, a5, a6, a7, a8, hV, c0, c1, c2, c3, c4, c5, c6, c7, c8⟩ := hT.load
   have hcx := Nat.le_trans (countL_mem hx) HU.out.most
   have HC := Lib.hid (Type_calls lim vs vv (countX x) x (Nat.le_refl _) hcx wr _ hV (HU.out.vars.frm0 HF.out))
   have HLX := Lib.hid (show typeX vs x = (r, true) from Prod.ext ((last_kid vs HM.out hx).symm.trans HR.out) (HU.out.ok m x hx))
   rw [HLX.out] at HC
   have hmi : (kids.length : Int) - 1 = (m : Int) := by have := HM.out; omega
   have hmlt : (m : Int) < (kids.length : Int) := by have := HM.out; omega
   clear hT hV hx hcx
   go_wp2_with fail
   refine HC.out.mono ?_
   rintro e w2 ⟨rfl, hf⟩
   have HF2 := Lib.hid (frm_then HF.out hf)
   have HB2 := Lib.hid (blk_frm HB.out hf id)
   have HS2 := Lib.hid (HS.out.frm0 hf)
   clear hf c0 c1 c2 c3 c4 c5 c6 c7 c8 b8
   have x0 : w2.cell? ⟨w.heap.size, 0, none⟩ = some (.string op) := blk_cell HB2.out 0
   have x1 : w2.cell? ⟨w.heap.size, 1, none⟩ = some (.int .i64 t.1) := blk_cell HB2.out 1
   have x2 : w2.cell? ⟨w.heap.size, 2, none⟩ = some (.bool t.2) := blk_cell HB2.out 2
   have xs : w.heap.size < w2.heap.size := lt_of_block HB2.out
   have hY : Row w2 24 u64 u7 [a, b] := by rw [← HE.out]; exact HS2.out
   obtain ⟨RA, RC, rfl, hcell⟩ := sees_slice hY.sees
   obtain ⟨g7, o7, rfl, _⟩ := hcell 0 _ rfl
   rw [← HE.out] at hY
   obtain ⟨_, _, e, y0⟩ := hcell 0 _ rfl
   cases e
   have y0 : w2.cell? ⟨g7, o7, none⟩ = some (.int .u64 a) := by rw [Nat.add_zero] at y0; exact y0
   have yl0 := World.block_lt_of_cell? _ _ y0
   obtain ⟨_, _, e, y1⟩ := hcell 1 _ rfl
   cases e
   have y1 : w2.cell? ⟨g7, o7 + 1, none⟩ = some (.int .u64 b) := y1
   have yl1 := World.block_lt_of_cell? _ _ y1
   clear hcell hY
   go_wp2_with fail
   obtain ⟨w3, hw3⟩ : ∃ w3, w3 = w2.alloc (.cells #[.int .i64 r.1, .bool r.2] 23) := ⟨_, rfl⟩
   have HF3 := Lib.hid (show Frm (fun _ => False) w w3 by rw [hw3]; exact frm_then HF2.out (frm_alloc _ _))
   have hf3 : Frm (fun _ => False) w2 w3 := by rw [hw3]; exact frm_alloc _ _
   have t0 : w3.cell? ⟨w2.heap.size, 0, none⟩ = some (.int .i64 r.1) := by rw [hw3]; exact blk_cell (blk_new _) 0
   have t1 : w3.cell? ⟨w2.heap.size, 1, none⟩ = some (.bool r.2) := by rw [hw3]; exact blk_cell (blk_new _) 1
   rw [← hw3]
   clear hw3
   have x0 := frm_cell hf3 x0
   have x1 := frm_cell hf3 x1
   have x2 := frm_cell hf3 x2
   have y0 := frm_cell hf3 y0
   have y1 := frm_cell hf3 y1
   clear hf3
   go_quiet (fail)
   go_wp2
   go_ret
   exact ⟨by rw [← HW.out]; rfl, HF3.out.drewN _⟩
set_option maxRecDepth 100000 in
set_option maxHeartbeats 2000000 in
theorem eval_word {lim : Nat} (w : World) (op : ByteArray) (t : Ty) (num : Nat) (v : Int) (gl : Bool) (ln cl : Int) (A : Option Addr) (c : Nat) (kids : List Tree) (vv iv : Value) (vs : List Ty) (is : List Nat) (h : Kid w lim vv iv vs is A kids) (m : Nat) (hm : kids.length = m + 1) (n1 : op ≠ sNum) (n2 : op ≠ sVar) (a b : Nat) (r : Ty) (hr : lastX vs kids = r) (he : evalL vs is kids = [a, b]) (n3 : op ≠ sCast ∧ op ≠ sIte ∧ op ≠ sUNot ∧ op ≠ sUNeg ∧ op ≠ sUTil ∧ op ≠ sLand ∧ op ≠ sLor) (ha : a < 2 ^ 64) (hb : b < 2 ^ 64) (res : Nat) (hres : res = if (testF r op a b).2 = 0 then (testF r op a b).1.toNat else (doF r op a b).1) :
  Calls Tryz.prog 14 #[.agg #[.string op, .int .i64 t.1, .bool t.2, .int .u64 num, .int .i64 v, .bool gl, .int .i64 ln, .int .i64 cl, .slice A kids.length c], vv, iv] w (NPost w (res)) := by
 have d1 : (op.toList == [110, 117, 109]) = false := by rw [eqS]; exact decide_eq_false n1
 have d2 : (op.toList == [118, 97, 114]) = false := by rw [eqS]; exact decide_eq_false n2
 obtain ⟨i0, hi, hz0, hz1, hz2⟩ := info_parts info_u64
 have HU := Lib.hid h
 have HM := Lib.hid hm
 have d3 : (op.toList == [99, 97, 115, 116]) = false := by rw [eqS]; exact decide_eq_false n3.1
 have d4 : (op.toList == [105, 116, 101]) = false := by rw [eqS]; exact decide_eq_false n3.2.1
 have d5 : (op.toList == [117, 33]) = false := by rw [eqS]; exact decide_eq_false n3.2.2.1
 have d6 : (op.toList == [117, 45]) = false := by rw [eqS]; exact decide_eq_false n3.2.2.2.1
 have d7 : (op.toList == [117, 126]) = false := by rw [eqS]; exact decide_eq_false n3.2.2.2.2.1
 have d8 : (op.toList == [38, 38]) = false := by rw [eqS]; exact decide_eq_false n3.2.2.2.2.2.1
 have d9 : (op.toList == [124, 124]) = false := by rw [eqS]; exact decide_eq_false n3.2.2.2.2.2.2
 have HR := Lib.hid hr
 have HE := Lib.hid he
 have HT := Lib.hid fun w1 => Test_calls w1 r op a b ha hb
 have HD := Lib.hid fun w1 => Do_calls w1 r op a b ha hb
 generalize testF r op a b = tr at *
 generalize doF r op a b = dr at *
 obtain ⟨tb, te⟩ := tr
 have HW := Lib.hid hres
 clear n3 ha hb hr he hres
 clear h hm n1 n2
 go_enter Tryz.func14, Tryz.ntmps14
 go_wp2_with fail
 have HB1 := Lib.hid (blk_new (w := w) (.cells #[.string op, .int .i64 t.1, .bool t.2, .int .u64 num, .int .i64 v, .bool gl, .int .i64 ln, .int .i64 cl, .slice A kids.length c] 27))
 have HF1 := Lib.hid (frm_alloc w (.cells #[.string op, .int .i64 t.1, .bool t.2, .int .u64 num, .int .i64 v, .bool gl, .int .i64 ln, .int .i64 cl, .slice A kids.length c] 27))
 obtain ⟨w1, hw1⟩ : ∃ w1, w1 = w.alloc (.cells #[.string op, .int .i64 t.1, .bool t.2, .int .u64 num, .int .i64 v, .bool gl, .int .i64 ln, .int .i64 cl, .slice A kids.length c] 27) := ⟨_, rfl⟩
 have hs1 := Lib.hid (show w1.heap.size = w.heap.size + 1 by rw [hw1]; simp)
 rw [← hw1] at HB1 HF1 ⊢
 clear hw1
 go_wp2_with fail
 have HR0 := Lib.hid (show Row (w1.alloc (.cells #[] 24)) 24 u64 (.slice (some ⟨w.heap.size + 1, 0, none⟩) 0 0) ([] : List Nat) from ⟨by simp, .inr ⟨w.heap.size + 1, 0, #[], rfl, Nat.zero_le _, blk_new_at _ hs1.out.symm, Nat.zero_le _, Nat.zero_le _, by simp, by simp⟩⟩)
 have HF2 := Lib.hid (HF1.out.alloc (.cells #[] 24))
 have HB2 := Lib.hid (blk_alloc HB1.out (.cells #[] 24))
 go_loopw [7, 8] (fun v7 v8 w' => ∃ k : Nat, k ≤ kids.length ∧ v8 = .int .i64 k ∧ Hid (Row w' 24 u64 v7 ((evalL vs is kids).take k)) ∧ Hid (Frm (fun _ => False) w w') ∧ Hid (w'.heap[w.heap.size]? = some (.cells #[.string op, .int .i64 t.1, .bool t.2, .int .u64 num, .int .i64 v, .bool gl, .int .i64 ln, .int .i64 cl, .slice A kids.length c] 27)) ∧ Hid (∀ g, v7.ownBlock = some g → w.heap.size + 1 ≤ g)) (fun _ v8 _ => kids.length - (intOf v8).toNat)
 case atStart => exact ⟨0, Nat.zero_le _, rfl, HR0, HF2, HB2, Lib.hid fun g hg => by cases hg; exact Nat.le_refl _⟩
 case round =>
  obtain ⟨k, hk, rfl, HS, HF, HB, HO⟩ := hrel
  have b8 : wr.cell? ⟨w.heap.size, 8, none⟩ = some (.slice A kids.length c) := blk_cell HB.out 8
  have hmost : kids.length ≤ 4194304 := Nat.le_trans (count_len kids) HU.out.most
  by_cases hlt : k < kids.length
  ·have hltI : (k : Int) < (kids.length : Int) := by omega
   obtain ⟨x, hx⟩ : ∃ x, kids[k]? = some x := ⟨_, List.getElem?_eq_getElem (by omega)⟩
   obtain ⟨g, o, rfl, hT⟩ := (HU.out.mem.frm0 HF.out).get hx
   rw [Nat.zero_add] at hT
   obtain ⟨a0, a1, a2, a3, a4, a5, a6, a7, a8, hV, c0, c1, c2, c3, c4, c5, c6, c7, c8⟩ := hT.load
   have HC := Lib.hid (HU.out.call k x hx wr _ hV (HU.out.vars.frm0 HF.out) (HU.out.nums.frm0 HF.out))
   have htk := Lib.hid (show (evalL vs is kids).take (k + 1) = (evalL vs is kids).take k ++ [evalX vs is x] by rw [List.take_add_one, evalL_get, hx]; rfl)
   have hl7 := Lib.hid (show ((evalL vs is kids).take k).length ≤ 4194304 by rw [List.length_take, evalL_len]; omega)
   obtain ⟨ys, hys⟩ : ∃ ys, ys = (evalL vs is kids).take k := ⟨_, rfl⟩
   rw [← hys] at HS htk hl7
   obtain ⟨z, hz⟩ : ∃ z, z = evalX vs is x := ⟨_, rfl⟩
   rw [← hz] at HC htk
   obtain ⟨RA, RC, rfl, _⟩ := sees_slice HS.out.sees
   clear hT hV hx hys hz
   go_wp2_with fail
   refine HC.out.mono ?_
   rintro e w2 ⟨rfl, hf⟩
   have HF3 := Lib.hid (frm_then HF.out hf)
   have HB3 := Lib.hid (blk_frm HB.out hf id)
   have HS2 := Lib.hid (HS.out.frm0 hf)
   clear hf
   go_wp2_with (at_builtin; refine wpList_append_row rfl _ _ 29 rfl 24 i0 (.int .u64 0) 8 Tryz.underlying29 hi hz0 hz1 hz2 rfl (enc := u64) (.slice RA ys.length RC) ys rfl (HS2.out.frm0 (frm_alloc _ _)) ⟨w2.heap.size, 0, none⟩ 1 z rfl ?c1 rfl ?c2 ?c3 ?_)
   case c1 => exact blk_cell (blk_new _) 0
   case c2 => have := hl7.out; have : maxLen = 9223372036854775807 := rfl; omega
   case c3 => have := hl7.out; omega
   intro g' cap' w7 hrow hfr hg hlt7
   have HS7 := Lib.hid (show Row w7 24 u64 (.slice (some ⟨g', 0, none⟩) (ys.length + 1) cap') ((evalL vs is kids).take (k + 1)) by rw [htk.out]; exact hrow)
   have hS : ∀ b, (Value.slice RA ys.length RC).ownBlock = some b → w.heap.size + 1 ≤ b := HO.out
   have HF7 := Lib.hid ((frm_then HF3.out (frm_alloc _ _)).trans hfr fun x hx h => by have := hS x h; omega)
   have HB7 := Lib.hid (blk_frm (blk_alloc HB3.out _) hfr fun h => by have := hS _ h; omega)
   have HO7 := Lib.hid (show w.heap.size + 1 ≤ g' by rcases hg with h | h; exact hS g' h; rw [h]; have := lt_of_block HB3.out; simp; omega)
   clear hrow hfr hg hS
   go_wp2
   go_roundw
   case rel => exact ⟨k + 1, by omega, by first | rfl | go_num, HS7, HF7, HB7, Lib.hid fun g'' hg'' => by cases hg''; exact HO7.out⟩
   case measure => simp [intOf]; omega
  ·obtain rfl : k = kids.length := by omega
   rw [List.take_of_length_le (by rw [evalL_len]; exact Nat.le_refl _)] at HS
   have hltI : ¬ (kids.length : Int) < (kids.length : Int) := by omega
   clear hlt hk
   obtain ⟨x, hx⟩ : ∃ x, kids[m]? = some x := ⟨_, List.getElem?_eq_getElem (by have := HM.out; omega)⟩
   obtain ⟨g, o, rfl, hT⟩ := (HU.out.mem.frm0 HF.out).get hx
   rw [Nat.zero_add] at hT
   obtain ⟨a0, a1, a2, a3, a4, a5, a6, a7, a8, hV, c0, c1, c2, c3, c4, c5, c6, c7, c8⟩ := hT.load
   have hcx := Nat.le_trans (countL_mem hx) HU.out.most
   have HC := Lib.hid (Type_calls lim vs vv (countX x) x (Nat.le_refl _) hcx wr _ hV (HU.out.vars.frm0 HF.out))
   have HLX := Lib.hid (show typeX vs x = (r, true) from Prod.ext ((last_kid vs HM.out hx).symm.trans HR.out) (HU.out.ok m x hx))
   rw [HLX.out] at HC
   have hmi : (kids.length : Int) - 1 = (m : Int) := by have := HM.out; omega
   have hmlt : (m : Int) < (kids.length : Int) := by have := HM.out; omega
   clear hT hV hx hcx
   go_wp2_with fail
   refine HC.out.mono ?_
   rintro e w2 ⟨rfl, hf⟩
   have HF2 := Lib.hid (frm_then HF.out hf)
   have HB2 := Lib.hid (blk_frm HB.out hf id)
   have HS2 := Lib.hid (HS.out.frm0 hf)
   clear hf c0 c1 c2 c3 c4 c5 c6 c7 c8 b8
   have x0 : w2.cell? ⟨w.heap.size, 0, none⟩ = some (.string op) := blk_cell HB2.out 0
   have x1 : w2.cell? ⟨w.heap.size, 1, none⟩ = some (.int .i64 t.1) := blk_cell HB2.out 1
   have x2 : w2.cell? ⟨w.heap.size, 2, none⟩ = some (.bool t.2) := blk_cell HB2.out 2
   have xs : w.heap.size < w2.heap.size := lt_of_block HB2.out
   have hY : Row w2 24 u64 u7 [a, b] := by rw [← HE.out]; exact HS2.out
   obtain ⟨RA, RC, rfl, hcell⟩ := sees_slice hY.sees
   obtain ⟨g7, o7, rfl, _⟩ := hcell 0 _ rfl
   rw [← HE.out] at hY
   obtain ⟨_, _, e, y0⟩ := hcell 0 _ rfl
   cases e
   have y0 : w2.cell? ⟨g7, o7, none⟩ = some (.int .u64 a) := by rw [Nat.add_zero] at y0; exact y0
   have yl0 := World.block_lt_of_cell? _ _ y0
   obtain ⟨_, _, e, y1⟩ := hcell 1 _ rfl
   cases e
   have y1 : w2.cell? ⟨g7, o7 + 1, none⟩ = some (.int .u64 b) := y1
   have yl1 := World.block_lt_of_cell? _ _ y1
   clear hcell hY
   go_wp2_with fail
   obtain ⟨w3, hw3⟩ : ∃ w3, w3 = w2.alloc (.cells #[.int .i64 r.1, .bool r.2] 23) := ⟨_, rfl⟩
   have HF3 := Lib.hid (show Frm (fun _ => False) w w3 by rw [hw3]; exact frm_then HF2.out (frm_alloc _ _))
   have hf3 : Frm (fun _ => False) w2 w3 := by rw [hw3]; exact frm_alloc _ _
   have t0 : w3.cell? ⟨w2.heap.size, 0, none⟩ = some (.int .i64 r.1) := by rw [hw3]; exact blk_cell (blk_new _) 0
   have t1 : w3.cell? ⟨w2.heap.size, 1, none⟩ = some (.bool r.2) := by rw [hw3]; exact blk_cell (blk_new _) 1
   rw [← hw3]
   clear hw3
   have x0 := frm_cell hf3 x0
   have x1 := frm_cell hf3 x1
   have x2 := frm_cell hf3 x2
   have y0 := frm_cell hf3 y0
   have y1 := frm_cell hf3 y1
   clear hf3
   refine Plan.wp_region_plan [0, 0, 2, 0, 8, 24, 0, 64, 192, 511, 1023, 2047, 2047, 4095, 16383] [.mk [0, 1, 2, 3, 4, 5, 6, 7, 8] 9 []] [10, 11, 12, 13, 14] (by kernel_rfl) (by kernel_rfl) ?_
   simp only [Plan.wayOf, Plan.pickAll, List.getElem?_cons_zero, List.getElem?_cons_succ, List.getD_eq_getElem?_getD, Option.getD_some]
   refine Plan.wpWay_seg ?_
   repeat go_big_quiet_step (fail)
   refine wpQuiet_nil ?_; refine Plan.wpWay_act ?_
   go_wp2_with fail
   refine (HT.out _).mono ?_
   rintro e w4 ⟨rfl, hf⟩
   have HF4 := Lib.hid (frm_then HF3.out.drew hf)
   have t0 := frm_cellD hf t0
   have t1 := frm_cellD hf t1
   have x0 := frm_cellD hf x0
   have y0 := frm_cellD hf y0
   have y1 := frm_cellD hf y1
   clear hf
   go_wp2_with fail
   refine And.intro Plan.again_nil ?_
   refine Plan.wpWay_last ?_
   repeat go_big_quiet_step (fail)
   refine wpQuiet_nil ?_; refine NoPanic.normal ?_
   by_cases hte : te = 0
   ·subst hte
    have hw1 := Lib.hid (show tb.toNat = res by rw [HW.out]; exact (if_pos rfl).symm)
    cases tb
    ·go_wp2
     go_ret
     exact ⟨by rw [← hw1.out]; rfl, HF4.out⟩
    ·go_wp2
     go_ret
     exact ⟨by rw [← hw1.out]; rfl, HF4.out⟩
   ·have hte' : (te == 0) = false := by simpa using hte
    have hw1 := Lib.hid (show dr.1 = res by rw [HW.out]; exact (if_neg hte).symm)
    clear hte
    go_wp2
    refine Plan.wp_region_plan [0, 0, 2, 0, 8, 24, 0, 64, 192, 511, 1023, 2047, 2047, 4095, 16383] [.mk [0, 1, 2, 3, 4, 5, 6, 7, 8] 9 []] [10, 11, 12, 13, 14] (by kernel_rfl) (by kernel_rfl) ?_
    simp only [Plan.wayOf, Plan.pickAll, List.getElem?_cons_zero, List.getElem?_cons_succ, List.getD_eq_getElem?_getD, Option.getD_some]
    refine Plan.wpWay_seg ?_
    repeat go_big_quiet_step (fail)
    refine wpQuiet_nil ?_; refine Plan.wpWay_act ?_
    go_wp2_with fail
    refine (HD.out _).mono ?_
    rintro e w5 ⟨rfl, hf⟩
    have HF5 := Lib.hid (frm_then HF4.out.drew hf)
    clear hf
    go_wp2_with fail
    refine And.intro Plan.again_nil ?_
    refine Plan.wpWay_last ?_
    repeat go_big_quiet_step (fail)
    refine wpQuiet_nil ?_; refine NoPanic.normal ?_
    go_wp2
    go_ret
    exact ⟨by rw [← hw1.out]; rfl, HF5.out⟩
end RfW
end Go.Proofs.YtbbajekecppioaaGreatDoor
