/- The document's type of a tree, walked: its first parts. -/
import Derived.Test.YtbbajekecppioaaGreatDoorGa31
set_option linter.unusedSimpArgs false
set_option linter.unusedVariables false
namespace Go.Proofs.YtbbajekecppioaaGreatDoor
open Go.RowKit Go.Mem Go.Wd Go.Tp
namespace RfW
open TmW (frm_alloc frm_then Box wrap_nat64 frm_cellD frm_cell negE eqS countX countL typeX kindsX typeK evalX evalL evalK lastX noTy vtype is64 sNum sVar sCast)
def encT : Enc Ty 2 := ⟨fun t => [.int .i64 t.1, .bool t.2], fun _ => rfl, fun x u hu => by simp at hu; rcases hu with rfl | rfl <;> rfl⟩
/-- Types in a slice, below a block. -/
def VarsIn (w : World) (lim : Nat) (vv : Value) (vs : List Ty) : Prop := ∃ A c, vv = .slice A vs.length c ∧ vs.length ≤ maxLen ∧ ∀ (i : Nat) u, vs[i]? = some u → is64 u.1 ∧ ∃ g o, A = some ⟨g, o, none⟩ ∧ g < lim ∧ w.cell? ⟨g, o + i * 2, none⟩ = some (.int .i64 u.1) ∧ w.cell? ⟨g, o + i * 2 + 1, none⟩ = some (.bool u.2)
theorem VarsIn.frm {w w' : World} {lim : Nat} {vv : Value} {vs : List Ty} (h : VarsIn w lim vv vs) (hb : ∀ b, b < lim → b < w.heap.size → w'.heap[b]? = w.heap[b]?) : VarsIn w' lim vv vs := by
 obtain ⟨A, c, e, hl, hc⟩ := h
 refine ⟨A, c, e, hl, fun i u hu => ?_⟩
 obtain ⟨h0, g, o, e, hg, h1, h2⟩ := hc i u hu
 have hlt := World.block_lt_of_cell? _ _ h1
 exact ⟨h0, g, o, e, hg, by rw [World.cell?_of_block (w := w) (hb g hg hlt)]; exact h1, by rw [World.cell?_of_block (w := w) (hb g hg hlt)]; exact h2⟩
theorem VarsIn.frm0 {w w' : World} {lim : Nat} {vv : Value} {vs : List Ty} (h : VarsIn w lim vv vs) (hf : Frm (fun _ => False) w w') : VarsIn w' lim vv vs := h.frm fun b _ hb => hf.block b hb id
abbrev TyPost (w : World) (r : Ty × Bool) (e : Ending) (w' : World) : Prop := e = .returned (.tuple #[.agg #[.int .i64 r.1.1, .bool r.1.2], .bool r.2]) ∧ Frm (fun _ => False) w w'
/-- The boxes of a call. -/
structure Bx (w wr : World) (xb : Obj) : Prop where
 box : wr.heap[w.heap.size]? = some xb
 res : wr.heap[w.heap.size + 1]? = some (.cells #[.int .i64 0, .bool false] 23)
 non : wr.heap[w.heap.size + 1 + 1]? = some (.cells #[.int .i64 0, .bool false] 23)
 frm : Frm (fun _ => False) w wr
theorem Bx.frm0 {w wr w2 : World} {xb : Obj} (h : Bx w wr xb) (hf : Frm (fun _ => False) wr w2) : Bx w w2 xb := ⟨blk_frm h.box hf id, blk_frm h.res hf id, blk_frm h.non hf id, frm_then h.frm hf⟩
theorem Bx.drew {w wr : World} {xb : Obj} (h : Bx w wr xb) : Bx w wr.drew xb := h.frm0 (Frm.refl _ _).drew
theorem Bx.fin {w wr : World} {xb : Obj} (h : Bx w wr xb) (x y : Value) : Frm (fun _ => False) w ((wr.setCell ⟨w.heap.size + 1, 0, none⟩ x).setCell ⟨w.heap.size + 1, 1, none⟩ y) := (h.frm.set (p := ⟨w.heap.size + 1, 0, none⟩) (.inr (Nat.le_succ _)) _).set (p := ⟨w.heap.size + 1, 1, none⟩) (.inr (Nat.le_succ _)) _
theorem Bx.new (w : World) (xb : Obj) : Bx w (((w.alloc xb).alloc (.cells #[.int .i64 0, .bool false] 23)).alloc (.cells #[.int .i64 0, .bool false] 23)) xb := ⟨blk_alloc (blk_alloc (blk_new _) _) _, blk_alloc (blk_new_at _ (by simp)) _, blk_new_at _ (by simp), ((frm_alloc _ _).alloc _).alloc _⟩
set_option maxRecDepth 100000 in
set_option maxHeartbeats 1000000 in
theorem type_num (w : World) (op : ByteArray) (t : Ty) (num : Nat) (v : Int) (gl : Bool) (ln cl : Int) (A : Option Addr) (n c : Nat) (vv : Value) (ho : op = sNum) :
  Calls Tryz.prog 10 #[.agg #[.string op, .int .i64 t.1, .bool t.2, .int .u64 num, .int .i64 v, .bool gl, .int .i64 ln, .int .i64 cl, .slice A n c], vv] w (TyPost w (t, rightF t)) := by
 have d1 : (op.toList == [110, 117, 109]) = true := by rw [eqS]; exact decide_eq_true ho
 have HR := Lib.hid fun w1 => Right_calls w1 t
 clear ho
 go_enter Tryz.func10, Tryz.ntmps10
 go_wp2_with fail
 have H1 := Lib.hid (Bx.new w (.cells #[.string op, .int .i64 t.1, .bool t.2, .int .u64 num, .int .i64 v, .bool gl, .int .i64 ln, .int .i64 cl, .slice A n c] 27))
 obtain ⟨w1, hw1⟩ : ∃ w1, w1 = ((w.alloc (.cells #[.string op, .int .i64 t.1, .bool t.2, .int .u64 num, .int .i64 v, .bool gl, .int .i64 ln, .int .i64 cl, .slice A n c] 27)).alloc (.cells #[.int .i64 0, .bool false] 23)).alloc (.cells #[.int .i64 0, .bool false] 23) := ⟨_, rfl⟩
 rw [← hw1] at H1 ⊢
 clear hw1
 have a0 : w1.cell? ⟨w.heap.size, 0, none⟩ = some (.string op) := blk_cell H1.out.box 0
 have a1 : w1.cell? ⟨w.heap.size, 1, none⟩ = some (.int .i64 t.1) := blk_cell H1.out.box 1
 have a2 : w1.cell? ⟨w.heap.size, 2, none⟩ = some (.bool t.2) := blk_cell H1.out.box 2
 have a4 : w1.cell? ⟨w.heap.size, 4, none⟩ = some (.int .i64 v) := blk_cell H1.out.box 4
 have a8 : w1.cell? ⟨w.heap.size, 8, none⟩ = some (.slice A n c) := blk_cell H1.out.box 8
 refine Plan.wp_region_plan [0, 1, 0, 4, 12, 31, 63] [.mk [0, 1, 2, 3] 4 [0, 1], .mk [] 5 []] [6] (by kernel_rfl) (by kernel_rfl) ?_
 simp only [Plan.wayOf, Plan.pickAll, List.getElem?_cons_zero, List.getElem?_cons_succ, List.getD_eq_getElem?_getD, Option.getD_some]
 refine Plan.wpWay_seg ?_
 repeat go_big_quiet_step (fail)
 refine wpQuiet_nil ?_; refine Plan.wpWay_act ?_
 go_wp2_with fail
 refine (HR.out _).mono ?_
 rintro e w2 ⟨rfl, hf⟩
 have H2 := Lib.hid (H1.out.drew.frm0 hf)
 have b1 := blk_cell H2.out.box 1
 have b2 := blk_cell H2.out.box 2
 have r0 := blk_cell H2.out.res 0
 have r1 := blk_cell H2.out.res 1
 have z0 := blk_free H2.out.res 0
 have z1 := blk_free H2.out.res 1
 clear hf
 go_wp2_with fail
 refine And.intro ?_ ?_; focus ((iterate 2 (refine Plan.again_cons ?_ ?_; focus (go_big_quiet_step (fail); exact wpQuiet_nil rfl))); exact Plan.again_nil)
 refine Plan.wpWay_seg ?_
 refine wpQuiet_nil ?_; refine Plan.wpWay_act ?_
 go_wp2_with (fail)
 refine And.intro Plan.again_nil ?_
 refine Plan.wpWay_last ?_
 repeat go_big_quiet_step (fail)
 refine wpQuiet_nil ?_; refine NoPanic.normal ?_
 go_wp2
 refine bodyPost_ret (v := .tuple #[.agg #[.int .i64 t.1, .bool t.2], .bool (rightF t)]) (by simp [results, Tryz.results10, go_sem, r0, r1]) rfl ⟨rfl, H2.out.fin _ _⟩
set_option maxRecDepth 100000 in
set_option maxHeartbeats 1000000 in
theorem type_out (w : World) (op : ByteArray) (t : Ty) (num : Nat) (v : Int) (gl : Bool) (ln cl : Int) (A : Option Addr) (n c : Nat) (B : Option Addr) (m d : Nat) (hm : m ≤ maxLen) (ho : op = sVar) (hv : v < 0 ∨ (m : Int) ≤ v) :
  Calls Tryz.prog 10 #[.agg #[.string op, .int .i64 t.1, .bool t.2, .int .u64 num, .int .i64 v, .bool gl, .int .i64 ln, .int .i64 cl, .slice A n c], .slice B m d] w (TyPost w (noTy, false)) := by
 have d1 : (op.toList == [110, 117, 109]) = false := by rw [eqS, ho]; decide
 have d2 : (op.toList == [118, 97, 114]) = true := by rw [eqS]; exact decide_eq_true ho
 have hm' : m ≤ 9223372036854775807 := hm
 clear ho hm
 rcases hv with hv | hv
 ·have hd : decide (v < 0) = true := decide_eq_true hv
  go_enter Tryz.func10, Tryz.ntmps10
  go_wp2_with fail
  have H1 := Lib.hid (Bx.new w (.cells #[.string op, .int .i64 t.1, .bool t.2, .int .u64 num, .int .i64 v, .bool gl, .int .i64 ln, .int .i64 cl, .slice A n c] 27))
  obtain ⟨w1, hw1⟩ : ∃ w1, w1 = ((w.alloc (.cells #[.string op, .int .i64 t.1, .bool t.2, .int .u64 num, .int .i64 v, .bool gl, .int .i64 ln, .int .i64 cl, .slice A n c] 27)).alloc (.cells #[.int .i64 0, .bool false] 23)).alloc (.cells #[.int .i64 0, .bool false] 23) := ⟨_, rfl⟩
  rw [← hw1] at H1 ⊢
  clear hw1
  have a0 : w1.cell? ⟨w.heap.size, 0, none⟩ = some (.string op) := blk_cell H1.out.box 0
  have a1 : w1.cell? ⟨w.heap.size, 1, none⟩ = some (.int .i64 t.1) := blk_cell H1.out.box 1
  have a2 : w1.cell? ⟨w.heap.size, 2, none⟩ = some (.bool t.2) := blk_cell H1.out.box 2
  have a4 : w1.cell? ⟨w.heap.size, 4, none⟩ = some (.int .i64 v) := blk_cell H1.out.box 4
  have a8 : w1.cell? ⟨w.heap.size, 8, none⟩ = some (.slice A n c) := blk_cell H1.out.box 8
  have r2 : w1.cell? ⟨w.heap.size + 1 + 1, 0, none⟩ = some (.int .i64 0) := blk_cell H1.out.non 0
  have r3 : w1.cell? ⟨w.heap.size + 1 + 1, 1, none⟩ = some (.bool false) := blk_cell H1.out.non 1
  have r0 := blk_cell H1.out.res 0
  have r1 := blk_cell H1.out.res 1
  have z0 := blk_free H1.out.res 0
  have z1 := blk_free H1.out.res 1
  go_wp2
  refine bodyPost_ret (v := .tuple #[.agg #[.int .i64 0, .bool false], .bool false]) (by simp [results, Tryz.results10, go_sem, r0, r1]) rfl ⟨rfl, H1.out.frm⟩
 ·have hd : decide (v < 0) = false := decide_eq_false (by omega)
  have hg : decide (v ≥ (m : Int)) = true := decide_eq_true hv
  go_enter Tryz.func10, Tryz.ntmps10
  go_wp2_with fail
  have H1 := Lib.hid (Bx.new w (.cells #[.string op, .int .i64 t.1, .bool t.2, .int .u64 num, .int .i64 v, .bool gl, .int .i64 ln, .int .i64 cl, .slice A n c] 27))
  obtain ⟨w1, hw1⟩ : ∃ w1, w1 = ((w.alloc (.cells #[.string op, .int .i64 t.1, .bool t.2, .int .u64 num, .int .i64 v, .bool gl, .int .i64 ln, .int .i64 cl, .slice A n c] 27)).alloc (.cells #[.int .i64 0, .bool false] 23)).alloc (.cells #[.int .i64 0, .bool false] 23) := ⟨_, rfl⟩
  rw [← hw1] at H1 ⊢
  clear hw1
  have a0 : w1.cell? ⟨w.heap.size, 0, none⟩ = some (.string op) := blk_cell H1.out.box 0
  have a1 : w1.cell? ⟨w.heap.size, 1, none⟩ = some (.int .i64 t.1) := blk_cell H1.out.box 1
  have a2 : w1.cell? ⟨w.heap.size, 2, none⟩ = some (.bool t.2) := blk_cell H1.out.box 2
  have a4 : w1.cell? ⟨w.heap.size, 4, none⟩ = some (.int .i64 v) := blk_cell H1.out.box 4
  have a8 : w1.cell? ⟨w.heap.size, 8, none⟩ = some (.slice A n c) := blk_cell H1.out.box 8
  have r2 : w1.cell? ⟨w.heap.size + 1 + 1, 0, none⟩ = some (.int .i64 0) := blk_cell H1.out.non 0
  have r3 : w1.cell? ⟨w.heap.size + 1 + 1, 1, none⟩ = some (.bool false) := blk_cell H1.out.non 1
  have r0 := blk_cell H1.out.res 0
  have r1 := blk_cell H1.out.res 1
  have z0 := blk_free H1.out.res 0
  have z1 := blk_free H1.out.res 1
  go_wp2
  refine bodyPost_ret (v := .tuple #[.agg #[.int .i64 0, .bool false], .bool false]) (by simp [results, Tryz.results10, go_sem, r0, r1]) rfl ⟨rfl, H1.out.frm⟩
set_option maxRecDepth 100000 in
set_option maxHeartbeats 1000000 in
theorem type_var (w : World) (op : ByteArray) (t : Ty) (num : Nat) (k : Nat) (gl : Bool) (ln cl : Int) (A : Option Addr) (n c : Nat) (g o m d : Nat) (u : Ty) (hm : m ≤ maxLen) (ho : op = sVar) (hk : k < m) (h0 : w.cell? ⟨g, o + k * 2, none⟩ = some (.int .i64 u.1)) (h1 : w.cell? ⟨g, o + k * 2 + 1, none⟩ = some (.bool u.2)) :
  Calls Tryz.prog 10 #[.agg #[.string op, .int .i64 t.1, .bool t.2, .int .u64 num, .int .i64 k, .bool gl, .int .i64 ln, .int .i64 cl, .slice A n c], .slice (some ⟨g, o, none⟩) m d] w (TyPost w (u, rightF u)) := by
 have d1 : (op.toList == [110, 117, 109]) = false := by rw [eqS, ho]; decide
 have d2 : (op.toList == [118, 97, 114]) = true := by rw [eqS]; exact decide_eq_true ho
 have hm' : m ≤ 9223372036854775807 := hm
 have HR := Lib.hid fun w1 => Right_calls w1 u
 have hd : decide ((k : Int) < 0) = false := decide_eq_false (by omega)
 have hg : decide ((k : Int) ≥ (m : Int)) = false := decide_eq_false (by omega)
 clear ho hm
 go_enter Tryz.func10, Tryz.ntmps10
 go_wp2_with fail
 have H1 := Lib.hid (Bx.new w (.cells #[.string op, .int .i64 t.1, .bool t.2, .int .u64 num, .int .i64 k, .bool gl, .int .i64 ln, .int .i64 cl, .slice A n c] 27))
 obtain ⟨w1, hw1⟩ : ∃ w1, w1 = ((w.alloc (.cells #[.string op, .int .i64 t.1, .bool t.2, .int .u64 num, .int .i64 k, .bool gl, .int .i64 ln, .int .i64 cl, .slice A n c] 27)).alloc (.cells #[.int .i64 0, .bool false] 23)).alloc (.cells #[.int .i64 0, .bool false] 23) := ⟨_, rfl⟩
 rw [← hw1] at H1 ⊢
 clear hw1
 have a0 : w1.cell? ⟨w.heap.size, 0, none⟩ = some (.string op) := blk_cell H1.out.box 0
 have a1 : w1.cell? ⟨w.heap.size, 1, none⟩ = some (.int .i64 t.1) := blk_cell H1.out.box 1
 have a2 : w1.cell? ⟨w.heap.size, 2, none⟩ = some (.bool t.2) := blk_cell H1.out.box 2
 have a4 : w1.cell? ⟨w.heap.size, 4, none⟩ = some (.int .i64 k) := blk_cell H1.out.box 4
 have a8 : w1.cell? ⟨w.heap.size, 8, none⟩ = some (.slice A n c) := blk_cell H1.out.box 8
 have e0 := frm_cell H1.out.frm h0
 have e1 := frm_cell H1.out.frm h1
 clear h0 h1
 go_wp2
 refine Plan.wp_region_plan [0, 0, 2, 7, 15, 0, 0, 64, 224, 480, 992, 2047, 4095] [.mk [0, 1, 2, 3, 4, 5, 6, 7, 8, 9] 10 [0, 1, 2, 3, 4], .mk [] 11 []] [12] (by kernel_rfl) (by kernel_rfl) ?_
 simp only [Plan.wayOf, Plan.pickAll, List.getElem?_cons_zero, List.getElem?_cons_succ, List.getD_eq_getElem?_getD, Option.getD_some]
 refine Plan.wpWay_seg ?_
 repeat go_big_quiet_step (fail)
 refine wpQuiet_nil ?_; refine Plan.wpWay_act ?_
 go_wp2_with fail
 refine (HR.out _).mono ?_
 rintro e w2 ⟨rfl, hf⟩
 have H2 := Lib.hid (H1.out.drew.frm0 hf)
 have b4 := blk_cell H2.out.box 4
 have r0 := blk_cell H2.out.res 0
 have r1 := blk_cell H2.out.res 1
 have z0 := blk_free H2.out.res 0
 have z1 := blk_free H2.out.res 1
 have f0 := frm_cellD hf e0
 have f1 := frm_cellD hf e1
 clear hf
 go_wp2_with fail
 refine And.intro ?_ ?_; focus ((iterate 5 (refine Plan.again_cons ?_ ?_; focus (go_big_quiet_step (fail); exact wpQuiet_nil rfl))); exact Plan.again_nil)
 refine Plan.wpWay_seg ?_
 refine wpQuiet_nil ?_; refine Plan.wpWay_act ?_
 go_wp2_with (fail)
 refine And.intro Plan.again_nil ?_
 refine Plan.wpWay_last ?_
 repeat go_big_quiet_step (fail)
 refine wpQuiet_nil ?_; refine NoPanic.normal ?_
 go_wp2
 refine bodyPost_ret (v := .tuple #[.agg #[.int .i64 u.1, .bool u.2], .bool (rightF u)]) (by simp [results, Tryz.results10, go_sem, r0, r1]) rfl ⟨rfl, H2.out.fin _ _⟩
end RfW
end Go.Proofs.YtbbajekecppioaaGreatDoor
/- The document's type of a tree, walked: kids. -/
namespace Go.Proofs.YtbbajekecppioaaGreatDoor
open Go.RowKit Go.Mem Go.Wd Go.Tp
namespace RfW
open TmW (frm_alloc frm_then Box wrap_nat64 frm_cellD frm_cell negE eqS countX countL typeX kindsX typeK evalX evalL evalK lastX noTy vtype is64 sNum sVar sCast sIte sUNot sUNeg sUTil sLand sLor)
theorem kinds_get (vs : List Ty) : ∀ {l : List Tree} {ks : List Ty}, kindsX vs l = some ks → ks.length = l.length ∧ ∀ (i : Nat) x, l[i]? = some x → (typeX vs x).2 = true ∧ ks[i]? = some (typeX vs x).1
 | [], ks, h => by
  rw [kindsX] at h
  obtain rfl := Option.some.inj h
  exact ⟨rfl, fun i x hx => by simp at hx⟩
 | y :: r, ks, h => by
  rw [kindsX] at h
  split at h
  ·rename_i hy
   obtain ⟨l, hl, rfl⟩ := Option.map_eq_some_iff.1 h
   obtain ⟨h1, h2⟩ := kinds_get vs hl
   refine ⟨by simp [h1], fun i x hx => ?_⟩
   cases i with
   | zero => simp only [List.getElem?_cons_zero, Option.some.injEq] at hx; subst hx; exact ⟨hy, rfl⟩
   | succ i => simpa using h2 i x (by simpa using hx)
  ·cases h
theorem kinds_none (vs : List Ty) : ∀ {l : List Tree}, kindsX vs l = none → ∃ (j : Nat) (x : Tree) (ks : List Ty), l[j]? = some x ∧ (typeX vs x).2 = false ∧ ks.length = j ∧ ∀ (i : Nat) x, i < j → l[i]? = some x → (typeX vs x).2 = true ∧ ks[i]? = some (typeX vs x).1
 | [], h => by rw [kindsX] at h; cases h
 | y :: r, h => by
  rw [kindsX] at h
  split at h
  ·rename_i hy
   obtain ⟨j, x, ks, h1, h2, h3, h4⟩ := kinds_none vs (Option.map_eq_none_iff.1 h)
   refine ⟨j + 1, x, (typeX vs y).1 :: ks, by simpa using h1, h2, by simp [h3], fun i z hi hz => ?_⟩
   cases i with
   | zero => simp only [List.getElem?_cons_zero, Option.some.injEq] at hz; subst hz; exact ⟨hy, rfl⟩
   | succ i => simpa using h4 i z (by omega) (by simpa using hz)
  ·rename_i hy
   exact ⟨0, y, [], rfl, by simpa using hy, rfl, fun i z hi => by omega⟩
theorem Bx.size3 {w wr : World} {xb : Obj} (h : Bx w wr xb) : w.heap.size + 3 ≤ wr.heap.size := by have := lt_of_block h.non; omega
theorem Bx.grow {w wr w2 : World} {xb : Obj} {S : Nat → Prop} (h : Bx w wr xb) (hf : Frm S wr w2) (hS : ∀ b, S b → w.heap.size + 3 ≤ b) : Bx w w2 xb :=
 ⟨blk_frm h.box hf fun s => by have := hS _ s; omega, blk_frm h.res hf fun s => by have := hS _ s; omega, blk_frm h.non hf fun s => by have := hS _ s; omega, h.frm.trans hf fun x hx s => by have := hS _ s; omega⟩
theorem info_ty : (Tryz.prog.info? 23).map (fun i => (i.zero, i.size, i.bytes)) = some (some (.agg #[.int .i64 0, .bool false]), 2, 16) := by kernel_rfl
/-- What is known of kids up to the j-th: each has its type. -/
structure Upto (w : World) (lim : Nat) (vv : Value) (vs : List Ty) (A : Option Addr) (kids : List Tree) (j : Nat) (ks : List Ty) : Prop where
 mem : KidsAt w lim A 0 kids
 vars : VarsIn w lim vv vs
 le : j ≤ kids.length
 len : ks.length = j
 typ : ∀ (i : Nat) x, i < j → kids[i]? = some x → (typeX vs x).2 = true ∧ ks[i]? = some (typeX vs x).1
 call : ∀ (i : Nat) x, kids[i]? = some x → ∀ w1 val, TreeV w1 lim val x → VarsIn w1 lim vv vs → Calls Tryz.prog 10 #[val, vv] w1 (TyPost w1 (typeX vs x))
 most : kids.length ≤ 4194304
set_option maxRecDepth 100000 in
set_option maxHeartbeats 1000000 in
theorem type_bad {lim : Nat} (w : World) (op : ByteArray) (t : Ty) (num : Nat) (v : Int) (gl : Bool) (ln cl : Int) (A : Option Addr) (c : Nat) (kids : List Tree) (vv : Value) (vs ks : List Ty) (j : Nat) (x : Tree) (h : Upto w lim vv vs A kids j ks) (hx : kids[j]? = some x) (hbad : (typeX vs x).2 = false) (n1 : op ≠ sNum) (n2 : op ≠ sVar) :
  Calls Tryz.prog 10 #[.agg #[.string op, .int .i64 t.1, .bool t.2, .int .u64 num, .int .i64 v, .bool gl, .int .i64 ln, .int .i64 cl, .slice A kids.length c], vv] w (TyPost w (noTy, false)) := by
 have d1 : (op.toList == [110, 117, 109]) = false := by rw [eqS]; exact decide_eq_false n1
 have d2 : (op.toList == [118, 97, 114]) = false := by rw [eqS]; exact decide_eq_false n2
 obtain ⟨i0, hi, hz0, hz1, hz2⟩ := info_parts info_ty
 have HU := Lib.hid h
 have HX := Lib.hid (And.intro hx hbad)
 clear h hx hbad n1 n2
 go_enter Tryz.func10, Tryz.ntmps10
 go_wp2_with fail
 have H1 := Lib.hid (Bx.new w (.cells #[.string op, .int .i64 t.1, .bool t.2, .int .u64 num, .int .i64 v, .bool gl, .int .i64 ln, .int .i64 cl, .slice A kids.length c] 27))
 obtain ⟨w1, hw1⟩ : ∃ w1, w1 = ((w.alloc (.cells #[.string op, .int .i64 t.1, .bool t.2, .int .u64 num, .int .i64 v, .bool gl, .int .i64 ln, .int .i64 cl, .slice A kids.length c] 27)).alloc (.cells #[.int .i64 0, .bool false] 23)).alloc (.cells #[.int .i64 0, .bool false] 23) := ⟨_, rfl⟩
 have hsz := Lib.hid (show w1.heap.size = w.heap.size + 1 + 1 + 1 by rw [hw1]; simp)
 rw [← hw1] at H1 ⊢
 clear hw1
 have a0 : w1.cell? ⟨w.heap.size, 0, none⟩ = some (.string op) := blk_cell H1.out.box 0
 have a1 : w1.cell? ⟨w.heap.size, 1, none⟩ = some (.int .i64 t.1) := blk_cell H1.out.box 1
 have a2 : w1.cell? ⟨w.heap.size, 2, none⟩ = some (.bool t.2) := blk_cell H1.out.box 2
 have a4 : w1.cell? ⟨w.heap.size, 4, none⟩ = some (.int .i64 v) := blk_cell H1.out.box 4
 have a8 : w1.cell? ⟨w.heap.size, 8, none⟩ = some (.slice A kids.length c) := blk_cell H1.out.box 8
 have H2 := Lib.hid (H1.out.frm0 (frm_alloc w1 (.cells #[] 23)))
 have HR0 := Lib.hid (show SRow (w1.alloc (.cells #[] 23)) 23 encT (.slice (some ⟨w.heap.size + 1 + 1 + 1, 0, none⟩) 0 0) ([] : List Ty) from SRow.empty (blk_new_at _ hsz.out.symm))
 clear a0 a1 a2 a4 a8
 go_wp2_with fail
 go_loopw [7, 8] (fun v7 v8 w' => ∃ k : Nat, k ≤ j ∧ v8 = .int .i64 k ∧ Hid (SRow w' 23 encT v7 (ks.take k)) ∧ Hid (Bx w w' (.cells #[.string op, .int .i64 t.1, .bool t.2, .int .u64 num, .int .i64 v, .bool gl, .int .i64 ln, .int .i64 cl, .slice A kids.length c] 27)) ∧ Hid (∀ g, v7.ownBlock = some g → w.heap.size + 3 ≤ g)) (fun _ v8 _ => kids.length - (intOf v8).toNat)
 case atStart => exact ⟨0, Nat.zero_le _, rfl, HR0, H2, Lib.hid fun g hg => by cases hg; exact Nat.le_refl _⟩
 case round =>
  obtain ⟨k, hk, rfl, HS, HB, HO⟩ := hrel
  have b8 : wr.cell? ⟨w.heap.size, 8, none⟩ = some (.slice A kids.length c) := blk_cell HB.out.box 8
  have hmost := HU.out.most
  by_cases hlt : k < j
  ·have hle := HU.out.le
   have hltI : (k : Int) < (kids.length : Int) := by omega
   obtain ⟨x, hx⟩ : ∃ x, kids[k]? = some x := ⟨_, List.getElem?_eq_getElem (by omega)⟩
   obtain ⟨hx1, hx2⟩ := HU.out.typ k x hlt hx
   obtain ⟨g, o, rfl, hT⟩ := (HU.out.mem.frm0 HB.out.frm).get hx
   rw [Nat.zero_add] at hT
   obtain ⟨a0, a1, a2, a3, a4, a5, a6, a7, a8, hV, c0, c1, c2, c3, c4, c5, c6, c7, c8⟩ := hT.load
   have HC := Lib.hid (HU.out.call k x hx wr _ hV (HU.out.vars.frm0 HB.out.frm))
   have htk := Lib.hid (show ks.take (k + 1) = ks.take k ++ [(typeX vs x).1] by rw [List.take_add_one, hx2]; rfl)
   have hl7 := Lib.hid (show (ks.take k).length ≤ 4194304 by rw [List.length_take]; omega)
   obtain ⟨ys, hys⟩ : ∃ ys, ys = ks.take k := ⟨_, rfl⟩
   rw [← hys] at HS htk hl7
   have HY := Lib.hid hys
   clear hys
   rcases HS.out.slice with ⟨RA, RC, rfl, _⟩
   obtain ⟨u, hu⟩ : ∃ u, typeX vs x = (u, true) := ⟨(typeX vs x).1, Prod.ext rfl hx1⟩
   rw [hu] at HC htk
   clear hT hV hx hx1 hx2 hu
   go_wp2_with fail
   refine HC.out.mono ?_
   rintro e w2 ⟨rfl, hf⟩
   have HB2 := Lib.hid (HB.out.frm0 hf)
   have HS2 := Lib.hid (HS.out.frm0 hf)
   clear hf
   go_wp2_with (at_builtin; refine wpList_append_srow rfl _ _ 28 rfl 23 i0 (.agg #[.int .i64 0, .bool false]) 16 Tryz.underlying28 hi hz0 hz1 hz2 rfl (by decide) (E := encT) (.slice RA ys.length RC) ys rfl (HS2.out.frm0 ((frm_alloc w2 (.cells #[.int .i64 u.1, .bool u.2] 23)).alloc (.cells #[.int .i64 u.1, .bool u.2] 23))) ⟨w2.heap.size + 1, 0, none⟩ 1 u rfl ?c1 ?c2 ?c3 ?_)
   case c1 =>
    intro i u' hu'
    have e : (⟨w2.heap.size + 1, 0, none⟩ : Addr).add i = ⟨w2.heap.size + 1, i, none⟩ := by unfold Addr.add; split <;> simp_all
    rw [e, blk_cell (blk_new_at (w := w2.alloc (.cells #[.int .i64 u.1, .bool u.2] 23)) (n := w2.heap.size + 1) (.cells #[.int .i64 u.1, .bool u.2] 23) (by simp))]
    simpa [encT] using hu'
   case c2 => have := hl7.out; have : maxLen = 9223372036854775807 := rfl; omega
   case c3 => have := hl7.out; omega
   intro g' cap' w7 hrow hfr hg hlt7
   have HS7 := Lib.hid (show SRow w7 23 encT (.slice (some ⟨g', 0, none⟩) (ys.length + 1) cap') (ks.take (k + 1)) by rw [htk.out]; exact hrow)
   have hB3 := HB2.out.frm0 ((frm_alloc w2 (.cells #[.int .i64 u.1, .bool u.2] 23)).alloc (.cells #[.int .i64 u.1, .bool u.2] 23))
   have HB7 := Lib.hid (hB3.grow hfr fun b hb => HO.out b hb)
   have HO7 := Lib.hid (show w.heap.size + 3 ≤ g' by rcases hg with h | h; exact HO.out g' h; rw [h]; have := HB2.out.size3; simp; omega)
   clear hrow hfr hg hB3
   go_wp2
   go_roundw
   case rel => exact ⟨k + 1, by omega, by first | rfl | go_num, HS7, HB7, Lib.hid fun g'' hg'' => by cases hg''; exact HO7.out⟩
   case measure => simp [intOf]; omega
  ·obtain rfl : k = j := by omega
   have hle := HU.out.le
   rw [List.take_of_length_le (Nat.le_of_eq HU.out.len)] at HS
   obtain ⟨hx, hbad⟩ := HX.out
   have hjl : k < kids.length := (List.getElem?_eq_some_iff.1 hx).1
   have hltI : (k : Int) < (kids.length : Int) := by omega
   obtain ⟨g, o, rfl, hT⟩ := (HU.out.mem.frm0 HB.out.frm).get hx
   rw [Nat.zero_add] at hT
   obtain ⟨a0, a1, a2, a3, a4, a5, a6, a7, a8, hV, c0, c1, c2, c3, c4, c5, c6, c7, c8⟩ := hT.load
   have HC := Lib.hid (HU.out.call k x hx wr _ hV (HU.out.vars.frm0 HB.out.frm))
   obtain ⟨u, hu⟩ : ∃ u, typeX vs x = (u, false) := ⟨(typeX vs x).1, Prod.ext rfl hbad⟩
   rw [hu] at HC
   clear hT hV hx hbad hu
   go_wp2_with fail
   refine HC.out.mono ?_
   rintro e w2 ⟨rfl, hf⟩
   have HB2 := Lib.hid (HB.out.frm0 (frm_then hf (frm_alloc w2 (.cells #[.int .i64 u.1, .bool u.2] 23))))
   have r0 := blk_cell HB2.out.res 0
   have r1 := blk_cell HB2.out.res 1
   have z0 := blk_free HB2.out.res 0
   have z1 := blk_free HB2.out.res 1
   have q0 := blk_cell HB2.out.non 0
   have q1 := blk_cell HB2.out.non 1
   clear hf
   go_wp2
   refine bodyPost_ret (v := .tuple #[.agg #[.int .i64 0, .bool false], .bool false]) (by simp [results, Tryz.results10, go_sem, r0, r1]) rfl ⟨rfl, HB2.out.fin _ _⟩
end RfW
end Go.Proofs.YtbbajekecppioaaGreatDoor
