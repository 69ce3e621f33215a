/- The pool's typed walked. -/
import Derived.Test.YtbbajekecppioaaGreatDoorGa13
set_option linter.unusedSimpArgs false
set_option linter.unusedVariables false
namespace Go.Proofs.YtbbajekecppioaaGreatDoor
open Go.RowKit Go.Mem Go.Wd Go.Tp
namespace TmW
/-- What typed leaves: whether it may be, and, where it may, the operands' type and the result's. -/
def TyPost (w : World) (ok : Bool) (t r : Ty) (e : Ending) (w' : World) : Prop :=
  ∃ t' r' : Ty, e = .returned (.tuple #[.agg #[.int .i64 t'.1, .bool t'.2], .agg #[.int .i64 r'.1, .bool r'.2], .bool ok]) ∧ (ok = true → t' = t ∧ r' = r) ∧ Frm (fun _ => False) w w'
def allTy (s : TPool) (t : Ty) (l : List Int) : Bool := l.all fun f => decide (typeF s f = t)
theorem allTy_step {s : TPool} {t : Ty} {l : List Int} {k : Nat} {x : Int} (hx : l[k]? = some x) (h : allTy s t (l.take k) = true) (ht : typeF s x = t) : allTy s t (l.take (k + 1)) = true := by
  rw [List.take_add_one, hx]
  unfold allTy at *
  rw [List.all_append, h]
  simp [ht]
theorem allTy_not {s : TPool} {t : Ty} {l : List Int} {k : Nat} {x : Int} (hx : l[k]? = some x) (ht : typeF s x ≠ t) : allTy s t l = false := by
  unfold allTy
  rw [List.all_eq_false]
  exact ⟨x, List.mem_of_getElem? hx, by simpa using ht⟩
set_option maxRecDepth 100000 in
set_option maxHeartbeats 4000000 in
theorem typed0_calls {w : World} {p : Nat} (op : ByteArray) (lv : Value) (l : List Int) (hl : Sees w (Value.int .i64) lv l) (hn : l.length = 0 ∨ 3 < l.length) :
    Calls Tryz.prog 42 #[.pointer (some ⟨p, 0, none⟩), .string op, lv] w (TyPost w false (0, false) (0, false)) := by
  obtain ⟨A, cap, rfl, _⟩ := sees_slice hl
  have hF := Lib.hid ((frm_alloc w (.cells #[.int .i64 0, .bool false] 23)).alloc (.cells #[.int .i64 0, .bool false] 23))
  have hlen := hl.len
  clear hl
  have key : ∀ (d0 : ((l.length : Int) == 0) = true ∨ (((l.length : Int) == 0) = false ∧ decide ((l.length : Int) > 3) = true)), Calls Tryz.prog 42 #[.pointer (some ⟨p, 0, none⟩), .string op, .slice A l.length cap] w (TyPost w false (0, false) (0, false)) := by
    intro d
    generalize (l.length : Nat) = n at *
    rcases d with d0 | ⟨d0, d1⟩
    all_goals
      go_enter Tryz.func42, Tryz.ntmps42
      go_wp2
      refine bodyPost_ret (v := .tuple #[.agg #[.int .i64 0, .bool false], .agg #[.int .i64 0, .bool false], .bool false]) ?_ rfl ⟨(0, false), (0, false), rfl, fun h => (by cases h), ?_⟩
      · simp [results, Tryz.results42, go_sem]
      · exact hF.out
  refine key ?_
  rcases hn with h | h
  · exact .inl (by rw [h]; rfl)
  · exact .inr ⟨by simp; intro e; rw [e] at h; simp at h, by simp; omega⟩
theorem _root_.Go.Mem.Sees.cells_at {α : Type} {w : World} {enc : α → Value} {g o n c : Nat} {xs : List α} (h : Sees w enc (.slice (some ⟨g, o, none⟩) n c) xs) : ∀ k x, xs[k]? = some x → w.cell? ⟨g, o + k, none⟩ = some (enc x) := by
  rcases h with ⟨h, _⟩ | ⟨g', o', cap, e, _, _, hc⟩
  · cases h
  · cases e; exact hc
theorem last_cells {w : World} {own : Nat → Prop} {p : Nat} {s : TPool} (h : PoolAt w own p s) {f : Int} (hi : inP s f = true) {ty : Ty} (ht : typeF s f = ty) : ∃ g cap, w.cell? ⟨p, 0, none⟩ = some (.slice (some ⟨g, 0, none⟩) s.l.length cap) ∧ 0 ≤ f ∧ f < s.l.length ∧
    w.cell? ⟨g, f.toNat * 6 + 1, none⟩ = some (.int .i64 ty.1) ∧ w.cell? ⟨g, f.toNat * 6 + 2, none⟩ = some (.bool ty.2) := by
  obtain ⟨n, hn⟩ := nth_some (l := s.l) (f := f) (by simpa [inP] using hi)
  obtain ⟨l0, l1⟩ := nth_lt hn
  obtain ⟨g, cap, kv, p0, _, _, _, e0, e1, e2, e3, e4, e5⟩ := h.node hn
  have : n.t = ty := by rw [← ht]; unfold typeF; rw [hn]
  subst this
  exact ⟨g, cap, p0, l0, l1, e1, e2⟩
set_option maxRecDepth 100000 in
set_option maxHeartbeats 4000000 in
theorem typed1_calls {w : World} {own : Nat → Prop} {p : Nat} {s : TPool} (hE : Env w) (h : PoolAt w own p s) (op : ByteArray) (hop : op.size ≤ maxLen) (lv : Value) (a : Int) (hl : Sees w (Value.int .i64) lv [a]) (ha : inP s a = true) :
    Calls Tryz.prog 42 #[.pointer (some ⟨p, 0, none⟩), .string op, lv] w (TyPost w (allTy s (typeF s a) [a] && ((applyF op (typeF s a) [0]).2 == 0)) (typeF s a) (resultF op (typeF s a))) := by
  obtain ⟨ty, hty⟩ : ∃ ty, typeF s a = ty := ⟨_, rfl⟩
  have HP := Lib.hid h
  have HE := Lib.hid hE
  have Hty := Lib.hid hty
  have Hlast := Lib.hid ha
  have HX := Lib.hid hl
  rcases hl with ⟨_, h⟩ | ⟨g, o, cap, rfl, hc1, hc2, hc⟩
  · cases h
  have clast : w.cell? ⟨g, o, none⟩ = _ := hc 0 a rfl
  rw [hty]
  clear hE h ha hty hc hc1 hc2
  cases di : (op.toList == [105, 116, 101])
  all_goals
    go_enter Tryz.func42, Tryz.ntmps42
    go_wp2
    obtain ⟨w0, hw0⟩ : ∃ w0, w0 = (w.alloc (.cells #[.int .i64 0, .bool false] 23)).alloc (.cells #[.int .i64 0, .bool false] 23) := ⟨_, rfl⟩
    rw [← hw0]
    have HA0 := Lib.hid (show Box w0 w.heap.size (0, false) by rw [hw0]; exact (Box.new w (0, false)).frm0 (frm_alloc _ _))
    have HB0 := Lib.hid (show Box w0 (w.heap.size + 1) (0, false) by rw [hw0]; exact (show ((w.alloc (.cells #[.int .i64 0, .bool false] 23)).alloc (.cells #[.int .i64 0, .bool false] 23)).heap[w.heap.size + 1]? = some (.cells #[.int .i64 0, .bool false] 23) from blk_new_at _ (by simp)))
    have HF0 := Lib.hid (show Frm (fun _ => False) w w0 by rw [hw0]; exact (frm_alloc _ _).alloc _)
    have hz0 : w.heap.size + 1 < w0.heap.size := by rw [hw0]; simp
    clear hw0
    obtain ⟨gp, cp, p0, a0, a1, t1, t2⟩ := last_cells (HP.out.frm0 HF0.out) Hlast.out Hty.out
    have k0 := frm_cell HF0.out clast
    have l0 := World.block_lt_of_cell? _ _ k0
    have l1 := World.block_lt_of_cell? _ _ p0
    have l2 := World.block_lt_of_cell? _ _ t1
    refine Plan.wp_region_plan [0, 1, 3, 7, 0, 0, 32, 96, 240, 496, 1023, 2047, 4095, 0, 16383] [.mk [0, 1, 2, 3, 4, 5, 6, 7, 8, 9, 10, 11, 12] 13 [0, 1, 2, 3, 4, 5, 6, 7, 8, 9, 10, 11, 12], .mk [] 14 []] [] (by kernel_rfl) (by kernel_rfl) ?_
    simp only [Plan.wayOf, Plan.pickAll, List.getElem?_cons_zero, List.getElem?_cons_succ, List.getD_eq_getElem?_getD, Option.getD_some]
    refine Plan.wpWay_seg ?_
    repeat go_big_quiet_step (fail)
    refine wpQuiet_nil ?_; refine Plan.wpWay_act ?_
    go_wp2_with (fail)
    refine And.intro ?_ ?_; focus ((iterate 13 (refine Plan.again_cons ?_ ?_; focus (go_big_quiet_step (fail); exact wpQuiet_nil rfl))); exact Plan.again_nil)
    refine Plan.wpWay_seg ?_
    refine wpQuiet_nil ?_; refine Plan.wpWay_act ?_
    go_wp2_with (fail)
    refine And.intro Plan.again_nil ?_
    refine Plan.wpWay_last ?_
    refine wpQuiet_nil ?_; refine NoPanic.normal ?_
    obtain ⟨w1, hw1⟩ : ∃ w1, w1 = (w0.alloc (.cells #[.int .i64 ty.1, .bool ty.2] 23)).drew := ⟨_, rfl⟩
    rw [← hw1]
    have HA1 := Lib.hid (show Box w1 w.heap.size (0, false) by rw [hw1]; exact HA0.out.frm0 (frm_alloc _ _).drew)
    have HB1 := Lib.hid (show Box w1 (w.heap.size + 1) (0, false) by rw [hw1]; exact HB0.out.frm0 (frm_alloc _ _).drew)
    have HT1 := Lib.hid (show Box w1 w0.heap.size ty by rw [hw1]; exact Box.frm0 (Box.new w0 ty) (Frm.refl _ _).drew)
    have HF1 := Lib.hid (show Frm (fun _ => False) w w1 by rw [hw1]; exact (HF0.out.alloc _).drew)
    generalize w0.heap.size = b9 at *
    clear hw1 p0 t1 t2 k0 l0 l1 l2
    go_wp2
    have HXS := Lib.hid (HX.out.cells_at)
    have HAP := Lib.hid (fun w' v (hf : Frm (fun _ => False) w w') (hv : Sees w' u64 v [0]) => apply1_calls w' op ty v 0 (by decide) hop (HE.out.frm0 hf).tabs hv)
    have Hin := Lib.hid (fun (x : Int) (hx : x ∈ [a]) => show inP s x = true by simp at hx; subst hx; exact Hlast.out)
    go_loopw [64] (fun v64 w' => ∃ k : Nat, k ≤ [a].length ∧ v64 = .int .i64 k ∧ Hid (allTy s ty ([a].take k) = true) ∧ Hid (Frm (fun _ => False) w1 w')) (fun v64 _ => [a].length - (intOf v64).toNat)
    case atStart => exact ⟨0, Nat.zero_le _, rfl, Lib.hid rfl, Lib.hid (Frm.refl _ _)⟩
    case round =>
      obtain ⟨k, hk, rfl, HAL, HFr⟩ := hrel
      have HFw := Lib.hid (frm_then HF1.out HFr.out)
      obtain ⟨n0, n1⟩ := (HT1.out.frm0 HFr.out).cells
      have hb9 := World.block_lt_of_cell? _ _ n0
      obtain ⟨m0, m1⟩ := (HA1.out.frm0 HFr.out).cells
      obtain ⟨m2, m3⟩ := (HB1.out.frm0 HFr.out).cells
      have fz0 := blk_free (HA1.out.frm0 HFr.out) 0
      have fz1 := blk_free (HA1.out.frm0 HFr.out) 1
      have fz2 := blk_free (HB1.out.frm0 HFr.out) 0
      have fz3 := blk_free (HB1.out.frm0 HFr.out) 1
      by_cases hlt : k < [a].length
      · obtain ⟨x, hx⟩ : ∃ x, ([a])[k]? = some x := ⟨_, List.getElem?_eq_getElem hlt⟩
        have hxin := Hin.out x (List.mem_of_getElem? hx)
        obtain ⟨tx, htx⟩ : ∃ tx, typeF s x = tx := ⟨_, rfl⟩
        obtain ⟨gx, cx, px, x0, x1, u1, u2⟩ := last_cells (HP.out.frm0 HFw.out) hxin htx
        have kx := frm_cell HFw.out (HXS.out k x hx)
        have hltI : (k : Int) < ([a].length : Int) := by omega
        have hk64 : k ≤ 4 := by simp at hlt; omega
        have Hx := Lib.hid hx
        have Htx := Lib.hid htx
        clear hx htx hxin
        by_cases he : tx = ty
        · have HS := Lib.hid (allTy_step Hx.out HAL.out (Htx.out.trans he))
          subst he
          simp only [List.length_cons, List.length_nil, Nat.zero_add, Nat.reduceAdd] at hltI hlt hk ⊢
          go_wp2
          go_quiet (fail)
          go_wp2
          go_roundw
          case rel => exact ⟨k + 1, by simp; omega, by go_num, HS, Lib.hid (HFr.out.drewN _)⟩
          case measure => simp [intOf]; omega
        · have hs := Lib.hid (allTy_not Hx.out (fun e => he (Htx.out.symm.trans e)))
          simp only [List.length_cons, List.length_nil, Nat.zero_add, Nat.reduceAdd] at hltI hlt hk ⊢
          have hfin : ∀ W, Frm (fun _ => False) w W → TyPost w (allTy s ty [a] && ((applyF op ty [0]).2 == 0)) ty (resultF op ty) (.returned (.tuple #[.agg #[.int .i64 ty.1, .bool ty.2], .agg #[.int .i64 ty.1, .bool ty.2], .bool false])) W := fun W hW => ⟨ty, ty, by rw [hs.out]; rfl, fun h => (by rw [hs.out] at h; cases h), hW⟩
          have HFIN := Lib.hid hfin
          clear hfin hs
          by_cases ht1 : tx.1 = ty.1
          · have hne : tx.2 ≠ ty.2 := fun e => he (Prod.ext ht1 e)
            have hd1 : (tx.1 == ty.1) = true := by simp [ht1]
            have hd2 : (tx.2 == ty.2) = false := by simp [hne]
            clear he ht1 hne
            go_wp2
            go_quiet (fail)
            go_wp2
            refine Plan.wp_region_plan [0, 0, 1, 7, 15] [.mk [0, 1] 2 [1], .mk [] 3 []] [4] (by kernel_rfl) (by kernel_rfl) ?_
            simp only [Plan.wayOf, Plan.pickAll, List.getElem?_cons_zero, List.getElem?_cons_succ, List.getD_eq_getElem?_getD, Option.getD_some]
            refine Plan.wpWay_seg ?_
            repeat go_big_quiet_step (fail)
            refine wpQuiet_nil ?_; refine Plan.wpWay_act ?_
            go_wp2_with (fail)
            refine And.intro ?_ ?_; focus ((iterate 1 (refine Plan.again_cons ?_ ?_; focus (go_big_quiet_step (fail); exact wpQuiet_nil rfl))); exact Plan.again_nil)
            refine Plan.wpWay_seg ?_
            refine wpQuiet_nil ?_; refine Plan.wpWay_act ?_
            go_wp2_with (fail)
            refine And.intro Plan.again_nil ?_
            refine Plan.wpWay_last ?_
            repeat go_big_quiet_step (fail)
            refine wpQuiet_nil ?_; refine NoPanic.normal ?_
            go_wp2
            refine bodyPost_ret (v := .tuple #[.agg #[.int .i64 ty.1, .bool ty.2], .agg #[.int .i64 ty.1, .bool ty.2], .bool false]) ?_ rfl (HFIN.out _ ?_)
            · simp [results, Tryz.results42, go_sem, m0, m1, m2, m3]
            · exact ((((HFw.out.drewN _).set (p := ⟨w.heap.size, 0, none⟩) (.inr (Nat.le_refl _)) _).set (p := ⟨w.heap.size, 1, none⟩) (.inr (Nat.le_refl _)) _).set (p := ⟨w.heap.size + 1, 0, none⟩) (.inr (Nat.le_succ _)) _).set (p := ⟨w.heap.size + 1, 1, none⟩) (.inr (Nat.le_succ _)) _
          · have hd1 : (tx.1 == ty.1) = false := by simp [ht1]
            clear he ht1
            go_wp2
            go_quiet (fail)
            go_wp2
            refine Plan.wp_region_plan [0, 0, 1, 7, 15] [.mk [0, 1] 2 [1], .mk [] 3 []] [4] (by kernel_rfl) (by kernel_rfl) ?_
            simp only [Plan.wayOf, Plan.pickAll, List.getElem?_cons_zero, List.getElem?_cons_succ, List.getD_eq_getElem?_getD, Option.getD_some]
            refine Plan.wpWay_seg ?_
            repeat go_big_quiet_step (fail)
            refine wpQuiet_nil ?_; refine Plan.wpWay_act ?_
            go_wp2_with (fail)
            refine And.intro ?_ ?_; focus ((iterate 1 (refine Plan.again_cons ?_ ?_; focus (go_big_quiet_step (fail); exact wpQuiet_nil rfl))); exact Plan.again_nil)
            refine Plan.wpWay_seg ?_
            refine wpQuiet_nil ?_; refine Plan.wpWay_act ?_
            go_wp2_with (fail)
            refine And.intro Plan.again_nil ?_
            refine Plan.wpWay_last ?_
            repeat go_big_quiet_step (fail)
            refine wpQuiet_nil ?_; refine NoPanic.normal ?_
            go_wp2
            refine bodyPost_ret (v := .tuple #[.agg #[.int .i64 ty.1, .bool ty.2], .agg #[.int .i64 ty.1, .bool ty.2], .bool false]) ?_ rfl (HFIN.out _ ?_)
            · simp [results, Tryz.results42, go_sem, m0, m1, m2, m3]
            · exact ((((HFw.out.drewN _).set (p := ⟨w.heap.size, 0, none⟩) (.inr (Nat.le_refl _)) _).set (p := ⟨w.heap.size, 1, none⟩) (.inr (Nat.le_refl _)) _).set (p := ⟨w.heap.size + 1, 0, none⟩) (.inr (Nat.le_succ _)) _).set (p := ⟨w.heap.size + 1, 1, none⟩) (.inr (Nat.le_succ _)) _
      · have hke : k = [a].length := by omega
        subst hke
        rw [List.take_length] at HAL
        clear hlt hk
        simp only [List.length_cons, List.length_nil, Nat.zero_add, Nat.reduceAdd]
        have hmk : ∀ W : World, (Instr.makeSlice 29 (.int .i64 1) (.int .i64 1)).run Tryz.prog W = .ok (.slice (some ⟨W.heap.size, 0, none⟩) 1 1) (W.alloc (.cells #[.int .u64 0] 24)) := fun _ => by kernel_rfl
        go_wp2
        refine Plan.wp_region_plan [0, 0, 0, 4, 12, 31, 63, 127, 127, 255, 1023] [.mk [0, 1, 2, 3] 4 [0, 1], .mk [] 5 []] [6, 7, 8, 9, 10] (by kernel_rfl) (by kernel_rfl) ?_
        simp only [Plan.wayOf, Plan.pickAll, List.getElem?_cons_zero, List.getElem?_cons_succ, List.getD_eq_getElem?_getD, Option.getD_some]
        refine Plan.wpWay_seg ?_
        repeat go_big_quiet_step (fail)
        refine wpQuiet_nil ?_; refine Plan.wpWay_act ?_
        go_wp2_with (fail)
        refine And.intro ?_ ?_; focus ((iterate 2 (refine Plan.again_cons ?_ ?_; focus (go_big_quiet_step (fail); exact wpQuiet_nil rfl))); exact Plan.again_nil)
        refine Plan.wpWay_seg ?_
        refine wpQuiet_nil ?_; refine Plan.wpWay_act ?_
        go_wp2_with fail
        refine (HAP.out _ _ (HFw.out.alloc _).drew (sees_of_blk (blk_new _) rfl rfl (by decide))).mono ?_
        rintro e w4 ⟨rfl, hf4⟩
        have HF4 := Lib.hid (frm_then ((HFr.out.alloc _).drew) hf4)
        obtain ⟨i0, i1⟩ := (HT1.out.frm0 HF4.out).cells
        clear hf4
        go_wp2_with fail
        refine And.intro Plan.again_nil ?_
        refine Plan.wpWay_last ?_
        repeat go_big_quiet_step (fail)
        refine wpQuiet_nil ?_; refine NoPanic.normal ?_
        have HFw4 := Lib.hid (frm_then HF1.out HF4.out)
        have hfin : ∀ W, Frm (fun _ => False) w W → TyPost w (allTy s ty [a] && ((applyF op ty [0]).2 == 0)) ty (resultF op ty) (.returned (.tuple #[.agg #[.int .i64 ty.1, .bool ty.2], .agg #[.int .i64 (resultF op ty).1, .bool (resultF op ty).2], .bool ((applyF op ty [0]).2 == 0)])) W := fun W hW => ⟨ty, resultF op ty, by rw [HAL.out]; rfl, fun _ => ⟨rfl, rfl⟩, hW⟩
        have HFIN := Lib.hid hfin
        clear hfin
        have HRS := Lib.hid (fun w' (hf : Frm (fun _ => False) w w') => result_calls w' (HE.out.frm0 hf) op ty)
        generalize resultF op ty = rt at *
        go_wp2
        refine Plan.wp_region_plan [0, 0, 0, 6, 0, 16, 15, 79, 255] [.mk [0, 1, 2, 4, 5] 3 [0, 4, 5], .mk [] 6 [4, 5], .mk [] 7 [4, 5]] [8] (by kernel_rfl) (by kernel_rfl) ?_
        simp only [Plan.wayOf, Plan.pickAll, List.getElem?_cons_zero, List.getElem?_cons_succ, List.getD_eq_getElem?_getD, Option.getD_some]
        refine Plan.wpWay_seg ?_
        repeat go_big_quiet_step (fail)
        refine wpQuiet_nil ?_; refine Plan.wpWay_act ?_
        go_wp2_with fail
        refine (HRS.out _ HFw4.out.drew).mono ?_
        rintro e w5 ⟨rfl, hf5⟩
        have HF5 := Lib.hid (frm_then HF4.out.drew hf5)
        obtain ⟨j0, j1⟩ := (HT1.out.frm0 HF5.out).cells
        obtain ⟨m4, m5⟩ := (HA1.out.frm0 HF5.out).cells
        obtain ⟨m6, m7⟩ := (HB1.out.frm0 HF5.out).cells
        have fy0 := blk_free (HA1.out.frm0 HF5.out) 0
        have fy1 := blk_free (HA1.out.frm0 HF5.out) 1
        have fy2 := blk_free (HB1.out.frm0 HF5.out) 0
        have fy3 := blk_free (HB1.out.frm0 HF5.out) 1
        clear hf5
        go_wp2_with fail
        refine And.intro ?_ ?_; focus ((iterate 3 (refine Plan.again_cons ?_ ?_; focus (go_big_quiet_step (fail); exact wpQuiet_nil rfl))); exact Plan.again_nil)
        refine Plan.wpWay_seg ?_
        refine wpQuiet_nil ?_; refine Plan.wpWay_act ?_
        go_wp2_with (fail)
        refine And.intro ?_ ?_; focus ((iterate 2 (refine Plan.again_cons ?_ ?_; focus (go_big_quiet_step (fail); exact wpQuiet_nil rfl))); exact Plan.again_nil)
        refine Plan.wpWay_seg ?_
        refine wpQuiet_nil ?_; refine Plan.wpWay_act ?_
        go_wp2_with (fail)
        refine And.intro ?_ ?_; focus ((iterate 2 (refine Plan.again_cons ?_ ?_; focus (go_big_quiet_step (fail); exact wpQuiet_nil rfl))); exact Plan.again_nil)
        refine Plan.wpWay_last ?_
        repeat go_big_quiet_step (fail)
        refine wpQuiet_nil ?_; refine NoPanic.normal ?_
        have HFw5 := Lib.hid (frm_then HF1.out HF5.out)
        go_wp2
        refine bodyPost_ret (v := .tuple #[.agg #[.int .i64 ty.1, .bool ty.2], .agg #[.int .i64 rt.1, .bool rt.2], .bool ((applyF op ty [0]).2 == 0)]) ?_ rfl (HFIN.out _ ?_)
        · simp [results, Tryz.results42, go_sem, m4, m5, m6, m7]
        · exact ((((HFw5.out).set (p := ⟨w.heap.size, 0, none⟩) (.inr (Nat.le_refl _)) _).set (p := ⟨w.heap.size, 1, none⟩) (.inr (Nat.le_refl _)) _).set (p := ⟨w.heap.size + 1, 0, none⟩) (.inr (Nat.le_succ _)) _).set (p := ⟨w.heap.size + 1, 1, none⟩) (.inr (Nat.le_succ _)) _
end TmW
end Go.Proofs.YtbbajekecppioaaGreatDoor
/- The pool's typed walked, on. (Printed by genTmV.py.) -/
namespace Go.Proofs.YtbbajekecppioaaGreatDoor
open Go.RowKit Go.Mem Go.Wd Go.Tp
namespace TmW
set_option maxRecDepth 100000 in
set_option maxHeartbeats 4000000 in
theorem typed2_calls {w : World} {own : Nat → Prop} {p : Nat} {s : TPool} (hE : Env w) (h : PoolAt w own p s) (op : ByteArray) (hop : op.size ≤ maxLen) (lv : Value) (a b : Int) (hl : Sees w (Value.int .i64) lv [a, b]) (ha : inP s a = true) (hb : inP s b = true) :
  Calls Tryz.prog 42 #[.pointer (some ⟨p, 0, none⟩), .string op, lv] w (TyPost w (allTy s (typeF s b) [a, b] && ((applyF op (typeF s b) [0, 0]).2 == 0)) (typeF s b) (resultF op (typeF s b))) := by
 obtain ⟨ty, hty⟩ : ∃ ty, typeF s b = ty := ⟨_, rfl⟩
 have HP := Lib.hid h
 have HE := Lib.hid hE
 have Hty := Lib.hid hty
 have HX := Lib.hid hl
 have Hlast := Lib.hid hb
 rcases hl with ⟨_, h⟩ | ⟨g, o, cap, rfl, hc1, hc2, hc⟩
 ·cases h
 have clast : w.cell? ⟨g, o + 1, none⟩ = _ := hc 1 b rfl
 rw [hty]
 have Hin := Lib.hid (fun (x : Int) (hx : x ∈ [a, b]) => show inP s x = true by
  simp at hx
  rcases hx with rfl | rfl
  ·exact ha
  ·exact hb)
 have HXS := Lib.hid (HX.out.cells_at)
 have HAP := Lib.hid (fun w' v (hf : Frm (fun _ => False) w w') (hv : Sees w' u64 v [0, 0]) => apply2_calls w' op ty v 0 0 (by decide) (by decide) (HE.out.frm0 hf).tabs hv)
 clear hE h ha hb hty hc hc1 hc2
 cases di : (op.toList == [105, 116, 101])
 all_goals
  go_enter Tryz.func42, Tryz.ntmps42
  go_wp2
  obtain ⟨w0, hw0⟩ : ∃ w0, w0 = (w.alloc (.cells #[.int .i64 0, .bool false] 23)).alloc (.cells #[.int .i64 0, .bool false] 23) := ⟨_, rfl⟩
  rw [← hw0]
  have HA0 := Lib.hid (show Box w0 w.heap.size (0, false) by rw [hw0]; exact (Box.new w (0, false)).frm0 (frm_alloc _ _))
  have HB0 := Lib.hid (show Box w0 (w.heap.size + 1) (0, false) by rw [hw0]; exact (show ((w.alloc (.cells #[.int .i64 0, .bool false] 23)).alloc (.cells #[.int .i64 0, .bool false] 23)).heap[w.heap.size + 1]? = some (.cells #[.int .i64 0, .bool false] 23) from blk_new_at _ (by simp)))
  have HF0 := Lib.hid (show Frm (fun _ => False) w w0 by rw [hw0]; exact (frm_alloc _ _).alloc _)
  have hz0 : w.heap.size + 1 < w0.heap.size := by rw [hw0]; simp
  clear hw0
  obtain ⟨gp, cp, p0, a0, a1, t1, t2⟩ := last_cells (HP.out.frm0 HF0.out) Hlast.out Hty.out
  have k0 := frm_cell HF0.out clast
  have l0 := World.block_lt_of_cell? _ _ k0
  have l1 := World.block_lt_of_cell? _ _ p0
  have l2 := World.block_lt_of_cell? _ _ t1
  refine Plan.wp_region_plan [0, 1, 3, 7, 0, 0, 32, 96, 240, 496, 1023, 2047, 4095, 0, 16383] [.mk [0, 1, 2, 3, 4, 5, 6, 7, 8, 9, 10, 11, 12] 13 [0, 1, 2, 3, 4, 5, 6, 7, 8, 9, 10, 11, 12], .mk [] 14 []] [] (by kernel_rfl) (by kernel_rfl) ?_
  simp only [Plan.wayOf, Plan.pickAll, List.getElem?_cons_zero, List.getElem?_cons_succ, List.getD_eq_getElem?_getD, Option.getD_some]
  refine Plan.wpWay_seg ?_
  repeat go_big_quiet_step (fail)
  refine wpQuiet_nil ?_; refine Plan.wpWay_act ?_
  go_wp2_with (fail)
  refine And.intro ?_ ?_; focus ((iterate 13 (refine Plan.again_cons ?_ ?_; focus (go_big_quiet_step (fail); exact wpQuiet_nil rfl))); exact Plan.again_nil)
  refine Plan.wpWay_seg ?_
  refine wpQuiet_nil ?_; refine Plan.wpWay_act ?_
  go_wp2_with (fail)
  refine And.intro Plan.again_nil ?_
  refine Plan.wpWay_last ?_
  refine wpQuiet_nil ?_; refine NoPanic.normal ?_
  obtain ⟨w1, hw1⟩ : ∃ w1, w1 = (w0.alloc (.cells #[.int .i64 ty.1, .bool ty.2] 23)).drew := ⟨_, rfl⟩
  rw [← hw1]
  have HA1 := Lib.hid (show Box w1 w.heap.size (0, false) by rw [hw1]; exact HA0.out.frm0 (frm_alloc _ _).drew)
  have HB1 := Lib.hid (show Box w1 (w.heap.size + 1) (0, false) by rw [hw1]; exact HB0.out.frm0 (frm_alloc _ _).drew)
  have HT1 := Lib.hid (show Box w1 w0.heap.size ty by rw [hw1]; exact Box.frm0 (Box.new w0 ty) (Frm.refl _ _).drew)
  have HF1 := Lib.hid (show Frm (fun _ => False) w w1 by rw [hw1]; exact (HF0.out.alloc _).drew)
  generalize w0.heap.size = b9 at *
  clear hw1 p0 t1 t2 k0 l0 l1 l2
  go_wp2
  go_loopw [64] (fun v64 w' => ∃ k : Nat, k ≤ [a, b].length ∧ v64 = .int .i64 k ∧ Hid (allTy s ty ([a, b].take k) = true) ∧ Hid (Frm (fun _ => False) w1 w')) (fun v64 _ => [a, b].length - (intOf v64).toNat)
  case atStart => exact ⟨0, Nat.zero_le _, rfl, Lib.hid rfl, Lib.hid (Frm.refl _ _)⟩
  case round =>
   obtain ⟨k, hk, rfl, HAL, HFr⟩ := hrel
   have HFw := Lib.hid (frm_then HF1.out HFr.out)
   obtain ⟨n0, n1⟩ := (HT1.out.frm0 HFr.out).cells
   have hb9 := World.block_lt_of_cell? _ _ n0
   obtain ⟨m0, m1⟩ := (HA1.out.frm0 HFr.out).cells
   obtain ⟨m2, m3⟩ := (HB1.out.frm0 HFr.out).cells
   have fz0 := blk_free (HA1.out.frm0 HFr.out) 0
   have fz1 := blk_free (HA1.out.frm0 HFr.out) 1
   have fz2 := blk_free (HB1.out.frm0 HFr.out) 0
   have fz3 := blk_free (HB1.out.frm0 HFr.out) 1
   by_cases hlt : k < [a, b].length
   ·obtain ⟨x, hx⟩ : ∃ x, ([a, b])[k]? = some x := ⟨_, List.getElem?_eq_getElem hlt⟩
    have hxin := Hin.out x (List.mem_of_getElem? hx)
    obtain ⟨tx, htx⟩ : ∃ tx, typeF s x = tx := ⟨_, rfl⟩
    obtain ⟨gx, cx, px, x0, x1, u1, u2⟩ := last_cells (HP.out.frm0 HFw.out) hxin htx
    have kx := frm_cell HFw.out (HXS.out k x hx)
    have hltI : (k : Int) < ([a, b].length : Int) := by omega
    have hk64 : k ≤ 4 := by simp at hlt; omega
    have Hx := Lib.hid hx
    have Htx := Lib.hid htx
    clear hx htx hxin
    by_cases he : tx = ty
    ·have HS := Lib.hid (allTy_step Hx.out HAL.out (Htx.out.trans he))
     subst he
     simp only [List.length_cons, List.length_nil, Nat.zero_add, Nat.reduceAdd] at hltI hlt hk ⊢
     go_wp2
     go_quiet (fail)
     go_wp2
     go_roundw
     case rel => exact ⟨k + 1, by simp; omega, by go_num, HS, Lib.hid (HFr.out.drewN _)⟩
     case measure => simp [intOf]; omega
    ·have hs := Lib.hid (allTy_not Hx.out (fun e => he (Htx.out.symm.trans e)))
     simp only [List.length_cons, List.length_nil, Nat.zero_add, Nat.reduceAdd] at hltI hlt hk ⊢
     have hfin : ∀ W, Frm (fun _ => False) w W → TyPost w (allTy s ty [a, b] && ((applyF op ty [0, 0]).2 == 0)) ty (resultF op ty) (.returned (.tuple #[.agg #[.int .i64 ty.1, .bool ty.2], .agg #[.int .i64 ty.1, .bool ty.2], .bool false])) W := fun W hW => ⟨ty, ty, by rw [hs.out]; rfl, fun h => (by rw [hs.out] at h; cases h), hW⟩
     have HFIN := Lib.hid hfin
     clear hfin hs
     by_cases ht1 : tx.1 = ty.1
     ·have hne : tx.2 ≠ ty.2 := fun e => he (Prod.ext ht1 e)
      have hd1 : (tx.1 == ty.1) = true := by simp [ht1]
      have hd2 : (tx.2 == ty.2) = false := by simp [hne]
      clear he ht1 hne
      go_wp2
      go_quiet (fail)
      go_wp2
      refine Plan.wp_region_plan [0, 0, 1, 7, 15] [.mk [0, 1] 2 [1], .mk [] 3 []] [4] (by kernel_rfl) (by kernel_rfl) ?_
      simp only [Plan.wayOf, Plan.pickAll, List.getElem?_cons_zero, List.getElem?_cons_succ, List.getD_eq_getElem?_getD, Option.getD_some]
      refine Plan.wpWay_seg ?_
      repeat go_big_quiet_step (fail)
      refine wpQuiet_nil ?_; refine Plan.wpWay_act ?_
      go_wp2_with (fail)
      refine And.intro ?_ ?_; focus ((iterate 1 (refine Plan.again_cons ?_ ?_; focus (go_big_quiet_step (fail); exact wpQuiet_nil rfl))); exact Plan.again_nil)
      refine Plan.wpWay_seg ?_
      refine wpQuiet_nil ?_; refine Plan.wpWay_act ?_
      go_wp2_with (fail)
      refine And.intro Plan.again_nil ?_
      refine Plan.wpWay_last ?_
      repeat go_big_quiet_step (fail)
      refine wpQuiet_nil ?_; refine NoPanic.normal ?_
      go_wp2
      refine bodyPost_ret (v := .tuple #[.agg #[.int .i64 ty.1, .bool ty.2], .agg #[.int .i64 ty.1, .bool ty.2], .bool false]) ?_ rfl (HFIN.out _ ?_)
      ·simp [results, Tryz.results42, go_sem, m0, m1, m2, m3]
      ·exact ((((HFw.out.drewN _).set (p := ⟨w.heap.size, 0, none⟩) (.inr (Nat.le_refl _)) _).set (p := ⟨w.heap.size, 1, none⟩) (.inr (Nat.le_refl _)) _).set (p := ⟨w.heap.size + 1, 0, none⟩) (.inr (Nat.le_succ _)) _).set (p := ⟨w.heap.size + 1, 1, none⟩) (.inr (Nat.le_succ _)) _
     ·have hd1 : (tx.1 == ty.1) = false := by simp [ht1]
      clear he ht1
      go_wp2
      go_quiet (fail)
      go_wp2
      refine Plan.wp_region_plan [0, 0, 1, 7, 15] [.mk [0, 1] 2 [1], .mk [] 3 []] [4] (by kernel_rfl) (by kernel_rfl) ?_
      simp only [Plan.wayOf, Plan.pickAll, List.getElem?_cons_zero, List.getElem?_cons_succ, List.getD_eq_getElem?_getD, Option.getD_some]
      refine Plan.wpWay_seg ?_
      repeat go_big_quiet_step (fail)
      refine wpQuiet_nil ?_; refine Plan.wpWay_act ?_
      go_wp2_with (fail)
      refine And.intro ?_ ?_; focus ((iterate 1 (refine Plan.again_cons ?_ ?_; focus (go_big_quiet_step (fail); exact wpQuiet_nil rfl))); exact Plan.again_nil)
      refine Plan.wpWay_seg ?_
      refine wpQuiet_nil ?_; refine Plan.wpWay_act ?_
      go_wp2_with (fail)
      refine And.intro Plan.again_nil ?_
      refine Plan.wpWay_last ?_
      repeat go_big_quiet_step (fail)
      refine wpQuiet_nil ?_; refine NoPanic.normal ?_
      go_wp2
      refine bodyPost_ret (v := .tuple #[.agg #[.int .i64 ty.1, .bool ty.2], .agg #[.int .i64 ty.1, .bool ty.2], .bool false]) ?_ rfl (HFIN.out _ ?_)
      ·simp [results, Tryz.results42, go_sem, m0, m1, m2, m3]
      ·exact ((((HFw.out.drewN _).set (p := ⟨w.heap.size, 0, none⟩) (.inr (Nat.le_refl _)) _).set (p := ⟨w.heap.size, 1, none⟩) (.inr (Nat.le_refl _)) _).set (p := ⟨w.heap.size + 1, 0, none⟩) (.inr (Nat.le_succ _)) _).set (p := ⟨w.heap.size + 1, 1, none⟩) (.inr (Nat.le_succ _)) _
   ·have hke : k = [a, b].length := by omega
    subst hke
    rw [List.take_length] at HAL
    clear hlt hk
    simp only [List.length_cons, List.length_nil, Nat.zero_add, Nat.reduceAdd]
    have hmk : ∀ W : World, (Instr.makeSlice 29 (.int .i64 2) (.int .i64 2)).run Tryz.prog W = .ok (.slice (some ⟨W.heap.size, 0, none⟩) 2 2) (W.alloc (.cells #[.int .u64 0, .int .u64 0] 24)) := fun _ => by kernel_rfl
    go_wp2
    refine Plan.wp_region_plan [0, 0, 0, 4, 12, 31, 63, 127, 127, 255, 1023] [.mk [0, 1, 2, 3] 4 [0, 1], .mk [] 5 []] [6, 7, 8, 9, 10] (by kernel_rfl) (by kernel_rfl) ?_
    simp only [Plan.wayOf, Plan.pickAll, List.getElem?_cons_zero, List.getElem?_cons_succ, List.getD_eq_getElem?_getD, Option.getD_some]
    refine Plan.wpWay_seg ?_
    repeat go_big_quiet_step (fail)
    refine wpQuiet_nil ?_; refine Plan.wpWay_act ?_
    go_wp2_with (fail)
    refine And.intro ?_ ?_; focus ((iterate 2 (refine Plan.again_cons ?_ ?_; focus (go_big_quiet_step (fail); exact wpQuiet_nil rfl))); exact Plan.again_nil)
    refine Plan.wpWay_seg ?_
    refine wpQuiet_nil ?_; refine Plan.wpWay_act ?_
    go_wp2_with fail
    refine (HAP.out _ _ (HFw.out.alloc _).drew (sees_of_blk (blk_new _) rfl rfl (by decide))).mono ?_
    rintro e w4 ⟨rfl, hf4⟩
    have HF4 := Lib.hid (frm_then ((HFr.out.alloc _).drew) hf4)
    obtain ⟨i0, i1⟩ := (HT1.out.frm0 HF4.out).cells
    clear hf4
    go_wp2_with fail
    refine And.intro Plan.again_nil ?_
    refine Plan.wpWay_last ?_
    repeat go_big_quiet_step (fail)
    refine wpQuiet_nil ?_; refine NoPanic.normal ?_
    have HFw4 := Lib.hid (frm_then HF1.out HF4.out)
    have hfin : ∀ W, Frm (fun _ => False) w W → TyPost w (allTy s ty [a, b] && ((applyF op ty [0, 0]).2 == 0)) ty (resultF op ty) (.returned (.tuple #[.agg #[.int .i64 ty.1, .bool ty.2], .agg #[.int .i64 (resultF op ty).1, .bool (resultF op ty).2], .bool ((applyF op ty [0, 0]).2 == 0)])) W := fun W hW => ⟨ty, resultF op ty, by rw [HAL.out]; rfl, fun _ => ⟨rfl, rfl⟩, hW⟩
    have HFIN := Lib.hid hfin
    clear hfin
    have HRS := Lib.hid (fun w' (hf : Frm (fun _ => False) w w') => result_calls w' (HE.out.frm0 hf) op ty)
    generalize resultF op ty = rt at *
    go_wp2
    refine Plan.wp_region_plan [0, 0, 0, 6, 0, 16, 15, 79, 255] [.mk [0, 1, 2, 4, 5] 3 [0, 4, 5], .mk [] 6 [4, 5], .mk [] 7 [4, 5]] [8] (by kernel_rfl) (by kernel_rfl) ?_
    simp only [Plan.wayOf, Plan.pickAll, List.getElem?_cons_zero, List.getElem?_cons_succ, List.getD_eq_getElem?_getD, Option.getD_some]
    refine Plan.wpWay_seg ?_
    repeat go_big_quiet_step (fail)
    refine wpQuiet_nil ?_; refine Plan.wpWay_act ?_
    go_wp2_with fail
    refine (HRS.out _ HFw4.out.drew).mono ?_
    rintro e w5 ⟨rfl, hf5⟩
    have HF5 := Lib.hid (frm_then HF4.out.drew hf5)
    obtain ⟨j0, j1⟩ := (HT1.out.frm0 HF5.out).cells
    obtain ⟨m4, m5⟩ := (HA1.out.frm0 HF5.out).cells
    obtain ⟨m6, m7⟩ := (HB1.out.frm0 HF5.out).cells
    have fy0 := blk_free (HA1.out.frm0 HF5.out) 0
    have fy1 := blk_free (HA1.out.frm0 HF5.out) 1
    have fy2 := blk_free (HB1.out.frm0 HF5.out) 0
    have fy3 := blk_free (HB1.out.frm0 HF5.out) 1
    clear hf5
    go_wp2_with fail
    refine And.intro ?_ ?_; focus ((iterate 3 (refine Plan.again_cons ?_ ?_; focus (go_big_quiet_step (fail); exact wpQuiet_nil rfl))); exact Plan.again_nil)
    refine Plan.wpWay_seg ?_
    refine wpQuiet_nil ?_; refine Plan.wpWay_act ?_
    go_wp2_with (fail)
    refine And.intro ?_ ?_; focus ((iterate 2 (refine Plan.again_cons ?_ ?_; focus (go_big_quiet_step (fail); exact wpQuiet_nil rfl))); exact Plan.again_nil)
    refine Plan.wpWay_seg ?_
    refine wpQuiet_nil ?_; refine Plan.wpWay_act ?_
    go_wp2_with (fail)
    refine And.intro ?_ ?_; focus ((iterate 2 (refine Plan.again_cons ?_ ?_; focus (go_big_quiet_step (fail); exact wpQuiet_nil rfl))); exact Plan.again_nil)
    refine Plan.wpWay_last ?_
    repeat go_big_quiet_step (fail)
    refine wpQuiet_nil ?_; refine NoPanic.normal ?_
    have HFw5 := Lib.hid (frm_then HF1.out HF5.out)
    go_wp2
    refine bodyPost_ret (v := .tuple #[.agg #[.int .i64 ty.1, .bool ty.2], .agg #[.int .i64 rt.1, .bool rt.2], .bool ((applyF op ty [0, 0]).2 == 0)]) ?_ rfl (HFIN.out _ ?_)
    ·simp [results, Tryz.results42, go_sem, m4, m5, m6, m7]
    ·exact ((((HFw5.out).set (p := ⟨w.heap.size, 0, none⟩) (.inr (Nat.le_refl _)) _).set (p := ⟨w.heap.size, 1, none⟩) (.inr (Nat.le_refl _)) _).set (p := ⟨w.heap.size + 1, 0, none⟩) (.inr (Nat.le_succ _)) _).set (p := ⟨w.heap.size + 1, 1, none⟩) (.inr (Nat.le_succ _)) _
end TmW
end Go.Proofs.YtbbajekecppioaaGreatDoor
