/- The document's word, walked: shift. -/
import Derived.Test.YtbbajekecppioaaGreatDoorGa19
set_option linter.unusedSimpArgs false
set_option linter.unusedVariables false
namespace Go.Proofs.YtbbajekecppioaaGreatDoor
open Go.RowKit Go.Mem Go.Wd
namespace RfW
open TmW (frm_alloc frm_then Box wrap_nat64 frm_cellD frm_cell negE)
theorem sees_take {α : Type} {w : World} {enc : α → Value} {A : Option Addr} {n c : Nat} {xs : List α} (h : Sees w enc (.slice A n c) xs) (k : Nat) (hk : k ≤ n) (h0 : n ≠ 0) : Sees w enc (.slice A k c) (xs.take k) := by
 rcases h with ⟨e, _⟩ | ⟨g, o, c', e, h1, h2, h3⟩
 ·cases e; exact absurd rfl h0
 ·cases e
  refine .inr ⟨g, o, c, by rw [List.length_take, Nat.min_eq_left hk], by rw [List.length_take]; omega, h2, fun i x hx => ?_⟩
  rw [List.getElem?_take] at hx
  split at hx
  ·exact h3 i x hx
  ·cases hx
theorem sees_tail {α : Type} {w : World} {enc : α → Value} {g o n c : Nat} {xs : List α} (h : Sees w enc (.slice (some ⟨g, o, none⟩) (n + 1) c) xs) : Sees w enc (.slice (some ⟨g, o + 1, none⟩) n (c - 1)) (xs.drop 1) := by
 rcases h with ⟨e, _⟩ | ⟨g', o', c', e, h1, h2, h3⟩
 ·cases e
 ·simp only [Value.slice.injEq, Option.some.injEq, Addr.mk.injEq, and_true] at e
  obtain ⟨⟨rfl, rfl⟩, e2, rfl⟩ := e
  refine .inr ⟨g, o + 1, c - 1, by rw [List.length_drop, ← e2]; rfl, by rw [List.length_drop]; omega, by omega, fun i x hx => ?_⟩
  rw [List.getElem?_drop] at hx
  have := h3 (1 + i) x hx
  rw [show o + 1 + i = o + (1 + i) by omega]
  exact this
theorem sees_tail1 {α : Type} {w : World} {enc : α → Value} {g o n c : Nat} {xs : List α} (h : Sees w enc (.slice (some ⟨g, o, none⟩) n c) xs) (h1 : 1 ≤ n) : Sees w enc (.slice (some ⟨g, o + 1, none⟩) (n - 1) (c - 1)) (xs.drop 1) := by
 obtain ⟨m, rfl⟩ : ∃ m, n = m + 1 := ⟨n - 1, by omega⟩
 exact sees_tail h
theorem it_len {f : List Bool → List Bool} {n : Nat} (hf : ∀ l, l.length = n → (f l).length = n) : ∀ (k : Nat) (l : List Bool), l.length = n → (itF f k l).length = n
 | 0, _, h => h
 | k + 1, l, h => hf _ (it_len hf k l h)
set_option maxRecDepth 100000 in
set_option maxHeartbeats 4000000 in
theorem shift_calls {t : Ty} (h : rightF t = true) (h1w : 1 < t.1) (w : World) (a b : Nat) (left : Bool) (ha : a < 2 ^ 64) (hb : b < 2 ^ 64) :
  Calls Tryz.prog 52 #[.agg #[.int .i64 t.1, .bool t.2], .int .u64 a, .int .u64 b, .bool left] w fun e w' => e = .returned (.int .u64 (shiftR t a b left : Nat)) ∧ Frm (fun _ => False) w w' := by
 obtain ⟨x, sg⟩ := t
 obtain ⟨n, rfl⟩ : ∃ n : Nat, x = n := ⟨_, wid_int h⟩
 have hF := Lib.hid (frm_alloc w (.cells #[.int .i64 n, .bool sg] 23))
 have HB := Lib.hid (TmW.Box.new w ((n : Int), sg))
 have ⟨b0, b1⟩ := (TmW.Box.new w ((n : Int), sg)).cells
 simp only at b0 b1
 have HR := Lib.hid h
 have hl := wid_le h
 have hw := show wid ((n : Int), sg) = n by unfold wid; simp
 have hwn := Lib.hid hw
 rw [hw] at hl
 obtain ⟨h1, h64⟩ := hl
 have h2n : 2 ≤ n := by simp only at h1w; omega
 have hb' := Lib.hid (Bits_calls (v := a) (n := n) · h64 ha)
 have hNeg := Lib.hid (fun w1 => Neg_calls h w1 a ha)
 obtain ⟨i0, hi, hz0, hz1, hz2⟩ := info_parts info_bool
 clear h h1w hw h1
 cases left with
 | true =>
  have hs := Lib.hid (show shiftR ((n : Int), sg) a b true = valF (itF (shlB n) (min b 64) (bitsF a n)) by unfold shiftR; rw [hwn.out]; rfl)
  have hil := Lib.hid (fun k => it_len (f := shlB n) (fun l hl => shl_len (by omega) hl) k (bitsF a n) (bits_len a n))
  go_enter Tryz.func52, Tryz.ntmps52
  go_wp2_with (first | (go_at_call 49; refine (hb'.out _).mono ?_; rintro e w2 ⟨r, rfl, hrow, hf2, _⟩; have HF2 := Lib.hid (frm_then hF.out hf2); have HB2 := Lib.hid (TmW.Box.frm0 HB.out hf2); have HRow := Lib.hid hrow; clear hf2 hrow))
  go_loopw [9, 10] (fun v9 v10 w' => ∃ k : Nat, k ≤ min b 64 ∧ v10 = .int .u64 k ∧ Hid (Sees w' Value.bool v9 (itF (shlB n) k (bitsF a n))) ∧ Hid (Frm (fun _ => False) w w') ∧ Hid (Box w' w.heap.size ((n : Int), sg))) (fun _ v10 _ => 64 - (intOf v10).toNat)
  case atStart => exact ⟨0, Nat.zero_le _, rfl, Lib.hid HRow.out.sees, HF2, HB2⟩
  case round =>
   obtain ⟨k, hk, rfl, HS, HF3, HB3⟩ := hrel
   have ⟨c0, c1⟩ := HB3.out.cells
   simp only at c0 c1
   have hkl := hil.out k
   obtain ⟨A, c, hv9, hcell⟩ := sees_slice HS.out
   rw [hkl] at hv9
   obtain ⟨g, o, rfl, _⟩ := hcell 0 _ (List.getElem?_eq_getElem (by omega))
   subst hv9
   clear hcell
   by_cases hlt : k < b ∧ k < 64
   ·obtain ⟨hlb, hl64⟩ := hlt
    have hS1 : Sees wr Value.bool (.slice (some ⟨g, o, none⟩) n c) (itF (shlB n) k (bitsF a n)) := HS.out
    have hcap : n ≤ c := by
     rcases hS1 with ⟨e, _⟩ | ⟨_, _, _, e, q, _⟩
     ·injection e with _ e; omega
     ·injection e with _ _ e; rw [hkl] at q; omega
    have d0 := frm_cell (frm_alloc wr (.cells #[.bool false] 4)) c0
    have hn1 : (n : Int) - 1 = ((n - 1 : Nat) : Int) := by omega
    have HS1 := Lib.hid (sees_take (k := n - 1) (hS1.frm (frm_alloc wr (.cells #[.bool false] 4)) fun _ _ _ => id) (by omega) (by omega))
    have hrow0 : BRow (wr.alloc (.cells #[.bool false] 4)) (.slice (some ⟨wr.heap.size, 0, none⟩) 1 1) [false] := ⟨rfl, .inr ⟨wr.heap.size, 1, _, rfl, Nat.zero_le _, blk_new _, by simp; decide⟩⟩
    have HRow0 := Lib.hid hrow0
    clear hS1 hrow0
    go_wp2_with (first | (at_builtin; refine wpList_append_sees rfl _ _ 95 rfl 4 i0 (.bool false) 1 Tryz.underlying95 hi hz0 hz1 hz2 rfl (enc := Value.bool) (fun _ => rfl) _ [false] ((itF (shlB n) k (bitsF a n)).take (n - 1)) rfl HRow0.out _ rfl HS1.out ?c1 ?c2 ?_) | go_in)
    case c1 => rw [List.length_take]; have : maxLen = 9223372036854775807 := rfl; simp; omega
    case c2 => rw [List.length_take]; simp; omega
    intro v' w7 hrow hfr hg
    have hbl : w.heap.size < wr.heap.size := (Array.getElem?_eq_some_iff.1 (show wr.heap[w.heap.size]? = some _ from HB3.out)).1
    have HSn := Lib.hid (show Sees w7 Value.bool v' (itF (shlB n) (k + 1) (bitsF a n)) from hrow.sees)
    have HFn := Lib.hid ((frm_then HF3.out (frm_alloc wr _)).trans hfr fun x hx h => by have e := Option.some.inj (show some wr.heap.size = some x from h); omega)
    have HBn := Lib.hid (TmW.Box.frm (TmW.Box.frm0 HB3.out (frm_alloc wr _)) hfr fun h => by have e := Option.some.inj (show some wr.heap.size = some w.heap.size from h); omega)
    clear hrow hfr hg hbl
    go_wp2
    go_roundw
    case rel => exact ⟨k + 1, by omega, by go_num, HSn, HFn, HBn⟩
    case measure => simp [intOf]; omega
   ·have hke : min b 64 = k := by omega
    have hke' := Lib.hid hke
    have hnot : ¬ ((k : Int) < b ∧ (k : Int) < 64) := by omega
    have HS' := Lib.hid HS.out
    have HVal := Lib.hid (Value_calls wr _ _ HS.out (by rw [hkl]; exact h64))
    go_wp2_with (go_at_call 67; refine HVal.out.mono ?_; rintro e w3 ⟨rfl, hf3⟩; have HF4 := Lib.hid (frm_then HF3.out hf3); clear hf3)
    all_goals go_ret
    all_goals exact ⟨by rw [hs.out, hke'.out]; rfl, HF4.out⟩
 | false =>
  have hs := Lib.hid (show shiftR ((n : Int), sg) a b false = valF (itF (shrB (negR ((n : Int), sg) a)) (min b 64) (bitsF a n)) by unfold shiftR; rw [hwn.out]; rfl)
  have hil := Lib.hid (fun k => it_len (f := shrB (negR ((n : Int), sg) a)) (fun l hl => shr_len (by omega) hl) k (bitsF a n) (bits_len a n))
  go_enter Tryz.func52, Tryz.ntmps52
  go_wp2_with (first | (go_at_call 49; refine (hb'.out _).mono ?_; rintro e w2 ⟨r, rfl, hrow, hf2, _⟩; have HF2 := Lib.hid (frm_then hF.out hf2); have HB2 := Lib.hid (TmW.Box.frm0 HB.out hf2); have HRow := Lib.hid hrow; clear hf2 hrow))
  go_loopw [9, 10] (fun v9 v10 w' => ∃ k : Nat, k ≤ min b 64 ∧ v10 = .int .u64 k ∧ Hid (Sees w' Value.bool v9 (itF (shrB (negR ((n : Int), sg) a)) k (bitsF a n))) ∧ Hid (Frm (fun _ => False) w w') ∧ Hid (Box w' w.heap.size ((n : Int), sg))) (fun _ v10 _ => 64 - (intOf v10).toNat)
  case atStart => exact ⟨0, Nat.zero_le _, rfl, Lib.hid HRow.out.sees, HF2, HB2⟩
  case round =>
   obtain ⟨k, hk, rfl, HS, HF3, HB3⟩ := hrel
   have ⟨c0, c1⟩ := HB3.out.cells
   simp only at c0 c1
   have hkl := hil.out k
   obtain ⟨A, c, hv9, hcell⟩ := sees_slice HS.out
   rw [hkl] at hv9
   obtain ⟨g, o, rfl, _⟩ := hcell 0 _ (List.getElem?_eq_getElem (by omega))
   subst hv9
   clear hcell
   by_cases hlt : k < b ∧ k < 64
   ·obtain ⟨hlb, hl64⟩ := hlt
    have hS1 : Sees wr Value.bool (.slice (some ⟨g, o, none⟩) n c) (itF (shrB (negR ((n : Int), sg) a)) k (bitsF a n)) := HS.out
    have hcap : n ≤ c := by
     rcases hS1 with ⟨e, _⟩ | ⟨_, _, _, e, q, _⟩
     ·injection e with _ e; omega
     ·injection e with _ _ e; rw [hkl] at q; omega
    have hd1 : (List.drop 1 (itF (shrB (negR ((n : Int), sg) a)) k (bitsF a n))).length = n - 1 := by rw [List.length_drop, hkl]
    have d0 : (wr.drew.alloc (.cells #[] 4)).cell? ⟨w.heap.size, 0, none⟩ = _ := frm_cell (w := wr.drew) (frm_alloc _ _) c0
    have d1 : (wr.drew.alloc (.cells #[] 4)).cell? ⟨w.heap.size, 1, none⟩ = _ := frm_cell (w := wr.drew) (frm_alloc _ _) c1
    have d0' : (wr.alloc (.cells #[] 4)).cell? ⟨w.heap.size, 0, none⟩ = _ := frm_cell (frm_alloc wr _) c0
    have d1' : (wr.alloc (.cells #[] 4)).cell? ⟨w.heap.size, 1, none⟩ = _ := frm_cell (frm_alloc wr _) c1
    have HS1 := Lib.hid (sees_tail1 (hS1.frm ((Frm.refl (fun _ => False) wr).drew.alloc (.cells #[] 4)) fun _ _ _ => id) (by omega))
    have HRow0 := Lib.hid (show BRow (wr.drew.alloc (.cells #[] 4)) (.slice (some ⟨wr.heap.size, 0, none⟩) 0 0) [] from ⟨rfl, .inr ⟨wr.heap.size, 0, _, rfl, Nat.zero_le _, blk_new (w := wr.drew) _, by simp⟩⟩)
    have hbl : w.heap.size < wr.heap.size := (Array.getElem?_eq_some_iff.1 (show wr.heap[w.heap.size]? = some _ from HB3.out)).1
    have Hbl := Lib.hid hbl
    clear hS1 hbl
    go_wp2_with fail
    refine Plan.wp_region_plan [0, 0, 2, 7, 0, 0, 63, 127, 255, 511] [.mk [1, 2, 4, 5] 0 [1, 2, 4, 5], .mk [] 3 [4, 5], .mk [] 6 [], .mk [] 7 [], .mk [] 8 []] [9] (by kernel_rfl) (by kernel_rfl) ?_
    simp only [Plan.wayOf, Plan.pickAll, List.getElem?_cons_zero, List.getElem?_cons_succ, List.getD_eq_getElem?_getD, Option.getD_some]
    refine Plan.wpWay_seg ?_
    repeat go_big_quiet_step (fail)
    refine wpQuiet_nil ?_; refine Plan.wpWay_act ?_
    go_wp2_with fail
    refine And.intro ?_ ?_; focus ((iterate 4 (refine Plan.again_cons ?_ ?_; focus (go_big_quiet_step (fail); exact wpQuiet_nil rfl))); exact Plan.again_nil)
    refine Plan.wpWay_seg ?_
    refine wpQuiet_nil ?_; refine Plan.wpWay_act ?_
    go_wp2_with (first | (at_builtin; refine wpList_append_sees rfl _ _ 95 rfl 4 i0 (.bool false) 1 Tryz.underlying95 hi hz0 hz1 hz2 rfl (enc := Value.bool) (fun _ => rfl) _ [] ((itF (shrB (negR ((n : Int), sg) a)) k (bitsF a n)).drop 1) rfl HRow0.out _ rfl HS1.out (by rw [hd1]; show 0 + (n - 1) ≤ maxLen; have : maxLen = 9223372036854775807 := rfl; omega) (by rw [hd1]; show (0 + (n - 1)) * 1 ≤ _; omega) ?_) | go_in)
    intro v7 w7 hrow hfr hg
    have ho7 : ∀ g, v7.ownBlock = some g → wr.heap.size ≤ g := fun g h => (hg g h).elim (fun e => Nat.le_of_eq (Option.some.inj (show some wr.heap.size = some g from e))) (fun e => by omega)
    have HF7 := Lib.hid (((frm_then HF3.out (frm_alloc wr _)).drew).trans hfr fun x hx h => by have e := Option.some.inj (show some wr.heap.size = some x from h); have := Hbl.out; omega)
    have HB7 := Lib.hid (TmW.Box.frm (TmW.Box.frm0 HB3.out ((frm_alloc wr (.cells #[] 4)).drew)) hfr fun h => by have e := Option.some.inj (show some wr.heap.size = some w.heap.size from h); have := Hbl.out; omega)
    obtain ⟨xs, hxs⟩ : ∃ xs, xs = (itF (shrB (negR ((n : Int), sg) a)) k (bitsF a n)).drop 1 := ⟨_, rfl⟩
    have hxl := Lib.hid (show xs.length = n - 1 by rw [hxs]; exact hd1)
    have HX := Lib.hid hxs
    have HRow7 := Lib.hid (show BRow w7 v7 xs by rw [hxs, List.drop_one]; exact hrow)
    clear hxs
    have c0_7 := HB7.out.cells.1
    have c1_7 := HB7.out.cells.2
    have HO7 := Lib.hid ho7
    simp only at c0_7 c1_7
    clear hrow hfr hg ho7
    go_wp2_with fail
    refine And.intro ?_ ?_; focus ((iterate 2 (refine Plan.again_cons ?_ ?_; focus (go_big_quiet_step (fail); exact wpQuiet_nil rfl))); exact Plan.again_nil)
    refine Plan.wpWay_seg ?_
    refine wpQuiet_nil ?_; refine Plan.wpWay_act ?_
    go_wp2_with fail
    refine (hNeg.out _).mono ?_
    rintro e x8 ⟨rfl, hf⟩
    have c0_8 := frm_cell hf c0_7
    have c1_8 := frm_cell hf c1_7
    have HF8 := Lib.hid (frm_then HF7.out hf)
    have HB8 := Lib.hid (TmW.Box.frm0 HB7.out hf)
    have HRow8 := Lib.hid (HRow7.out.frm0 hf)
    have c0_9 := frm_cell (frm_alloc x8 (.cells #[.bool (negR ((n : Int), sg) a)] 4)) c0_8
    have c1_9 := frm_cell (frm_alloc x8 (.cells #[.bool (negR ((n : Int), sg) a)] 4)) c1_8
    clear hf
    go_wp2_with fail
    refine And.intro Plan.again_nil ?_
    refine Plan.wpWay_seg ?_
    refine wpQuiet_nil ?_; refine Plan.wpWay_act ?_
    go_wp2_with fail
    refine And.intro Plan.again_nil ?_
    refine Plan.wpWay_seg ?_
    refine wpQuiet_nil ?_; refine Plan.wpWay_act ?_
    go_wp2_with (first | (at_builtin; refine wpList_append_row rfl _ _ 95 rfl 4 i0 (.bool false) 1 Tryz.underlying95 hi hz0 hz1 hz2 rfl (enc := Value.bool) v7 xs rfl (HRow8.out.frm0 (frm_alloc _ _)) ⟨x8.heap.size, 0, none⟩ 1 (negR ((n : Int), sg) a) rfl (blk_cell (blk_new _) 0) rfl (by rw [hxl.out]; have : maxLen = 9223372036854775807 := rfl; omega) (by rw [hxl.out]; omega) ?_) | go_in)
    intro g5 cap5 w9 hrow9 hfr9 hg9 hlt9
    have HF9 := Lib.hid ((frm_then HF8.out (frm_alloc x8 _)).trans hfr9 fun x hx h => by have e := HO7.out x h; have := Hbl.out; omega)
    have HB9 := Lib.hid (TmW.Box.frm (TmW.Box.frm0 HB8.out (frm_alloc x8 _)) hfr9 fun h => by have e := HO7.out _ h; have := Hbl.out; omega)
    have HS9 := Lib.hid hrow9.sees
    clear hrow9 hfr9 hg9 hlt9
    go_wp2_with fail
    refine And.intro Plan.again_nil ?_
    refine Plan.wpWay_last ?_
    repeat go_big_quiet_step (fail)
    refine wpQuiet_nil ?_; refine NoPanic.normal ?_
    have HSn := Lib.hid (show Sees w9 Value.bool (.slice (some ⟨g5, 0, none⟩) (xs.length + 1) cap5) (itF (shrB (negR ((n : Int), sg) a)) (k + 1) (bitsF a n)) by
     show Sees w9 Value.bool _ ((itF (shrB (negR ((n : Int), sg) a)) k (bitsF a n)).drop 1 ++ [negR ((n : Int), sg) a])
     rw [← HX.out]
     exact HS9.out)
    go_wp2
    go_roundw
    case rel => exact ⟨k + 1, by omega, by go_num, HSn, HF9, HB9⟩
    case measure => simp [intOf]; omega
   ·have hke : min b 64 = k := by omega
    have hke' := Lib.hid hke
    have hnot : ¬ ((k : Int) < b ∧ (k : Int) < 64) := by omega
    have HS' := Lib.hid HS.out
    have HVal := Lib.hid (Value_calls wr _ _ HS.out (by rw [hkl]; exact h64))
    go_wp2_with (go_at_call 67; refine HVal.out.mono ?_; rintro e w3 ⟨rfl, hf3⟩; have HF4 := Lib.hid (frm_then HF3.out hf3); clear hf3)
    all_goals go_ret
    all_goals exact ⟨by rw [hs.out, hke'.out]; rfl, HF4.out⟩
end RfW
end Go.Proofs.YtbbajekecppioaaGreatDoor
/- The document's word, walked: each. -/
namespace Go.Proofs.YtbbajekecppioaaGreatDoor
open Go.RowKit Go.Mem Go.Wd
namespace RfW
open TmW (frm_alloc frm_then Box wrap_nat64 frm_cellD frm_cell negE)
/-- Bit by bit, up to the k-th. -/
def mix (n : Nat) (f : Bool → Bool → Bool) (a b k : Nat) : List Bool := (List.range n).map fun i => if i < k then f (a.testBit i) (b.testBit i) else a.testBit i
theorem mix_len (n f a b k) : (mix n f a b k).length = n := by simp [mix]
theorem mix_zero (n f a b) : mix n f a b 0 = bitsF a n := by simp [mix, bitsF]
theorem mix_all (n f a b) : mix n f a b n = eachF n f a b := by
 unfold mix eachF
 exact List.map_congr_left fun i hi => if_pos (List.mem_range.1 hi)
theorem mix_get {n : Nat} (f : Bool → Bool → Bool) (a b : Nat) {k : Nat} (h : k < n) : (mix n f a b k)[k]? = some (a.testBit k) := by simp [mix, h]
theorem mix_set (n : Nat) (f : Bool → Bool → Bool) (a b k : Nat) : (mix n f a b k).set k (f (a.testBit k) (b.testBit k)) = mix n f a b (k + 1) := by
 apply List.ext_getElem?
 intro i
 rw [List.getElem?_set]
 unfold mix
 by_cases hi : i < n
 ·simp only [List.getElem?_map, List.getElem?_range hi, List.length_map, List.length_range, Option.map_some]
  by_cases hk : k = i
  ·subst hk; simp [hi]
  ·rw [if_neg hk]
   congr 1
   by_cases h1 : i < k
   ·rw [if_pos h1, if_pos (by omega)]
   ·rw [if_neg h1, if_neg (by omega)]
 ·have e1 : (List.range n)[i]? = none := by simp; omega
  simp only [List.getElem?_map, e1, Option.map_none, List.length_map, List.length_range]
  split
  ·rw [if_neg (by omega)]
  ·rfl
theorem brow_cell {w : World} {g n c i : Nat} {xs : List Bool} {x : Bool} (h : BRow w (.slice (some ⟨g, 0, none⟩) n c) xs) (hx : xs[i]? = some x) : w.cell? ⟨g, i, none⟩ = some (.bool x) ∧ w.frozen? ⟨g, i, none⟩ = false := by
 rcases h.shape with ⟨h1, _⟩ | ⟨g', cap, h1, _, _, _, hc, hz⟩
 ·cases h1
 ·simp only [Value.slice.injEq, Option.some.injEq, Addr.mk.injEq] at h1
  obtain ⟨⟨rfl, _⟩, _, _⟩ := h1
  have hi : i < xs.length := (List.getElem?_eq_some_iff.1 hx).1
  exact ⟨by simpa using hc i x hx, by simpa using hz i⟩
theorem each_set {w wr : World} {g1 g2 n k1 k2 k : Nat} {f : Bool → Bool → Bool} {a b : Nat} {t : Ty} (hk : k < n) (hX : BRow wr (.slice (some ⟨g1, 0, none⟩) n k1) (mix n f a b k)) (hY : BRow wr (.slice (some ⟨g2, 0, none⟩) n k2) (bitsF b n)) (hF : Frm (fun _ => False) w wr) (hB : Box wr w.heap.size t) (h12 : g1 ≠ g2) (h1 : w.heap.size < g1) :
  BRow (wr.setCell ⟨g1, k, none⟩ (.bool (f (a.testBit k) (b.testBit k)))) (.slice (some ⟨g1, 0, none⟩) n k1) (mix n f a b (k + 1)) ∧ BRow (wr.setCell ⟨g1, k, none⟩ (.bool (f (a.testBit k) (b.testBit k)))) (.slice (some ⟨g2, 0, none⟩) n k2) (bitsF b n) ∧ Frm (fun _ => False) w (wr.setCell ⟨g1, k, none⟩ (.bool (f (a.testBit k) (b.testBit k)))) ∧ Box (wr.setCell ⟨g1, k, none⟩ (.bool (f (a.testBit k) (b.testBit k)))) w.heap.size t := by
 have hS : Frm (fun x => x = g1) wr (wr.setCell ⟨g1, k, none⟩ (.bool (f (a.testBit k) (b.testBit k)))) := (Frm.refl (fun x => x = g1) wr).set (p := ⟨g1, k, none⟩) (.inl rfl) _
 refine ⟨?_, hY.frm hS fun g hg => ?_, hF.trans hS fun x hx h => by omega, TmW.Box.frm hB hS (by omega)⟩
 ·rw [← mix_set]
  exact row_set hX k (by rw [mix_len]; exact hk) _
 ·have e : g2 = g := Option.some.inj (show some g2 = some g from hg)
  omega
set_option maxRecDepth 100000 in
set_option maxHeartbeats 4000000 in
theorem each_and {t : Ty} (h : rightF t = true) (w : World) (a b : Nat) (ha : a < 2 ^ 64) (hb : b < 2 ^ 64) :
  Calls Tryz.prog 50 #[.agg #[.int .i64 t.1, .bool t.2], .string sAnd, .int .u64 a, .int .u64 b] w fun e w' => e = .returned (.int .u64 (valF (eachF (wid t) and a b) : Nat)) ∧ Frm (fun _ => False) w w' := by
 obtain ⟨x, sg⟩ := t
 obtain ⟨n, rfl⟩ : ∃ n : Nat, x = n := ⟨_, wid_int h⟩
 have hF := Lib.hid (frm_alloc w (.cells #[.int .i64 n, .bool sg] 23))
 have HB := Lib.hid (TmW.Box.new w ((n : Int), sg))
 have ⟨b0, b1⟩ := (TmW.Box.new w ((n : Int), sg)).cells
 simp only at b0 b1
 have hl := wid_le h
 have hw := show wid ((n : Int), sg) = n by unfold wid; simp
 rw [hw] at hl ⊢
 obtain ⟨h1, h64⟩ := hl
 have hA := Lib.hid (Bits_calls (v := a) (n := n) · h64 ha)
 have hB := Lib.hid (Bits_calls (v := b) (n := n) · h64 hb)
 clear h hw
 go_enter Tryz.func50, Tryz.ntmps50
 go_wp2_with fail
 refine Plan.wp_region_plan [0, 0, 2, 7, 0, 0, 32, 127, 255, 511] [.mk [0, 1, 2, 4, 5, 6] 3 [4, 5, 6], .mk [] 7 []] [8, 9] (by kernel_rfl) (by kernel_rfl) ?_
 simp only [Plan.wayOf, Plan.pickAll, List.getElem?_cons_zero, List.getElem?_cons_succ, List.getD_eq_getElem?_getD, Option.getD_some]
 refine Plan.wpWay_seg ?_
 repeat go_big_quiet_step (fail)
 refine wpQuiet_nil ?_; refine Plan.wpWay_act ?_
 go_wp2_with fail
 refine (hA.out _).mono ?_
 rintro e w2 ⟨r, rfl, hrow, hf, ho⟩
 have c0_1 := frm_cellD hf b0
 have c1_1 := frm_cellD hf b1
 have HF1 := Lib.hid (frm_then hF.out.drew hf)
 have HB1 := Lib.hid (TmW.Box.frm0 (w := (w.alloc (.cells #[.int .i64 n, .bool sg] 23)).drew) HB.out hf)
 have HRA := Lib.hid hrow
 have HOA := Lib.hid ho
 clear hf hrow ho
 go_wp2_with fail
 refine And.intro ?_ ?_; focus ((iterate 3 (refine Plan.again_cons ?_ ?_; focus (go_big_quiet_step (fail); exact wpQuiet_nil rfl))); exact Plan.again_nil)
 refine Plan.wpWay_seg ?_
 refine wpQuiet_nil ?_; refine Plan.wpWay_act ?_
 go_wp2_with fail
 refine (hB.out _).mono ?_
 rintro e w3 ⟨r2, rfl, hrow, hf, ho⟩
 have c0_2 := frm_cell hf c0_1
 have c1_2 := frm_cell hf c1_1
 have HF2 := Lib.hid (frm_then HF1.out hf)
 have HB2 := Lib.hid (TmW.Box.frm0 HB1.out hf)
 have HRA2 := Lib.hid (HRA.out.frm0 hf)
 have HRB := Lib.hid hrow
 have HOB := Lib.hid ho
 clear hf hrow ho
 go_wp2_with fail
 refine And.intro Plan.again_nil ?_
 refine Plan.wpWay_last ?_
 repeat go_big_quiet_step (fail)
 refine wpQuiet_nil ?_; refine NoPanic.normal ?_
 obtain ⟨g1, k1, rfl, q1⟩ : ∃ g c, r = .slice (some ⟨g, 0, none⟩) n c ∧ r.ownBlock = some g := by
  rcases HRA.out.shape with ⟨_, h⟩ | ⟨g, c, h, h', _⟩
  ·have := congrArg List.length h; rw [bits_len] at this; simp at this; omega
  ·rw [bits_len] at h; exact ⟨g, c, h, h'⟩
 obtain ⟨g2, k2, rfl, q2⟩ : ∃ g c, r2 = .slice (some ⟨g, 0, none⟩) n c ∧ r2.ownBlock = some g := by
  rcases HRB.out.shape with ⟨_, h⟩ | ⟨g, c, h, h', _⟩
  ·have := congrArg List.length h; rw [bits_len] at this; simp at this; omega
  ·rw [bits_len] at h; exact ⟨g, c, h, h'⟩
 have hg12 : Hid (g1 ≠ g2) := Lib.hid (by have e1 := HRA.out.lt g1 q1; have e2 := HOB.out g2 q2; omega)
 have hg1 : Hid (w.heap.size < g1) := Lib.hid (by have e1 := HOA.out g1 q1; simp at e1; omega)
 clear q1 q2
 go_wp2_with fail
 go_loopw [11] (fun v11 w' => ∃ k : Nat, k ≤ n ∧ v11 = .int .i64 k ∧ Hid (BRow w' (.slice (some ⟨g1, 0, none⟩) n k1) (mix n and a b k)) ∧ Hid (BRow w' (.slice (some ⟨g2, 0, none⟩) n k2) (bitsF b n)) ∧ Hid (Frm (fun _ => False) w w') ∧ Hid (Box w' w.heap.size ((n : Int), sg))) (fun v11 _ => n - (intOf v11).toNat)
 case atStart => exact ⟨0, Nat.zero_le _, rfl, Lib.hid (by rw [mix_zero]; exact HRA2.out), HRB, HF2, HB2⟩
 case round =>
  obtain ⟨k, hk, rfl, HX, HY, HF3, HB3⟩ := hrel
  have ⟨d0, d1⟩ := HB3.out.cells
  simp only at d0 d1
  by_cases hlt : k < n
  ·have ⟨x0, x1⟩ := brow_cell HX.out (mix_get and a b hlt)
   have ⟨y0, y1⟩ := brow_cell HY.out (bits_get (v := b) hlt)
   cases hx : a.testBit k
   all_goals
    have hs := each_set hlt HX.out HY.out HF3.out HB3.out hg12.out hg1.out
    rw [hx] at x0 hs
    have HS := Lib.hid hs
    clear hx hs
    go_wp2
    go_roundw
    case rel => exact ⟨k + 1, by omega, by go_num, Lib.hid HS.out.1, Lib.hid HS.out.2.1, Lib.hid HS.out.2.2.1, Lib.hid HS.out.2.2.2⟩
    case measure => simp [intOf]; omega
  ·have hke : k = n := by omega
   subst hke
   have HVal := Lib.hid (Value_calls wr _ _ HX.out.sees (by rw [mix_len]; exact h64))
   have hall := Lib.hid (mix_all k and a b)
   go_wp2_with (go_at_call 67; refine HVal.out.mono ?_; rintro e w4 ⟨rfl, hf4⟩; have HF4 := Lib.hid (frm_then HF3.out hf4); clear hf4)
   go_ret
   exact ⟨by rw [hall.out]; rfl, HF4.out⟩
set_option maxRecDepth 100000 in
set_option maxHeartbeats 4000000 in
theorem each_or {t : Ty} (h : rightF t = true) (w : World) (a b : Nat) (ha : a < 2 ^ 64) (hb : b < 2 ^ 64) :
  Calls Tryz.prog 50 #[.agg #[.int .i64 t.1, .bool t.2], .string sOr, .int .u64 a, .int .u64 b] w fun e w' => e = .returned (.int .u64 (valF (eachF (wid t) or a b) : Nat)) ∧ Frm (fun _ => False) w w' := by
 obtain ⟨x, sg⟩ := t
 obtain ⟨n, rfl⟩ : ∃ n : Nat, x = n := ⟨_, wid_int h⟩
 have hF := Lib.hid (frm_alloc w (.cells #[.int .i64 n, .bool sg] 23))
 have HB := Lib.hid (TmW.Box.new w ((n : Int), sg))
 have ⟨b0, b1⟩ := (TmW.Box.new w ((n : Int), sg)).cells
 simp only at b0 b1
 have hl := wid_le h
 have hw := show wid ((n : Int), sg) = n by unfold wid; simp
 rw [hw] at hl ⊢
 obtain ⟨h1, h64⟩ := hl
 have hA := Lib.hid (Bits_calls (v := a) (n := n) · h64 ha)
 have hB := Lib.hid (Bits_calls (v := b) (n := n) · h64 hb)
 clear h hw
 go_enter Tryz.func50, Tryz.ntmps50
 go_wp2_with fail
 refine Plan.wp_region_plan [0, 0, 2, 7, 0, 0, 32, 127, 255, 511] [.mk [0, 1, 2, 4, 5, 6] 3 [4, 5, 6], .mk [] 7 []] [8, 9] (by kernel_rfl) (by kernel_rfl) ?_
 simp only [Plan.wayOf, Plan.pickAll, List.getElem?_cons_zero, List.getElem?_cons_succ, List.getD_eq_getElem?_getD, Option.getD_some]
 refine Plan.wpWay_seg ?_
 repeat go_big_quiet_step (fail)
 refine wpQuiet_nil ?_; refine Plan.wpWay_act ?_
 go_wp2_with fail
 refine (hA.out _).mono ?_
 rintro e w2 ⟨r, rfl, hrow, hf, ho⟩
 have c0_1 := frm_cellD hf b0
 have c1_1 := frm_cellD hf b1
 have HF1 := Lib.hid (frm_then hF.out.drew hf)
 have HB1 := Lib.hid (TmW.Box.frm0 (w := (w.alloc (.cells #[.int .i64 n, .bool sg] 23)).drew) HB.out hf)
 have HRA := Lib.hid hrow
 have HOA := Lib.hid ho
 clear hf hrow ho
 go_wp2_with fail
 refine And.intro ?_ ?_; focus ((iterate 3 (refine Plan.again_cons ?_ ?_; focus (go_big_quiet_step (fail); exact wpQuiet_nil rfl))); exact Plan.again_nil)
 refine Plan.wpWay_seg ?_
 refine wpQuiet_nil ?_; refine Plan.wpWay_act ?_
 go_wp2_with fail
 refine (hB.out _).mono ?_
 rintro e w3 ⟨r2, rfl, hrow, hf, ho⟩
 have c0_2 := frm_cell hf c0_1
 have c1_2 := frm_cell hf c1_1
 have HF2 := Lib.hid (frm_then HF1.out hf)
 have HB2 := Lib.hid (TmW.Box.frm0 HB1.out hf)
 have HRA2 := Lib.hid (HRA.out.frm0 hf)
 have HRB := Lib.hid hrow
 have HOB := Lib.hid ho
 clear hf hrow ho
 go_wp2_with fail
 refine And.intro Plan.again_nil ?_
 refine Plan.wpWay_last ?_
 repeat go_big_quiet_step (fail)
 refine wpQuiet_nil ?_; refine NoPanic.normal ?_
 obtain ⟨g1, k1, rfl, q1⟩ : ∃ g c, r = .slice (some ⟨g, 0, none⟩) n c ∧ r.ownBlock = some g := by
  rcases HRA.out.shape with ⟨_, h⟩ | ⟨g, c, h, h', _⟩
  ·have := congrArg List.length h; rw [bits_len] at this; simp at this; omega
  ·rw [bits_len] at h; exact ⟨g, c, h, h'⟩
 obtain ⟨g2, k2, rfl, q2⟩ : ∃ g c, r2 = .slice (some ⟨g, 0, none⟩) n c ∧ r2.ownBlock = some g := by
  rcases HRB.out.shape with ⟨_, h⟩ | ⟨g, c, h, h', _⟩
  ·have := congrArg List.length h; rw [bits_len] at this; simp at this; omega
  ·rw [bits_len] at h; exact ⟨g, c, h, h'⟩
 have hg12 : Hid (g1 ≠ g2) := Lib.hid (by have e1 := HRA.out.lt g1 q1; have e2 := HOB.out g2 q2; omega)
 have hg1 : Hid (w.heap.size < g1) := Lib.hid (by have e1 := HOA.out g1 q1; simp at e1; omega)
 clear q1 q2
 go_wp2_with fail
 go_loopw [11] (fun v11 w' => ∃ k : Nat, k ≤ n ∧ v11 = .int .i64 k ∧ Hid (BRow w' (.slice (some ⟨g1, 0, none⟩) n k1) (mix n or a b k)) ∧ Hid (BRow w' (.slice (some ⟨g2, 0, none⟩) n k2) (bitsF b n)) ∧ Hid (Frm (fun _ => False) w w') ∧ Hid (Box w' w.heap.size ((n : Int), sg))) (fun v11 _ => n - (intOf v11).toNat)
 case atStart => exact ⟨0, Nat.zero_le _, rfl, Lib.hid (by rw [mix_zero]; exact HRA2.out), HRB, HF2, HB2⟩
 case round =>
  obtain ⟨k, hk, rfl, HX, HY, HF3, HB3⟩ := hrel
  have ⟨d0, d1⟩ := HB3.out.cells
  simp only at d0 d1
  by_cases hlt : k < n
  ·have ⟨x0, x1⟩ := brow_cell HX.out (mix_get or a b hlt)
   have ⟨y0, y1⟩ := brow_cell HY.out (bits_get (v := b) hlt)
   cases hx : a.testBit k
   all_goals
    have hs := each_set hlt HX.out HY.out HF3.out HB3.out hg12.out hg1.out
    rw [hx] at x0 hs
    have HS := Lib.hid hs
    clear hx hs
    go_wp2
    go_roundw
    case rel => exact ⟨k + 1, by omega, by go_num, Lib.hid HS.out.1, Lib.hid HS.out.2.1, Lib.hid HS.out.2.2.1, Lib.hid HS.out.2.2.2⟩
    case measure => simp [intOf]; omega
  ·have hke : k = n := by omega
   subst hke
   have HVal := Lib.hid (Value_calls wr _ _ HX.out.sees (by rw [mix_len]; exact h64))
   have hall := Lib.hid (mix_all k or a b)
   go_wp2_with (go_at_call 67; refine HVal.out.mono ?_; rintro e w4 ⟨rfl, hf4⟩; have HF4 := Lib.hid (frm_then HF3.out hf4); clear hf4)
   go_ret
   exact ⟨by rw [hall.out]; rfl, HF4.out⟩
set_option maxRecDepth 100000 in
set_option maxHeartbeats 4000000 in
theorem each_xor {t : Ty} (h : rightF t = true) (w : World) (a b : Nat) (ha : a < 2 ^ 64) (hb : b < 2 ^ 64) :
  Calls Tryz.prog 50 #[.agg #[.int .i64 t.1, .bool t.2], .string sXor, .int .u64 a, .int .u64 b] w fun e w' => e = .returned (.int .u64 (valF (eachF (wid t) (fun x y => x != y) a b) : Nat)) ∧ Frm (fun _ => False) w w' := by
 obtain ⟨x, sg⟩ := t
 obtain ⟨n, rfl⟩ : ∃ n : Nat, x = n := ⟨_, wid_int h⟩
 have hF := Lib.hid (frm_alloc w (.cells #[.int .i64 n, .bool sg] 23))
 have HB := Lib.hid (TmW.Box.new w ((n : Int), sg))
 have ⟨b0, b1⟩ := (TmW.Box.new w ((n : Int), sg)).cells
 simp only at b0 b1
 have hl := wid_le h
 have hw := show wid ((n : Int), sg) = n by unfold wid; simp
 rw [hw] at hl ⊢
 obtain ⟨h1, h64⟩ := hl
 have hA := Lib.hid (Bits_calls (v := a) (n := n) · h64 ha)
 have hB := Lib.hid (Bits_calls (v := b) (n := n) · h64 hb)
 clear h hw
 go_enter Tryz.func50, Tryz.ntmps50
 go_wp2_with fail
 refine Plan.wp_region_plan [0, 0, 2, 7, 0, 0, 32, 127, 255, 511] [.mk [0, 1, 2, 4, 5, 6] 3 [4, 5, 6], .mk [] 7 []] [8, 9] (by kernel_rfl) (by kernel_rfl) ?_
 simp only [Plan.wayOf, Plan.pickAll, List.getElem?_cons_zero, List.getElem?_cons_succ, List.getD_eq_getElem?_getD, Option.getD_some]
 refine Plan.wpWay_seg ?_
 repeat go_big_quiet_step (fail)
 refine wpQuiet_nil ?_; refine Plan.wpWay_act ?_
 go_wp2_with fail
 refine (hA.out _).mono ?_
 rintro e w2 ⟨r, rfl, hrow, hf, ho⟩
 have c0_1 := frm_cellD hf b0
 have c1_1 := frm_cellD hf b1
 have HF1 := Lib.hid (frm_then hF.out.drew hf)
 have HB1 := Lib.hid (TmW.Box.frm0 (w := (w.alloc (.cells #[.int .i64 n, .bool sg] 23)).drew) HB.out hf)
 have HRA := Lib.hid hrow
 have HOA := Lib.hid ho
 clear hf hrow ho
 go_wp2_with fail
 refine And.intro ?_ ?_; focus ((iterate 3 (refine Plan.again_cons ?_ ?_; focus (go_big_quiet_step (fail); exact wpQuiet_nil rfl))); exact Plan.again_nil)
 refine Plan.wpWay_seg ?_
 refine wpQuiet_nil ?_; refine Plan.wpWay_act ?_
 go_wp2_with fail
 refine (hB.out _).mono ?_
 rintro e w3 ⟨r2, rfl, hrow, hf, ho⟩
 have c0_2 := frm_cell hf c0_1
 have c1_2 := frm_cell hf c1_1
 have HF2 := Lib.hid (frm_then HF1.out hf)
 have HB2 := Lib.hid (TmW.Box.frm0 HB1.out hf)
 have HRA2 := Lib.hid (HRA.out.frm0 hf)
 have HRB := Lib.hid hrow
 have HOB := Lib.hid ho
 clear hf hrow ho
 go_wp2_with fail
 refine And.intro Plan.again_nil ?_
 refine Plan.wpWay_last ?_
 repeat go_big_quiet_step (fail)
 refine wpQuiet_nil ?_; refine NoPanic.normal ?_
 obtain ⟨g1, k1, rfl, q1⟩ : ∃ g c, r = .slice (some ⟨g, 0, none⟩) n c ∧ r.ownBlock = some g := by
  rcases HRA.out.shape with ⟨_, h⟩ | ⟨g, c, h, h', _⟩
  ·have := congrArg List.length h; rw [bits_len] at this; simp at this; omega
  ·rw [bits_len] at h; exact ⟨g, c, h, h'⟩
 obtain ⟨g2, k2, rfl, q2⟩ : ∃ g c, r2 = .slice (some ⟨g, 0, none⟩) n c ∧ r2.ownBlock = some g := by
  rcases HRB.out.shape with ⟨_, h⟩ | ⟨g, c, h, h', _⟩
  ·have := congrArg List.length h; rw [bits_len] at this; simp at this; omega
  ·rw [bits_len] at h; exact ⟨g, c, h, h'⟩
 have hg12 : Hid (g1 ≠ g2) := Lib.hid (by have e1 := HRA.out.lt g1 q1; have e2 := HOB.out g2 q2; omega)
 have hg1 : Hid (w.heap.size < g1) := Lib.hid (by have e1 := HOA.out g1 q1; simp at e1; omega)
 clear q1 q2
 go_wp2_with fail
 go_loopw [11] (fun v11 w' => ∃ k : Nat, k ≤ n ∧ v11 = .int .i64 k ∧ Hid (BRow w' (.slice (some ⟨g1, 0, none⟩) n k1) (mix n (fun x y => x != y) a b k)) ∧ Hid (BRow w' (.slice (some ⟨g2, 0, none⟩) n k2) (bitsF b n)) ∧ Hid (Frm (fun _ => False) w w') ∧ Hid (Box w' w.heap.size ((n : Int), sg))) (fun v11 _ => n - (intOf v11).toNat)
 case atStart => exact ⟨0, Nat.zero_le _, rfl, Lib.hid (by rw [mix_zero]; exact HRA2.out), HRB, HF2, HB2⟩
 case round =>
  obtain ⟨k, hk, rfl, HX, HY, HF3, HB3⟩ := hrel
  have ⟨d0, d1⟩ := HB3.out.cells
  simp only at d0 d1
  by_cases hlt : k < n
  ·have ⟨x0, x1⟩ := brow_cell HX.out (mix_get (fun x y => x != y) a b hlt)
   have ⟨y0, y1⟩ := brow_cell HY.out (bits_get (v := b) hlt)
   have HS := Lib.hid (each_set hlt HX.out HY.out HF3.out HB3.out hg12.out hg1.out)
   go_wp2_with fail
   refine Plan.wp_region_plan [0, 0, 0, 0, 12, 28, 0, 0, 192, 448, 1020, 2047, 4095] [.mk [0, 1, 2, 3, 4, 5, 6, 7, 8, 9, 10, 11] 12 []] [] (by kernel_rfl) (by kernel_rfl) ?_
   simp only [Plan.wayOf, Plan.pickAll, List.getElem?_cons_zero, List.getElem?_cons_succ, List.getD_eq_getElem?_getD, Option.getD_some]
   refine Plan.wpWay_seg ?_
   repeat go_big_quiet_step (fail)
   refine wpQuiet_nil ?_; refine Plan.wpWay_act ?_
   go_wp2_with fail
   refine And.intro Plan.again_nil ?_
   refine Plan.wpWay_last ?_
   refine wpQuiet_nil ?_; refine NoPanic.normal ?_
   go_wp2
   go_roundw
   case rel => exact ⟨k + 1, by omega, by go_num, Lib.hid HS.out.1, Lib.hid HS.out.2.1, Lib.hid HS.out.2.2.1.drew, Lib.hid HS.out.2.2.2⟩
   case measure => simp [intOf]; omega
  ·have hke : k = n := by omega
   subst hke
   have HVal := Lib.hid (Value_calls wr _ _ HX.out.sees (by rw [mix_len]; exact h64))
   have hall := Lib.hid (mix_all k (fun x y => x != y) a b)
   go_wp2_with (go_at_call 67; refine HVal.out.mono ?_; rintro e w4 ⟨rfl, hf4⟩; have HF4 := Lib.hid (frm_then HF3.out hf4); clear hf4)
   go_ret
   exact ⟨by rw [hall.out]; rfl, HF4.out⟩
end RfW
end Go.Proofs.YtbbajekecppioaaGreatDoor
