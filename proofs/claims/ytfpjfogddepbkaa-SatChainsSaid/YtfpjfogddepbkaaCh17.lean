/- SatChains: what the first one of a chain is, all are. No condition. -/
import Derived.Test.YtfpjfogddepbkaaCh13
import Derived.Test.YtfpjfogddepbkaaCh16
import Derived.Test.YtfpjfogddepbkaaChecked
import Derived.Test.YtfpjfogddepbkaaRows
import Derived.Deep.Slices
import Derived.Deep.Fields
import Derived.Deep.Grids
import Derived.ChangeSame
import Derived.ChangeAlike
import Derived.ReadAgain
import Derived.Below
import Derived.ProofKit
import Derived.OpenShut
set_option linter.unusedSimpArgs false
set_option linter.unusedVariables false
/- SatChains, walked. -/
namespace Go.Proofs.Ytfpjfogddepbkaa
open Go.RowKit Go.Mem Go.Sat
namespace SaW
theorem row_one {α : Type} {w : World} {e : TypeId} {enc : α → Value} {g : Nat} {x : α} (h : w.heap[g]? = some (.cells #[enc x] e (0, 0))) : Row w e enc (.slice (some ⟨g, 0, none⟩) 1 1) [x] := ⟨by simp, .inr ⟨g, 1, #[enc x], rfl, Nat.zero_le _, h, Nat.le_refl _, by decide, by simp, by simp⟩⟩
theorem row_nth {α : Type} {w : World} {e : TypeId} {enc : α → Value} {v : Value} {l : List α} {i : Nat} {x : α} (h : Row w e enc v l) (hi : l[i]? = some x) : ∃ g c, v = .slice (some ⟨g, 0, none⟩) l.length c ∧ w.cell? ⟨g, i, none⟩ = some (enc x) := by
  rcases h.shape with ⟨_, rfl⟩ | ⟨g, c, h1, _, _, _, h2, _⟩
  · simp at hi
  · exact ⟨g, c, h1, h2 i x hi⟩
theorem wants_len (sg : Nat → Bool) (k : Nat) : (wants sg k).length = k := by simp [wants]
theorem wants_at (sg : Nat → Bool) {k i : Nat} (h : i < k) : (wants sg k)[i]? = some (wantF sg (i + 1)) := by
  unfold wants
  rw [List.getElem?_map, List.getElem?_range h]; rfl
theorem wants_succ (sg : Nat → Bool) (k : Nat) : wants sg (k + 1) = wants sg k ++ [wantF sg (k + 1)] := by
  unfold wants; rw [List.range_succ, List.map_append]; rfl
set_option maxRecDepth 100000 in
set_option maxHeartbeats 4000000 in
theorem chains_walk (w : World) (n : Int) (hn : 0 ≤ n ∧ n ≤ 255) (vt : Value) (turn : List Bool) (hT : SeesW w Value.bool vt turn) : Calls Try.prog 3 #[.int .u8 n, vt] w fun e w' => e = .returned (.bool true) ∧ Frm (fun _ => False) w w' := by
  obtain ⟨i0, hi, hz0, hz1, hz2⟩ := info_parts info_int
  obtain ⟨k, hk⟩ : ∃ k : Nat, (k : Int) = 1 + n % 100 := ⟨(1 + n % 100).toNat, by omega⟩
  have hk1 : 1 ≤ k := by omega
  have hk2 : k ≤ 100 := by omega
  have HKN : Hid (1 + n % 100 = (k : Int)) := Lib.hid hk.symm
  have htl : turn.length ≤ 9223372036854775807 := hT.len
  obtain ⟨TA, tc, rfl, _⟩ := hT.slice
  have HT := Lib.hid hT
  obtain ⟨sg, hsg⟩ : ∃ sg : Nat → Bool, sg = fun i => turn.getD i false := ⟨_, rfl⟩
  have HSG := Lib.hid hsg
  have HAW := Lib.hid (fun W => awake_calls W)
  have HNW := Lib.hid (fun W => new_calls W)
  clear hk hT hsg
  go_enter Try.func3, Try.ntmps3
  go_wp2_with fail
  rw [HKN.out]
  clear HKN hn
  refine (HNW.out _).mono ?_
  rintro e w1 ⟨p, R1, rfl, hS, hF, hnew⟩
  have HO1 := Lib.hid (show Own w R1 w1 p Sat.new from ⟨hS, hF, hnew⟩)
  clear hS hF hnew HNW
  dsimp only
  go_wp2_with fail
  refine (HAW.out _).mono ?_
  rintro e w2 ⟨rfl, hf⟩
  have HO2 := Lib.hid (HO1.out.frm0 hf)
  clear hf HO1 HAW
  dsimp only
  go_wp2_with fail
  have hf3 := frm_alloc w2 (.cells #[.int .i64 1] 3)
  have HO3 := Lib.hid (HO2.out.frm0 hf3)
  have HR3 : Hid (RowO w R1 (w2.alloc (.cells #[.int .i64 1] 3)) (.slice (some ⟨w2.heap.size, 0, none⟩) 1 1) (wants sg 1)) := Lib.hid ⟨row_one (enc := iI) (x := 1) (blk_new _), fun g e => by cases e; exact ⟨HO2.out.fresh (Nat.le_refl _), HO2.out.frm.size⟩⟩
  clear hf3 HO2
  go_loopw [7, 8] (fun v7 v8 w' => ∃ i : Nat, v8 = .int .i64 i ∧ 1 ≤ i ∧ i ≤ k ∧ ∃ s Rj, Hid (ChainS sg i s) ∧ Hid (Own w Rj w' p s) ∧ Hid (RowO w Rj w' v7 (wants sg i))) (fun _ v8 _ => k - (intOf v8).toNat)
  case atStart => exact ⟨1, rfl, by omega, hk1, _, R1, Lib.hid (chain_new sg), HO3, HR3⟩
  case round =>
    obtain ⟨i, rfl, h1i, hik, s, Rj, HCS, HOj, HRj⟩ := hrel
    clear HO3 HR3
    by_cases hil : i < k
    · have hiI : (i : Int) < (k : Int) := by omega
      obtain ⟨s1, s2, ha1, ha2, hcs⟩ := chain_step HCS.out h1i (by omega)
      have HA1 := Lib.hid ha1
      have HA2 := Lib.hid ha2
      have HCS2 := Lib.hid hcs
      have htF : tF sg i = if sg i then -((i : Int) + 1) else (i : Int) + 1 := rfl
      have hwn := want_next sg h1i
      obtain ⟨gw, cw, hvw, xw⟩ := row_nth HRj.out.1 (wants_at sg (k := i) (i := i - 1) (by omega))
      rw [wants_len] at hvw
      subst hvw
      rw [show i - 1 + 1 = i from by omega] at xw
      have hi1 : (i : Int) - 1 = ((i - 1 : Nat) : Int) := by omega
      have hck1 : checkF [-(i : Int), tF sg i] = true := by unfold checkF rightF; simp only [List.all_cons, List.all_nil, Bool.and_true, Bool.and_eq_true, decide_eq_true_eq]; have := tF_abs sg i; omega
      have hck2 : checkF [(i : Int), -tF sg i] = true := by unfold checkF rightF; simp only [List.all_cons, List.all_nil, Bool.and_true, Bool.and_eq_true, decide_eq_true_eq]; have := tF_abs sg i; omega
      have HCK1 := Lib.hid hck1
      have HCK2 := Lib.hid hck2
      have HWN := Lib.hid hwn
      have HI1 := Lib.hid hi1
      clear ha1 ha2 hcs hck1 hck2 hwn hi1
      have hcase : (¬ (i : Int) < (turn.length : Int) ∧ sg i = false) ∨ ((i : Int) < (turn.length : Int) ∧ turn[i]? = some false ∧ sg i = false) ∨ ((i : Int) < (turn.length : Int) ∧ turn[i]? = some true ∧ sg i = true) := by
        rw [HSG.out]
        simp only [List.getD_eq_getElem?_getD]
        by_cases h1 : i < turn.length
        · rw [List.getElem?_eq_getElem h1]
          cases hb : turn[i] with
          | false => exact .inr (.inl ⟨by omega, rfl, rfl⟩)
          | true => exact .inr (.inr ⟨by omega, rfl, rfl⟩)
        · rw [List.getElem?_eq_none (by omega)]
          exact .inl ⟨by omega, rfl⟩
      rcases hcase with ⟨h1I, hs⟩ | ⟨h1I, h2, hs⟩ | ⟨h1I, h2, hs⟩
      · rw [hs] at htF
        simp only [Bool.false_eq_true, if_false] at htF
        rw [htF] at HA1 HA2 HCK1 HCK2 HWN
        clear htF hs
        go_wp2_with fail
        have hf5 := frm_alloc wr (.cells #[.int .i64 (-(i : Int)), .int .i64 ((i : Int) + 1)] 3)
        have HO5 := Lib.hid (HOj.out.frm0 hf5)
        have HR5 := Lib.hid (HRj.out.frm0 hf5)
        have HAC := Lib.hid (add_calls HO5.out.sol (.slice (some ⟨wr.heap.size, 0, none⟩) 2 2) _ (sees_two (blk_new _)) (outOf_new (HOj.out.fresh (Nat.le_refl _))) (by simp) HCK1.out 2000 HA1.out)
        clear hf5 HOj HRj xw
        refine HAC.out.mono ?_
        rintro e w5 ⟨rfl, R5, hS, hM⟩
        have HO6 := Lib.hid (HO5.out.step hS hM)
        have HR6 := Lib.hid (HR5.out.step hM)
        clear hS hM HO5 HR5 HAC
        dsimp only
        go_wp2_with fail
        have hf7 := frm_alloc w5 (.cells #[.int .i64 (i : Int), .int .i64 (-((i : Int) + 1))] 3)
        have HO7 := Lib.hid (HO6.out.frm0 hf7)
        have HR7 := Lib.hid (HR6.out.frm0 hf7)
        have HAC := Lib.hid (add_calls HO7.out.sol (.slice (some ⟨w5.heap.size, 0, none⟩) 2 2) _ (sees_two (blk_new _)) (outOf_new (HO6.out.fresh (Nat.le_refl _))) (by simp) HCK2.out 2000 HA2.out)
        clear hf7 HO6 HR6
        refine HAC.out.mono ?_
        rintro e w8 ⟨rfl, R8, hS, hM⟩
        have HO8 := Lib.hid (HO7.out.step hS hM)
        have HR8 := Lib.hid (HR7.out.step hM)
        have xw : w8.cell? ⟨gw, i - 1, none⟩ = some (.int .i64 (wantF sg i)) := by
          obtain ⟨g', c', e1, e2⟩ := row_nth HR8.out.1 (wants_at sg (k := i) (i := i - 1) (by omega))
          rw [wants_len] at e1
          cases e1
          rw [show i - 1 + 1 = i from by omega] at e2
          exact e2
        clear hS hM HO7 HR7 HAC
        dsimp only
        have hwd : wantF sg i = if wayF sg i then (i : Int) else -(i : Int) := rfl
        cases hwy : wayF sg i with
        | true =>
          rw [hwy] at hwd HWN
          simp only [if_true] at hwd HWN
          rw [hwd] at xw
          have hf9 := frm_alloc w8 (.cells #[.int .i64 ((i : Int) + 1)] 3)
          have HR9 := Lib.hid (HR8.out.frm0 hf9)
          have HO9 := Lib.hid (HO8.out.frm0 hf9)
          clear hwd hwy hf9
          go_wp2_with (first | (at_builtin; refine wpList_append_row rfl _ _ 26 rfl 3 i0 (.int .i64 0) 8 Try.underlying26 hi hz0 hz1 hz2 rfl (enc := iI) (.slice (some ⟨gw, 0, none⟩) i cw) (wants sg i) rfl HR9.out.1 ⟨w8.heap.size, 0, none⟩ 1 ((i : Int) + 1) rfl ?c1 rfl ?c2 ?c3 ?_) | fail)
          case c1 => exact blk_cell (blk_new _) 0
          case c2 => rw [wants_len]; have : maxLen = 9223372036854775807 := rfl; omega
          case c3 => rw [wants_len]; omega
          intro g9 cap9 w9 hr9 hf9 hg9 hl9
          obtain ⟨ho10, hro10⟩ := HR9.out.append HO9.out hf9 hr9 fun g e => by
            cases e
            rcases hg9 with e | e
            · exact .inl e
            · exact .inr (by rw [e]; simp)
          have HO10 := Lib.hid ho10
          have HR10 : Hid (RowO w R8 w9 (.slice (some ⟨g9, 0, none⟩) ((wants sg i).length + 1) cap9) (wants sg (i + 1))) := Lib.hid (by rw [wants_succ, HWN.out]; exact hro10)
          clear hr9 hf9 hg9 hl9 ho10 hro10 HR9 HO9 HR8 HO8 xw HCK1 HCK2 HA1 HA2 HWN
          go_wp2
          go_roundw
          case rel => exact ⟨i + 1, rfl, by omega, hil, s2, R8, HCS2, HO10, HR10⟩
          case measure => simp only [intOf]; omega
        | false =>
          rw [hwy] at hwd HWN
          simp only [Bool.false_eq_true, if_false, Int.neg_neg] at hwd HWN
          rw [hwd] at xw
          have hf9 := frm_alloc w8 (.cells #[.int .i64 (-((i : Int) + 1))] 3)
          have HR9 := Lib.hid (HR8.out.frm0 hf9)
          have HO9 := Lib.hid (HO8.out.frm0 hf9)
          clear hwd hwy hf9
          go_wp2_with (first | (at_builtin; refine wpList_append_row rfl _ _ 26 rfl 3 i0 (.int .i64 0) 8 Try.underlying26 hi hz0 hz1 hz2 rfl (enc := iI) (.slice (some ⟨gw, 0, none⟩) i cw) (wants sg i) rfl HR9.out.1 ⟨w8.heap.size, 0, none⟩ 1 (-((i : Int) + 1)) rfl ?c1 rfl ?c2 ?c3 ?_) | fail)
          case c1 => exact blk_cell (blk_new _) 0
          case c2 => rw [wants_len]; have : maxLen = 9223372036854775807 := rfl; omega
          case c3 => rw [wants_len]; omega
          intro g9 cap9 w9 hr9 hf9 hg9 hl9
          obtain ⟨ho10, hro10⟩ := HR9.out.append HO9.out hf9 hr9 fun g e => by
            cases e
            rcases hg9 with e | e
            · exact .inl e
            · exact .inr (by rw [e]; simp)
          have HO10 := Lib.hid ho10
          have HR10 : Hid (RowO w R8 w9 (.slice (some ⟨g9, 0, none⟩) ((wants sg i).length + 1) cap9) (wants sg (i + 1))) := Lib.hid (by rw [wants_succ, HWN.out]; exact hro10)
          clear hr9 hf9 hg9 hl9 ho10 hro10 HR9 HO9 HR8 HO8 xw HCK1 HCK2 HA1 HA2 HWN
          go_wp2
          go_roundw
          case rel => exact ⟨i + 1, rfl, by omega, hil, s2, R8, HCS2, HO10, HR10⟩
          case measure => simp only [intOf]; omega
      · obtain ⟨A', c', e1, hat⟩ := (HT.out.frm0 HOj.out.frm).slice
        obtain ⟨gt, ot, h3, xt⟩ := hat i _ h2
        cases e1
        subst h3
        rw [hs] at htF
        simp only [Bool.false_eq_true, if_false] at htF
        rw [htF] at HA1 HA2 HCK1 HCK2 HWN
        clear htF hs h2 hat
        go_wp2_with fail
        have hf5 := frm_alloc wr (.cells #[.int .i64 (-(i : Int)), .int .i64 ((i : Int) + 1)] 3)
        have HO5 := Lib.hid (HOj.out.frm0 hf5)
        have HR5 := Lib.hid (HRj.out.frm0 hf5)
        have HAC := Lib.hid (add_calls HO5.out.sol (.slice (some ⟨wr.heap.size, 0, none⟩) 2 2) _ (sees_two (blk_new _)) (outOf_new (HOj.out.fresh (Nat.le_refl _))) (by simp) HCK1.out 2000 HA1.out)
        clear hf5 HOj HRj xw
        refine HAC.out.mono ?_
        rintro e w5 ⟨rfl, R5, hS, hM⟩
        have HO6 := Lib.hid (HO5.out.step hS hM)
        have HR6 := Lib.hid (HR5.out.step hM)
        clear hS hM HO5 HR5 HAC
        dsimp only
        go_wp2_with fail
        have hf7 := frm_alloc w5 (.cells #[.int .i64 (i : Int), .int .i64 (-((i : Int) + 1))] 3)
        have HO7 := Lib.hid (HO6.out.frm0 hf7)
        have HR7 := Lib.hid (HR6.out.frm0 hf7)
        have HAC := Lib.hid (add_calls HO7.out.sol (.slice (some ⟨w5.heap.size, 0, none⟩) 2 2) _ (sees_two (blk_new _)) (outOf_new (HO6.out.fresh (Nat.le_refl _))) (by simp) HCK2.out 2000 HA2.out)
        clear hf7 HO6 HR6
        refine HAC.out.mono ?_
        rintro e w8 ⟨rfl, R8, hS, hM⟩
        have HO8 := Lib.hid (HO7.out.step hS hM)
        have HR8 := Lib.hid (HR7.out.step hM)
        have xw : w8.cell? ⟨gw, i - 1, none⟩ = some (.int .i64 (wantF sg i)) := by
          obtain ⟨g', c', e1, e2⟩ := row_nth HR8.out.1 (wants_at sg (k := i) (i := i - 1) (by omega))
          rw [wants_len] at e1
          cases e1
          rw [show i - 1 + 1 = i from by omega] at e2
          exact e2
        clear hS hM HO7 HR7 HAC
        dsimp only
        have hwd : wantF sg i = if wayF sg i then (i : Int) else -(i : Int) := rfl
        cases hwy : wayF sg i with
        | true =>
          rw [hwy] at hwd HWN
          simp only [if_true] at hwd HWN
          rw [hwd] at xw
          have hf9 := frm_alloc w8 (.cells #[.int .i64 ((i : Int) + 1)] 3)
          have HR9 := Lib.hid (HR8.out.frm0 hf9)
          have HO9 := Lib.hid (HO8.out.frm0 hf9)
          clear hwd hwy hf9
          go_wp2_with (first | (at_builtin; refine wpList_append_row rfl _ _ 26 rfl 3 i0 (.int .i64 0) 8 Try.underlying26 hi hz0 hz1 hz2 rfl (enc := iI) (.slice (some ⟨gw, 0, none⟩) i cw) (wants sg i) rfl HR9.out.1 ⟨w8.heap.size, 0, none⟩ 1 ((i : Int) + 1) rfl ?c1 rfl ?c2 ?c3 ?_) | fail)
          case c1 => exact blk_cell (blk_new _) 0
          case c2 => rw [wants_len]; have : maxLen = 9223372036854775807 := rfl; omega
          case c3 => rw [wants_len]; omega
          intro g9 cap9 w9 hr9 hf9 hg9 hl9
          obtain ⟨ho10, hro10⟩ := HR9.out.append HO9.out hf9 hr9 fun g e => by
            cases e
            rcases hg9 with e | e
            · exact .inl e
            · exact .inr (by rw [e]; simp)
          have HO10 := Lib.hid ho10
          have HR10 : Hid (RowO w R8 w9 (.slice (some ⟨g9, 0, none⟩) ((wants sg i).length + 1) cap9) (wants sg (i + 1))) := Lib.hid (by rw [wants_succ, HWN.out]; exact hro10)
          clear hr9 hf9 hg9 hl9 ho10 hro10 HR9 HO9 HR8 HO8 xw HCK1 HCK2 HA1 HA2 HWN
          go_wp2
          go_roundw
          case rel => exact ⟨i + 1, rfl, by omega, hil, s2, R8, HCS2, HO10, HR10⟩
          case measure => simp only [intOf]; omega
        | false =>
          rw [hwy] at hwd HWN
          simp only [Bool.false_eq_true, if_false, Int.neg_neg] at hwd HWN
          rw [hwd] at xw
          have hf9 := frm_alloc w8 (.cells #[.int .i64 (-((i : Int) + 1))] 3)
          have HR9 := Lib.hid (HR8.out.frm0 hf9)
          have HO9 := Lib.hid (HO8.out.frm0 hf9)
          clear hwd hwy hf9
          go_wp2_with (first | (at_builtin; refine wpList_append_row rfl _ _ 26 rfl 3 i0 (.int .i64 0) 8 Try.underlying26 hi hz0 hz1 hz2 rfl (enc := iI) (.slice (some ⟨gw, 0, none⟩) i cw) (wants sg i) rfl HR9.out.1 ⟨w8.heap.size, 0, none⟩ 1 (-((i : Int) + 1)) rfl ?c1 rfl ?c2 ?c3 ?_) | fail)
          case c1 => exact blk_cell (blk_new _) 0
          case c2 => rw [wants_len]; have : maxLen = 9223372036854775807 := rfl; omega
          case c3 => rw [wants_len]; omega
          intro g9 cap9 w9 hr9 hf9 hg9 hl9
          obtain ⟨ho10, hro10⟩ := HR9.out.append HO9.out hf9 hr9 fun g e => by
            cases e
            rcases hg9 with e | e
            · exact .inl e
            · exact .inr (by rw [e]; simp)
          have HO10 := Lib.hid ho10
          have HR10 : Hid (RowO w R8 w9 (.slice (some ⟨g9, 0, none⟩) ((wants sg i).length + 1) cap9) (wants sg (i + 1))) := Lib.hid (by rw [wants_succ, HWN.out]; exact hro10)
          clear hr9 hf9 hg9 hl9 ho10 hro10 HR9 HO9 HR8 HO8 xw HCK1 HCK2 HA1 HA2 HWN
          go_wp2
          go_roundw
          case rel => exact ⟨i + 1, rfl, by omega, hil, s2, R8, HCS2, HO10, HR10⟩
          case measure => simp only [intOf]; omega
      · obtain ⟨A', c', e1, hat⟩ := (HT.out.frm0 HOj.out.frm).slice
        obtain ⟨gt, ot, h3, xt⟩ := hat i _ h2
        cases e1
        subst h3
        rw [hs] at htF
        simp only [if_true] at htF
        rw [htF] at HA1 HA2 HCK1 HCK2 HWN
        rw [Int.neg_neg] at HA2 HCK2
        clear htF hs h2 hat
        go_wp2_with fail
        have hf5 := frm_alloc wr (.cells #[.int .i64 (-(i : Int)), .int .i64 (-((i : Int) + 1))] 3)
        have HO5 := Lib.hid (HOj.out.frm0 hf5)
        have HR5 := Lib.hid (HRj.out.frm0 hf5)
        have HAC := Lib.hid (add_calls HO5.out.sol (.slice (some ⟨wr.heap.size, 0, none⟩) 2 2) _ (sees_two (blk_new _)) (outOf_new (HOj.out.fresh (Nat.le_refl _))) (by simp) HCK1.out 2000 HA1.out)
        clear hf5 HOj HRj xw
        refine HAC.out.mono ?_
        rintro e w5 ⟨rfl, R5, hS, hM⟩
        have HO6 := Lib.hid (HO5.out.step hS hM)
        have HR6 := Lib.hid (HR5.out.step hM)
        clear hS hM HO5 HR5 HAC
        dsimp only
        go_wp2_with fail
        have hf7 := frm_alloc w5 (.cells #[.int .i64 (i : Int), .int .i64 ((i : Int) + 1)] 3)
        have HO7 := Lib.hid (HO6.out.frm0 hf7)
        have HR7 := Lib.hid (HR6.out.frm0 hf7)
        have HAC := Lib.hid (add_calls HO7.out.sol (.slice (some ⟨w5.heap.size, 0, none⟩) 2 2) _ (sees_two (blk_new _)) (outOf_new (HO6.out.fresh (Nat.le_refl _))) (by simp) HCK2.out 2000 HA2.out)
        clear hf7 HO6 HR6
        refine HAC.out.mono ?_
        rintro e w8 ⟨rfl, R8, hS, hM⟩
        have HO8 := Lib.hid (HO7.out.step hS hM)
        have HR8 := Lib.hid (HR7.out.step hM)
        have xw : w8.cell? ⟨gw, i - 1, none⟩ = some (.int .i64 (wantF sg i)) := by
          obtain ⟨g', c', e1, e2⟩ := row_nth HR8.out.1 (wants_at sg (k := i) (i := i - 1) (by omega))
          rw [wants_len] at e1
          cases e1
          rw [show i - 1 + 1 = i from by omega] at e2
          exact e2
        clear hS hM HO7 HR7 HAC
        dsimp only
        have hwd : wantF sg i = if wayF sg i then (i : Int) else -(i : Int) := rfl
        cases hwy : wayF sg i with
        | true =>
          rw [hwy] at hwd HWN
          simp only [if_true, Int.neg_neg] at hwd HWN
          rw [hwd] at xw
          have hf9 := frm_alloc w8 (.cells #[.int .i64 (-((i : Int) + 1))] 3)
          have HR9 := Lib.hid (HR8.out.frm0 hf9)
          have HO9 := Lib.hid (HO8.out.frm0 hf9)
          clear hwd hwy hf9
          go_wp2_with (first | (at_builtin; refine wpList_append_row rfl _ _ 26 rfl 3 i0 (.int .i64 0) 8 Try.underlying26 hi hz0 hz1 hz2 rfl (enc := iI) (.slice (some ⟨gw, 0, none⟩) i cw) (wants sg i) rfl HR9.out.1 ⟨w8.heap.size, 0, none⟩ 1 (-((i : Int) + 1)) rfl ?c1 rfl ?c2 ?c3 ?_) | fail)
          case c1 => exact blk_cell (blk_new _) 0
          case c2 => rw [wants_len]; have : maxLen = 9223372036854775807 := rfl; omega
          case c3 => rw [wants_len]; omega
          intro g9 cap9 w9 hr9 hf9 hg9 hl9
          obtain ⟨ho10, hro10⟩ := HR9.out.append HO9.out hf9 hr9 fun g e => by
            cases e
            rcases hg9 with e | e
            · exact .inl e
            · exact .inr (by rw [e]; simp)
          have HO10 := Lib.hid ho10
          have HR10 : Hid (RowO w R8 w9 (.slice (some ⟨g9, 0, none⟩) ((wants sg i).length + 1) cap9) (wants sg (i + 1))) := Lib.hid (by rw [wants_succ, HWN.out]; exact hro10)
          clear hr9 hf9 hg9 hl9 ho10 hro10 HR9 HO9 HR8 HO8 xw HCK1 HCK2 HA1 HA2 HWN
          go_wp2
          go_roundw
          case rel => exact ⟨i + 1, rfl, by omega, hil, s2, R8, HCS2, HO10, HR10⟩
          case measure => simp only [intOf]; omega
        | false =>
          rw [hwy] at hwd HWN
          simp only [Bool.false_eq_true, if_false] at hwd HWN
          rw [hwd] at xw
          have hf9 := frm_alloc w8 (.cells #[.int .i64 ((i : Int) + 1)] 3)
          have HR9 := Lib.hid (HR8.out.frm0 hf9)
          have HO9 := Lib.hid (HO8.out.frm0 hf9)
          clear hwd hwy hf9
          go_wp2_with (first | (at_builtin; refine wpList_append_row rfl _ _ 26 rfl 3 i0 (.int .i64 0) 8 Try.underlying26 hi hz0 hz1 hz2 rfl (enc := iI) (.slice (some ⟨gw, 0, none⟩) i cw) (wants sg i) rfl HR9.out.1 ⟨w8.heap.size, 0, none⟩ 1 ((i : Int) + 1) rfl ?c1 rfl ?c2 ?c3 ?_) | fail)
          case c1 => exact blk_cell (blk_new _) 0
          case c2 => rw [wants_len]; have : maxLen = 9223372036854775807 := rfl; omega
          case c3 => rw [wants_len]; omega
          intro g9 cap9 w9 hr9 hf9 hg9 hl9
          obtain ⟨ho10, hro10⟩ := HR9.out.append HO9.out hf9 hr9 fun g e => by
            cases e
            rcases hg9 with e | e
            · exact .inl e
            · exact .inr (by rw [e]; simp)
          have HO10 := Lib.hid ho10
          have HR10 : Hid (RowO w R8 w9 (.slice (some ⟨g9, 0, none⟩) ((wants sg i).length + 1) cap9) (wants sg (i + 1))) := Lib.hid (by rw [wants_succ, HWN.out]; exact hro10)
          clear hr9 hf9 hg9 hl9 ho10 hro10 HR9 HO9 HR8 HO8 xw HCK1 HCK2 HA1 HA2 HWN
          go_wp2
          go_roundw
          case rel => exact ⟨i + 1, rfl, by omega, hil, s2, R8, HCS2, HO10, HR10⟩
          case measure => simp only [intOf]; omega
    · have hiI : ¬ (i : Int) < (k : Int) := by omega
      obtain rfl : i = k := by omega
      obtain ⟨a, s1, b, s2, hs1, hs2, ha1, ha2, hb1, hb2⟩ := chain_run HCS.out h1i hk2
      obtain ⟨a1, a2, a3⟩ := a
      obtain ⟨b1, b2, b3⟩ := b
      simp only at ha1 ha2 hb1 hb2
      subst ha1 ha2 hb1
      obtain ⟨gw, cw, hvw, _⟩ := row_nth HRj.out.1 (wants_at sg (k := i) (i := i - 1) (by omega))
      rw [wants_len] at hvw
      subst hvw
      have HS2 := Lib.hid hs2
      have HB2 := Lib.hid hb2
      have HWA := Lib.hid (want_abs sg i)
      have hf4 := frm_alloc wr (.cells #[.int .i64 1] 3)
      have HO4 := Lib.hid (HOj.out.frm0 hf4)
      have HR4 := Lib.hid (HRj.out.frm0 hf4)
      have HSV := Lib.hid (solve_calls HO4.out.sol (.slice (some ⟨wr.heap.size, 0, none⟩) 1 1) [1] (sees_one (blk_new _)) (outOf_new (HOj.out.fresh (Nat.le_refl _))) (by simp) (by decide) 2000 0 _ _ hs1)
      clear hf4 HOj HRj hs1 hs2 hb2 HCS
      go_wp2_with fail
      refine HSV.out.mono ?_
      rintro e w5 ⟨vm1, vc1, R5, rfl, rm, rc, ho, hS, hM⟩
      obtain ⟨h1, h2⟩ := HO4.out.ans hS hM rm rc fun g hg => (ho g hg).1
      obtain ⟨MA, mc, rfl, _⟩ := sees_slice rm.sees
      obtain ⟨CA, cc, rfl, _⟩ := sees_slice rc.sees
      have h3 := (HR4.out.step hM).frm0 (frm_alloc w5 (.cells #[.bool true, .slice MA (wants sg i).length mc, .slice CA a3.length cc] 30))
      have HO6 := Lib.hid h1
      have HA6 := Lib.hid h2
      have HR6 := Lib.hid h3
      have xw : (w5.alloc (.cells #[.bool true, .slice MA (wants sg i).length mc, .slice CA a3.length cc] 30)).cell? ⟨gw, i - 1, none⟩ = some (.int .i64 (wantF sg i)) := by
        obtain ⟨g', c', e1, e2⟩ := row_nth h3.1 (wants_at sg (k := i) (i := i - 1) (by omega))
        rw [wants_len] at e1
        cases e1
        rw [show i - 1 + 1 = i from by omega] at e2
        exact e2
      have hng : wrap64 (-wantF sg i) = -wantF sg i := by have := HWA.out; unfold wrap64; omega
      have hal : a3.length ≤ 9223372036854775807 := rc.sees.len
      clear rm rc ho hS hM h1 h2 h3 HO4 HR4 HSV
      have hck : checkF [1, -wantF sg i] = true := by
        have := HWA.out
        unfold checkF rightF
        simp only [List.all_cons, List.all_nil, Bool.and_true, Bool.and_eq_true, decide_eq_true_eq]
        omega
      obtain ⟨w6, hw6⟩ : ∃ w6, w6 = w5.alloc (.cells #[.bool true, .slice MA (wants sg i).length mc, .slice CA a3.length cc] 30) := ⟨_, rfl⟩
      have hz6 : w6.heap.size = w5.heap.size + 1 := by rw [hw6]; simp
      have HO6' := Lib.hid (show Own w R5 w6 p s1 from hw6 ▸ HO6.out)
      have HA6' := Lib.hid (show AnsAt R5 w6 w5.heap.size (.slice MA (wants sg i).length mc) (.slice CA a3.length cc) ⟨true, wants sg i, a3⟩ from hw6 ▸ HA6.out)
      have HR6' := Lib.hid (show RowO w R5 w6 (.slice (some ⟨gw, 0, none⟩) i cw) (wants sg i) from hw6 ▸ HR6.out)
      have hf7 := frm_alloc w6 (.cells #[.int .i64 1, .int .i64 (-wantF sg i)] 3)
      have HO7 := Lib.hid (HO6'.out.frm0 hf7)
      have HA7 := Lib.hid (HA6'.out.frm0 hf7)
      have HR7 := Lib.hid (HR6'.out.frm0 hf7)
      have HSV := Lib.hid (solve_calls HO7.out.sol (.slice (some ⟨w6.heap.size, 0, none⟩) 2 2) [1, -wantF sg i] (sees_two (blk_new _)) (outOf_new (HO6'.out.fresh (Nat.le_refl _))) (by simp) hck 2000 0 _ _ HS2.out)
      rw [hz6] at HSV
      rw [hw6] at HSV HO7 HA7 HR7
      clear hf7 hw6 hz6 HO6 HA6 HR6 HO6' HA6' HR6' hck
      dsimp only
      go_wp2_with fail
      try rw [hng]
      refine HSV.out.mono ?_
      rintro e w8 ⟨vm2, vc2, R8, rfl, rm, rc, ho, hS, hM⟩
      obtain ⟨h1, h2⟩ := HO7.out.ans hS hM rm rc fun g hg => (ho g hg).1
      obtain ⟨MB, mb, rfl, _⟩ := sees_slice rm.sees
      obtain ⟨CB, cb, rfl, _⟩ := sees_slice rc.sees
      have hbl : b3.length ≤ 9223372036854775807 := rc.sees.len
      have h3 := (HR7.out.step hM).frm0 (frm_alloc w8 (.cells #[.bool false, .slice MB b2.length mb, .slice CB b3.length cb] 30))
      have h4 := (HA7.out.step hM).frm0 (frm_alloc w8 (.cells #[.bool false, .slice MB b2.length mb, .slice CB b3.length cb] 30))
      have HO9 := Lib.hid h1
      have HB9 := Lib.hid h2
      have HR9 := Lib.hid h3
      have HA9 := Lib.hid h4
      have x0 : (w8.alloc (.cells #[.bool false, .slice MB b2.length mb, .slice CB b3.length cb] 30)).cell? ⟨w5.heap.size, 0, none⟩ = some (.bool true) := blk_cell h4.blk 0
      have x1 : (w8.alloc (.cells #[.bool false, .slice MB b2.length mb, .slice CB b3.length cb] 30)).cell? ⟨w5.heap.size, 1, none⟩ = some (.slice MA (wants sg i).length mc) := blk_cell h4.blk 1
      have HSM := Lib.hid (same_eq (.slice MA (wants sg i).length mc) (.slice (some ⟨gw, 0, none⟩) i cw) (wants sg i) h4.model.sees h3.1.sees)
      clear rm rc ho hS hM h1 h2 h3 h4 HO7 HA7 HR7 HSV xw hng
      dsimp only
      go_wp2_with fail
      refine HSM.out.mono ?_
      rintro e w10 ⟨rfl, hf⟩
      have HB10 := Lib.hid (HB9.out.frm0 hf)
      have HF10 := Lib.hid (HO9.out.frm.trans hf fun _ _ e => e.elim)
      have y0 : w10.cell? ⟨w8.heap.size, 0, none⟩ = some (.bool false) := blk_cell HB10.out.blk 0
      have y2 : w10.cell? ⟨w8.heap.size, 2, none⟩ = some (.slice CB b3.length cb) := blk_cell HB10.out.blk 2
      have hle : (b3.length : Int) ≤ 2 := by have := HB2.out; omega
      clear hf HO9 HB9 HR9 HA9 HSM x0 x1
      dsimp only
      go_wp2
      go_ret
      exact ⟨rfl, HF10.out⟩
end SaW
end Go.Proofs.Ytfpjfogddepbkaa
/- The arguments of the laws, opened and shut again; from a walk to a row's post. -/
namespace Go.Proofs.Ytfpjfogddepbkaa
open Go.RowKit Go.Mem Go.Sat Go.ChangeShapes Go.WideShapes Go.ChangeAt Go.Deep
namespace SaW
def I64 (z : Int) : Prop := -9223372036854775808 ≤ z ∧ z ≤ 9223372036854775807
section
variable {H : Type} {enc : TypeId × Value → H} {P : Program} {w W W' : World} {base : Nat} {spare : Nat → Bool} {held : Bool}
theorem add_at {a : Addr} (h : a.spot = none) (j : Nat) : a.add j = ⟨a.block, a.off + j, none⟩ := by
  unfold Addr.add
  split
  · rename_i h0; subst h0; cases a; simp_all
  · rfl
theorem int_read {t : TypeId} {fuel : Nat} {v : Value} {x : DataW H × List MemPlace} (ht : P.underlying t = some (.int .i64)) (h : DataW.trod enc P w base spare held fuel t [v] = some x) : ∃ k, v = .int .i64 k ∧ I64 k := by
  obtain ⟨k, hk, _, hwf⟩ := DataW.trod_int ht h
  cases hk
  exact ⟨k, rfl, by simpa [I64, Lit.wf, IntKind.min, IntKind.max, IntKind.signed, IntKind.bits] using hwf⟩
end
section
variable {H : Type} {enc : TypeId × Value → H} {P : Program} {w W W' : World} {base : Nat} {spare : Nat → Bool} {held : Bool}
/-- A slice of one-cell elements: its elements, each one read. -/
theorem one_read {t e : TypeId} {fuel : Nat} {v : Value} {x : DataW H × List MemPlace} (ht : P.underlying t = some (.slice e)) (hc : P.cellsOf e = 1) (h : DataW.trod enc P w base spare held fuel t [v] = some x) :
    ∃ vs : List Value, SeesW w id v vs ∧ ∀ u ∈ vs, ∃ n y, DataW.trod enc P w base spare held n e [u] = some y := by
  rcases open_slice1 ht hc h with ⟨e1, _⟩ | ⟨a, len, cap, m, n, V, D, Pl, e1, hb, hl, hm, hmm, _, hx⟩
  · cases e1
    exact ⟨[], (Sees.weak (.inl ⟨rfl, rfl⟩)), fun u hu => by cases hu⟩
  · cases e1
    have hlm : len ≤ m := by rw [hmm]; split <;> omega
    refine ⟨(List.range len).map V, ?_, fun u hu => ?_⟩
    · refine ⟨some a, cap, by simp, by simp; omega, fun i x hi => ?_⟩
      · have hil : i < len := by have := (List.getElem?_eq_some_iff.1 hi).1; simpa using this
        have hs : a.spot = none := World.cell?_spot (by have := (hx 0 (by omega)).1; simpa [Addr.add] using this)
        refine ⟨a.block, a.off, by cases a; simp_all, ?_⟩
        rw [List.getElem?_map, List.getElem?_range hil] at hi
        cases hi
        have := (hx i (by omega)).1
        rw [add_at hs] at this
        exact this
    · obtain ⟨i, hi, rfl⟩ := List.mem_map.1 hu
      have := List.mem_range.1 hi
      exact ⟨n, _, (hx i (by omega)).2⟩
theorem sees_conv {α : Type} [Inhabited α] {e : α → Value} {Q : α → Prop} {v : Value} {vs : List Value} (h : SeesW w id v vs) (hc : ∀ u ∈ vs, ∃ x, u = e x ∧ Q x) : ∃ xs : List α, SeesW w e v xs ∧ ∀ x ∈ xs, Q x := by
  have hf : ∃ f : Value → α, ∀ u ∈ vs, u = e (f u) ∧ Q (f u) := by
    classical
    refine ⟨fun u => if hu : u ∈ vs then (hc u hu).choose else default, fun u hu => ?_⟩
    simp only [hu, dite_true]
    exact (hc u hu).choose_spec
  obtain ⟨f, hf⟩ := hf
  refine ⟨vs.map f, ?_, fun x hx => ?_⟩
  · obtain ⟨A, c, rfl, h2, h3⟩ := h
    refine ⟨A, c, by simp, by simpa using h2, fun i x hx => ?_⟩
    rw [List.getElem?_map] at hx
    obtain ⟨u, hu, rfl⟩ := Option.map_eq_some_iff.1 hx
    rw [← (hf u (List.mem_of_getElem? hu)).1]
    exact h3 i u hu
  · obtain ⟨u, hu, rfl⟩ := List.mem_map.1 hx
    exact (hf u hu).2
end
section
variable {H : Type} {enc : TypeId × Value → H} {w W W' : World} {base : Nat} {spare : Nat → Bool} {held : Bool}
theorem ints_read {fuel : Nat} {v : Value} {x : DataW H × List MemPlace} (h : DataW.trod enc Try.prog w base spare held fuel 26 [v] = some x) : ∃ zs : List Int, SeesW w iI v zs ∧ ∀ z ∈ zs, I64 z := by
  obtain ⟨vs, hs, hr⟩ := one_read Try.underlying26 (by kernel_rfl) h
  exact sees_conv (e := iI) hs fun u hu => by
    obtain ⟨n, y, hy⟩ := hr u hu
    exact int_read Try.underlying3 hy
theorem bools_read {fuel : Nat} {v : Value} {x : DataW H × List MemPlace} (h : DataW.trod enc Try.prog w base spare held fuel 22 [v] = some x) : ∃ bs : List Bool, SeesW w Value.bool v bs := by
  obtain ⟨vs, hs, hr⟩ := one_read Try.underlying22 (by kernel_rfl) h
  obtain ⟨bs, hb, _⟩ := sees_conv (e := Value.bool) (Q := fun _ => True) hs fun u hu => by
    obtain ⟨n, y, hy⟩ := hr u hu
    obtain ⟨b, hb, _⟩ := DataW.trod_bool Try.underlying4 hy
    cases hb
    exact ⟨b, rfl, trivial⟩
  exact ⟨bs, hb⟩
theorem lists_read {fuel : Nat} {v : Value} {x : DataW H × List MemPlace} (h : DataW.trod enc Try.prog w base spare held fuel 36 [v] = some x) : ∃ l : List (List Int), SeesL w v l ∧ ∀ c ∈ l, ∀ z ∈ c, I64 z := by
  obtain ⟨vs, hs, hr⟩ := one_read Try.underlying36 (by kernel_rfl) h
  have hf : ∃ f : Value → List Int, ∀ u ∈ vs, SeesW w iI u (f u) ∧ ∀ z ∈ f u, I64 z := by
    have hc : ∀ u ∈ vs, ∃ c : List Int, SeesW w iI u c ∧ ∀ z ∈ c, I64 z := fun u hu => by
      obtain ⟨n, y, hy⟩ := hr u hu
      exact ints_read hy
    classical
    refine ⟨fun u => if hu : u ∈ vs then (hc u hu).choose else [], fun u hu => ?_⟩
    simp only [hu, dite_true]
    exact (hc u hu).choose_spec
  obtain ⟨f, hf⟩ := hf
  refine ⟨vs.map f, ⟨vs, hs, by simp, fun i u c hu hc => ?_⟩, fun c hc => ?_⟩
  · rw [List.getElem?_map, hu] at hc
    cases hc
    exact (hf u (List.mem_of_getElem? hu)).1
  · obtain ⟨u, hu, rfl⟩ := List.mem_map.1 hc
    exact (hf u hu).2
theorem trod_later : ∀ {ts : List TypeId} {vs : List Value} {ds : List (DataW H)} {p : List MemPlace} {P : Program} {sp : Nat → Bool}, DataW.TrodAll enc P W 0 sp true ts vs ds p → Below W.heap.size W W' → (∀ q ∈ p, q.block < W.heap.size) → DataW.TrodAll enc P W' 0 sp true ts vs ds p
  | [], [], [], _, _, _, h, _, _ => h
  | _ :: _, _ :: _, _ :: _, _, _, _, ⟨p1, p2, ⟨n, hn⟩, h2, e⟩, hb, hlt => ⟨p1, p2, ⟨n, DataW.trod_carry n _ _ _ hn fun q hq => hb.same (hlt q (by rw [e]; exact List.mem_append_left _ hq))⟩, trod_later h2 hb fun q hq => hlt q (by rw [e]; exact List.mem_append_right _ hq), e⟩
/-- The arguments, read again behind a call that leaves all that was there as it was. -/
theorem args_again {ts : List TypeId} (hts : ∀ t ∈ ts, t < Try.prog.types.size) {vs : List Value} {ds : List (DataW H)} {p : List MemPlace} (h : DataW.TrodAll enc Try.prog W 0 (fun _ => true) true ts vs ds p) (hb : Below W.heap.size W W') (sp : Nat → Bool) (hsp : ∀ q ∈ p, sp q.block = true) :
    DataW.TrodAll enc Try.prog W' 0 sp true ts vs ds p :=
  trod_later (DataW.TrodAll.respare (kids_rows (by kernel_rfl) (by kernel_rfl)) (slices_full_of Try.prog (by kernel_rfl)) hts h hsp) hb h.lt
end
section
variable {H : Type} {enc : TypeId × Value → H} {P : Program}
/-- The row's last step: below the heap's old end all is as it was. -/
theorem post_below {f : Func} {s : ChangeSpec} {apart fresh handsOn again : Bool} {W W' : World} {args : Array Value} {v : Value} {ds gs : List (DataW H)} {before pa pv : List MemPlace}
    (hW : DataW.Whole enc P f.params.toList s.vars apart W args.toList ds gs before)
    (hres : ∀ (b : Nat) (sp : Nat → Bool) (hd : Bool), DataW.TrodAll enc P W' b sp hd f.resultTypes.toList (v.resultList f.resultTypes.size) (s.fn H (ds ++ gs)).results [])
    (hargs : ∀ sp : Nat → Bool, (∀ p ∈ before, sp p.block = true) → DataW.TrodAll enc P W' 0 sp true f.params.toList args.toList (s.fn H (ds ++ gs)).args pa)
    (hvars : ∀ sp : Nat → Bool, (∀ p ∈ before, sp p.block = true) → DataW.TrodVars enc P W' sp s.vars (s.fn H (ds ++ gs)).vars pv)
    (hps : before = pa ++ pv) (hb : Below W.heap.size W W')
    (hok : ∀ (j : Nat) (t : TypeId) (r : Value), f.resultTypes[j]? = some t → (v.resultList f.resultTypes.size)[j]? = some r → Value.okWide P W' .any 0 t r) : s.post enc P f apart fresh handsOn again W args v W' := by
  have hlt := hW.lt
  have hold : ∀ p ∈ before, (fun b => decide (b < W.heap.size)) p.block = true := fun p hp => by simpa using hlt p hp
  refine ⟨ds, gs, before, [], pa, pv, hW, hres _ _ _, hargs _ hold, hvars _ hold, World.keptBut_mono (fun p hp => ⟨hp, .inr (by rw [hps, List.mem_append] at hp; exact hp)⟩) (hb.frame (· ∈ before)), fun _ => ?_⟩
  obtain ⟨_, _, _, _, _, hz, hn⟩ := hW
  refine ⟨hok, _, _, ([] ++ pa) ++ pv, ⟨[] ++ pa, pv, trodAll_append (hargs _ (fun _ _ => rfl)) (hres _ _ _), hvars _ (fun _ _ => rfl), rfl, fun b off hp => ?_, fun ha => ?_⟩, fun p hp _ => by rw [hps]; simpa using hp⟩
  · have hin : MemPlace.cell b off ∈ before := by rw [hps]; simpa using hp
    rw [hb.frozen (hlt _ hin)]
    exact hz b off hin
  · have := hn ha
    rw [hps] at this
    simpa using this
end
theorem own_knob : ownKnob Try.prog.godebug = none := by kernel_rfl
end SaW
end Go.Proofs.Ytfpjfogddepbkaa
namespace Go.Proofs.Ytfpjfogddepbkaa
open Go.RowKit Go.Mem Go.Sat Go.ChangeShapes Go.WideShapes Go.ChangeAt Go.Deep
namespace SaW
set_option maxRecDepth 100000 in
theorem satChains_lifted (os : Os) (started : os.Started) (H : Type) (enc : TypeId × Value → H) :
    ReturnsInHanded {} Try.checked os 3 .any (Rows.satChainsSpec.pre6 enc Try.prog Try.f3 Rows.satChainsRow.domain false) (Rows.satChainsSpec.post enc Try.prog Try.f3 false true false false) := by
  refine returnsInHanded_of_change (C := Try.checked) own_knob started (by kernel_rfl) Try.func3
    (ChangeSpec.witness6 (enc := enc) (C := Try.checked) false ⟨#[], #[.int .u8 0, .slice none 0 0], []⟩ 8 (by kernel_rfl) (by kernel_rfl) (by kernel_rfl) (by kernel_rfl)) ?_
  intro W base args ds gs before hval0 hW hcnd _
  have hval : ∀ (j : Nat) t v, Try.f3.params[j]? = some t → args[j]? = some v → Value.okWide Try.prog W .any base t v := hval0
  have hW' := hW
  obtain ⟨p, q, hA0, hV, rfl, hfz, hnd⟩ := hW
  have hA : DataW.TrodAll enc Try.prog W 0 (fun _ => true) true Try.f3.params.toList args.toList ds p := hA0
  have hAk := hA
  rw [Try.params3] at hA hval
  obtain ⟨v0, v1, d0, d1, p0, p1, rfl, rfl, rfl, h0, h1⟩ := trodAll_two hA
  obtain ⟨rfl, rfl⟩ := trodVars_none hV
  obtain ⟨a0, rfl, rfl, rfl, w0⟩ := open_int Try.underlying5 (hval 0 5 v0 rfl rfl) h0
  have hx : 0 ≤ a0 ∧ a0 ≤ 255 := by simpa [Lit.wf, IntKind.min, IntKind.max, IntKind.signed, IntKind.bits] using w0
  obtain ⟨a1, b1, c1, rfl⟩ := okWide_slice Try.underlying22 (hval 1 22 v1 rfl rfl)
  obtain ⟨n1, hn1⟩ := h1
  obtain ⟨bs, hb⟩ := bools_read hn1
  clear hA0 hval0
  simp only [List.append_nil] at hW'
  refine (chains_walk W a0 hx _ bs hb).mono fun e W' ⟨he, hf⟩ => ?_
  subst he
  have hbl := hf.below
  exact ⟨_, rfl, post_below (pa := _) (pv := []) hW' (fun _ _ _ => trodAll_mk1 (shut_bool Try.underlying4 _)) (fun sp hsp => args_again (by rw [Try.params3]; decide) hAk hbl sp (by simpa using hsp)) (fun _ _ => rfl) (by simp) hbl (ok_one (by kernel_rfl) rfl (okWide_bool_mk Try.underlying4 _))⟩
theorem satChains_row : Rows.SatChainsSaid :=
  OpenClaim.holds_of_wide 3 Try.f3 rfl rfl rfl rfl rfl rfl rfl ⟨rfl, rfl, rfl, rfl, rfl⟩ rfl rfl rfl rfl rfl (by kernel_rfl) Try.func3 (by kernel_rfl)
    (of_decide_eq_true (by kernel_rfl)) (by unfold Func.isWrapper; first | (rw [if_pos (by decide +kernel)]; kernel_rfl) | (rw [if_neg (by decide +kernel)]; exact ⟨rfl, rfl⟩))
    (fun os started H enc _ => satChains_lifted os started H enc)
end SaW
theorem satChains_holds : Rows.SatChainsSaid := SaW.satChains_row
#print axioms satChains_holds
end Go.Proofs.Ytfpjfogddepbkaa
