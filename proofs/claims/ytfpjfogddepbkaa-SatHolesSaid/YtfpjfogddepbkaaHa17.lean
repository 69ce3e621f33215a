/- SatHoles: pigeons don't fit in fewer holes. No condition. -/
import Derived.Test.YtfpjfogddepbkaaHa16
import Derived.Test.YtfpjfogddepbkaaChecked
import Derived.Test.YtfpjfogddepbkaaRows
import Derived.Deep.Slices
import Derived.Deep.Fields
import Derived.Deep.Grids
import Derived.ChangeSame
import Derived.ChangeAlike
import Derived.ReadAgain
import Derived.Below
import Derived.ProofKit
import Derived.OpenShut
set_option linter.unusedSimpArgs false
set_option linter.unusedVariables false
/- Pigeons and holes, walked. -/
namespace Go.Proofs.Ytfpjfogddepbkaa
open Go.RowKit Go.Mem Go.Sat
namespace SaW
theorem atF_neg {k p h : Nat} (hk : k ≤ 5) (hp : p < k) (hh : h < k - 1) : wrap64 (-atF k p h) = -atF k p h := by
  have := atF_bound hk hp hh
  unfold atF wrap64
  omega
theorem atF_right {k p h : Nat} (hk : k ≤ 5) (hp : p < k) (hh : h < k - 1) : rightF (atF k p h) = true ∧ rightF (-atF k p h) = true := by
  have := atF_bound hk hp hh
  unfold rightF atF
  simp only [decide_eq_true_eq]
  omega
theorem rowF_right {k p h : Nat} (hk : k ≤ 5) (hp : p < k) (hh : h ≤ k - 1) : checkF (rowF k p h) = true := by
  unfold checkF rowF
  rw [List.all_eq_true]
  intro x hx
  obtain ⟨i, hi, rfl⟩ := List.mem_map.1 hx
  have := List.mem_range.1 hi
  exact (atF_right hk hp (by omega)).1
/-- A row of the call's own, none of the solver's. -/
def RowO (w : World) (R : Nat → Option Role) (w' : World) (v : Value) (l : List Int) : Prop := Row w' 3 iI v l ∧ ∀ g, v.ownBlock = some g → R g = none ∧ w.heap.size ≤ g
section
variable {w w1 w2 : World} {R R' : Nat → Option Role} {p : Nat} {s s' : St} {v v' : Value} {l l' : List Int}
theorem Own.side {S : Nat → Prop} (h : Own w R w1 p s) (hf : Frm S w1 w2) (hS : ∀ b, S b → R b = none ∧ w.heap.size ≤ b) : Own w R w2 p s :=
  ⟨h.sol.frm hf (fun b r hr e => (by rw [(hS b e).1] at hr; cases hr)), h.frm.trans hf (fun x hx e => (by have := (hS x e).2; omega)), h.new⟩
theorem RowO.step {T : Role → Prop} (h : RowO w R w1 v l) (hM : SMov T R w1 R' w2) : RowO w R' w2 v l :=
  ⟨Row.keep h.1 (fun g hg => (h.2 g hg).1) hM, fun g hg => ⟨hM.out (h.1.lt g hg) (h.2 g hg).1, (h.2 g hg).2⟩⟩
theorem RowO.frm0 (h : RowO w R w1 v l) (hf : Frm (fun _ => False) w1 w2) : RowO w R w2 v l := ⟨h.1.frm hf fun _ _ => id, h.2⟩
theorem RowO.out (h : RowO w R w1 v l) : OutOf R v := fun g hg => by
  obtain ⟨o, n, c, rfl⟩ := hg
  rcases h.1.shape with ⟨e, _⟩ | ⟨g', c', e, e2, _⟩
  · cases e
  · cases e
    exact (h.2 g e2).1
/-- append onto a row of the call's own. -/
theorem RowO.append (h : RowO w R w1 v l) (hO : Own w R w1 p s) (hf : Frm (fun b => v.ownBlock = some b) w1 w2) (hrow : Row w2 3 iI v' l') (hg : ∀ g, v'.ownBlock = some g → v.ownBlock = some g ∨ w1.heap.size ≤ g) : Own w R w2 p s ∧ RowO w R w2 v' l' :=
  ⟨hO.side hf h.2, hrow, fun g e => (hg g e).elim (h.2 g) fun e => ⟨hO.fresh e, Nat.le_trans hO.frm.size e⟩⟩
theorem RowO.empty (hO : Own w R w1 p s) : RowO w R (w1.alloc (.cells #[] 3)) (.slice (some ⟨w1.heap.size, 0, none⟩) 0 0) [] :=
  ⟨row_empty (blk_new _), fun g e => by cases e; exact ⟨hO.fresh (Nat.le_refl _), hO.frm.size⟩⟩
end
set_option maxRecDepth 100000 in
set_option maxHeartbeats 4000000 in
theorem holes_walk (w : World) (n : Int) (hn : 0 ≤ n ∧ n ≤ 255) : Calls Try.prog 6 #[.int .u8 n] w fun e w' => e = .returned (.bool true) ∧ Frm (fun _ => False) w w' := by
  obtain ⟨i0, hi, hz0, hz1, hz2⟩ := info_parts info_int
  obtain ⟨k, hk⟩ : ∃ k : Nat, (k : Int) = 2 + n % 4 := ⟨(2 + n % 4).toNat, by omega⟩
  have hk2 : 2 ≤ k := by omega
  have hk5 : k ≤ 5 := by omega
  have HKN : Hid (2 + n % 4 = (k : Int)) := Lib.hid hk.symm
  obtain ⟨s, s', hs1, hs2⟩ := holes_run k hk2 hk5
  have HS1 := Lib.hid hs1
  have HS2 := Lib.hid hs2
  have HAW := Lib.hid (fun W => awake_calls W)
  have HNW := Lib.hid (fun W => new_calls W)
  clear hk hs1 hs2
  go_enter Try.func6, Try.ntmps6
  go_wp2_with fail
  rw [HKN.out]
  clear HKN hn
  refine (HNW.out _).mono ?_
  rintro e w2 ⟨p, R2, rfl, hS, hF, hnew⟩
  obtain ⟨w1, hw1⟩ : ∃ w1, w1 = w.alloc (.cells #[.int .i64 (k : Int)] 3) := ⟨_, rfl⟩
  rw [← hw1] at hF hnew
  have HO2 := Lib.hid (show Own w1 R2 w2 p Sat.new from ⟨hS, hF, hnew⟩)
  have HW1 : Hid (w1.heap[w.heap.size]? = some (.cells #[.int .i64 (k : Int)] 3)) := Lib.hid (by rw [hw1]; exact blk_new _)
  have HF1 : Hid (Frm (fun _ => False) w w1) := Lib.hid (by rw [hw1]; exact frm_alloc w _)
  clear hS hF hnew hw1 HNW
  dsimp only
  go_wp2_with fail
  refine (HAW.out _).mono ?_
  rintro e w3 ⟨rfl, hf⟩
  have HO3 := Lib.hid (HO2.out.frm0 hf)
  clear hf HO2 HAW
  dsimp only
  go_wp2_with fail
  go_loopw [6] (fun v6 w' => ∃ j : Nat, v6 = .int .i64 j ∧ j ≤ k ∧ ∃ sj Rj, Hid (addsF 100 sj (remP k j) = some s) ∧ Hid (Own w1 Rj w' p sj)) (fun v6 _ => k - (intOf v6).toNat)
  case atStart => exact ⟨0, rfl, by omega, _, R2, HS1, HO3⟩
  case round =>
    obtain ⟨j, rfl, hj, sj, Rj, HG, HOj⟩ := hrel
    clear HO3 HS1
    have ck : wr.cell? ⟨w.heap.size, 0, none⟩ = some (.int .i64 (k : Int)) := (World.cell?_of_block (HOj.out.frm.block _ (lt_of_block HW1.out) id)).trans (blk_cell HW1.out 0)
    by_cases hjl : j < k
    · have hjI : (j : Int) < (k : Int) := by omega
      have HG2 : Hid (addsF 100 sj (remH k j 0 ++ ([rowF k j (k - 1)] ++ remP k (j + 1))) = some s) := Lib.hid (by rw [← remP_step hjl]; exact HG.out)
      clear HG
      go_wp2_with fail
      have hf4 := frm_alloc wr (.cells #[] 3)
      have HO4 := Lib.hid (HOj.out.frm0 hf4)
      have HR4 : Hid (RowO w1 Rj (wr.alloc (.cells #[] 3)) (.slice (some ⟨wr.heap.size, 0, none⟩) 0 0) (rowF k j 0)) := Lib.hid (RowO.empty HOj.out)
      clear hf4 ck HOj
      go_loopw [7, 8] (fun v7 v8 w' => ∃ h : Nat, v8 = .int .i64 h ∧ h ≤ k - 1 ∧ ∃ sj Rj, Hid (addsF 100 sj (remH k j h ++ ([rowF k j (k - 1)] ++ remP k (j + 1))) = some s) ∧ Hid (Own w1 Rj w' p sj) ∧ Hid (RowO w1 Rj w' v7 (rowF k j h))) (fun _ v8 _ => k - (intOf v8).toNat)
      case atStart => exact ⟨0, rfl, by omega, sj, Rj, HG2, HO4, HR4⟩
      case round =>
        obtain ⟨h, rfl, hh, sh, Rh, HGh, HOh, HRh⟩ := hrel
        clear HG2 HO4 HR4
        have ck : wr.cell? ⟨w.heap.size, 0, none⟩ = some (.int .i64 (k : Int)) := (World.cell?_of_block (HOh.out.frm.block _ (lt_of_block HW1.out) id)).trans (blk_cell HW1.out 0)
        by_cases hhl : h < k - 1
        · have hhI : (h : Int) < (k : Int) - 1 := by omega
          go_wp2_with fail
          refine (at_calls wr w.heap.size k j h hk5 hk2 hjl hhl ck).mono ?_
          rintro e w5 ⟨rfl, hw5⟩
          rw [hw5]
          clear hw5 w5
          dsimp only
          have HR5 := Lib.hid (HRh.out.1.frm (frm_alloc wr (.cells #[.int .i64 (atF k j h)] 3)) fun _ _ => id)
          go_wp2_with (first | (at_builtin; refine wpList_append_row rfl _ _ 26 rfl 3 i0 (.int .i64 0) 8 Try.underlying26 hi hz0 hz1 hz2 rfl (enc := iI) u7 (rowF k j h) rfl HR5.out ⟨wr.heap.size, 0, none⟩ 1 (atF k j h) rfl ?c1 rfl ?c2 ?c3 ?_) | fail)
          case c1 => exact blk_cell (blk_new _) 0
          case c2 => simp [rowF]; have : maxLen = 9223372036854775807 := rfl; omega
          case c3 => simp [rowF]; omega
          intro g6 cap6 w6 hr6 hf6 hg6 hl6
          obtain ⟨ho6, hro6⟩ := (HRh.out.frm0 (frm_alloc wr (.cells #[.int .i64 (atF k j h)] 3))).append (HOh.out.frm0 (frm_alloc wr _)) hf6 hr6 fun g e => by
            cases e
            rcases hg6 with e | e
            · exact .inl e
            · exact .inr (by rw [e]; simp)
          rw [← rowF_succ] at hro6
          have HO6 := Lib.hid ho6
          have HR6 := Lib.hid hro6
          clear hr6 hf6 hg6 hl6 ho6 hro6 HR5 HOh HRh ck
          go_wp2_with fail
          have HG9 : Hid (addsF 100 sh (remQ k j h 0 ++ (remH k j (h + 1) ++ ([rowF k j (k - 1)] ++ remP k (j + 1)))) = some s) := Lib.hid (by
            have e := HGh.out
            rw [remH_step hhl, List.append_assoc] at e
            exact e)
          clear HGh
          go_loopw [9] (fun v9 w' => ∃ q : Nat, v9 = .int .i64 q ∧ q ≤ j ∧ ∃ sq Rq, Hid (addsF 100 sq (remQ k j h q ++ (remH k j (h + 1) ++ ([rowF k j (k - 1)] ++ remP k (j + 1)))) = some s) ∧ Hid (Own w1 Rq w' p sq) ∧ Hid (RowO w1 Rq w' (.slice (some ⟨g6, 0, none⟩) ((rowF k j h).length + 1) cap6) (rowF k j (h + 1)))) (fun v9 _ => j - (intOf v9).toNat)
          case atStart => exact ⟨0, rfl, by omega, sh, Rh, HG9, HO6, HR6⟩
          case round =>
            obtain ⟨q, rfl, hq, sq, Rq, HGq, HOq, HRq⟩ := hrel
            clear HG9 HO6 HR6
            have ck : wr.cell? ⟨w.heap.size, 0, none⟩ = some (.int .i64 (k : Int)) := (World.cell?_of_block (HOq.out.frm.block _ (lt_of_block HW1.out) id)).trans (blk_cell HW1.out 0)
            by_cases hql : q < j
            · have hqI : (q : Int) < (j : Int) := by omega
              have hqk : q < k := by omega
              obtain ⟨s7, had, hre⟩ := adds_cons (show addsF 100 sq (_ :: _) = some s by
                have e := HGq.out
                rw [remQ_step hql] at e
                exact e)
              have HAD := Lib.hid had
              have HRE := Lib.hid hre
              have n1 := atF_neg hk5 hjl hhl
              have n2 := atF_neg hk5 hqk hhl
              clear had hre HGq
              go_wp2_with fail
              refine (at_calls wr w.heap.size k j h hk5 hk2 hjl hhl ck).mono ?_
              rintro e w5 ⟨rfl, hw5⟩
              rw [hw5]
              clear hw5 w5
              dsimp only
              go_wp2_with fail
              refine (at_calls wr w.heap.size k q h hk5 hk2 hqk hhl ck).mono ?_
              rintro e w5 ⟨rfl, hw5⟩
              rw [hw5]
              clear hw5 w5
              dsimp only
              have hf7 := frm_alloc wr (.cells #[.int .i64 (-atF k j h), .int .i64 (-atF k q h)] 3)
              have HO7 := Lib.hid (HOq.out.frm0 hf7)
              have HR7 := Lib.hid (HRq.out.frm0 hf7)
              have HAC := Lib.hid (add_calls HO7.out.sol (.slice (some ⟨wr.heap.size, 0, none⟩) 2 2) [-atF k j h, -atF k q h] (sees_two (blk_new _)) (outOf_new (HOq.out.fresh (Nat.le_refl _))) (by simp) (by unfold checkF; simp [(atF_right hk5 hjl hhl).2, (atF_right hk5 hqk hhl).2]) 100 HAD.out)
              clear hf7 HOq HRq
              go_wp2_with fail
              refine HAC.out.mono ?_
              rintro e w8 ⟨rfl, R8, hS, hM⟩
              have HO8 := Lib.hid (HO7.out.step hS hM)
              have HR8 := Lib.hid (HR7.out.step hM)
              clear hS hM HO7 HR7 HAC n1 n2 ck
              dsimp only
              go_wp2
              go_roundw
              case rel => exact ⟨q + 1, rfl, hql, s7, R8, HRE, HO8, HR8⟩
              case measure => simp only [intOf]; omega
            · have hqI : ¬ (q : Int) < (j : Int) := by omega
              obtain rfl : q = j := by omega
              have HG10 : Hid (addsF 100 sq (remH k q (h + 1) ++ ([rowF k q (k - 1)] ++ remP k (q + 1))) = some s) := Lib.hid (by
                have e := HGq.out
                rw [remQ_done] at e
                exact e)
              clear HGq ck
              go_wp2
              go_roundw
              case rel => exact ⟨h + 1, rfl, hhl, sq, Rq, HG10, HOq, HRq⟩
              case measure => simp only [intOf]; omega
        · have hhI : ¬ (h : Int) < (k : Int) - 1 := by omega
          obtain rfl : h = k - 1 := by omega
          obtain ⟨s7, had, hre⟩ := adds_cons (show addsF 100 sh (_ :: _) = some s by
            have e := HGh.out
            rw [remH_done (Nat.le_refl _)] at e
            exact e)
          have HAD := Lib.hid had
          have HRE := Lib.hid hre
          have HAC := Lib.hid (add_calls HOh.out.sol u7 (rowF k j (k - 1)) HRh.out.1.sees HRh.out.out (by simp [rowF]; omega) (rowF_right hk5 hjl (Nat.le_refl _)) 100 HAD.out)
          clear had hre HGh
          go_wp2_with fail
          refine HAC.out.mono ?_
          rintro e w8 ⟨rfl, R8, hS, hM⟩
          have HO8 := Lib.hid (HOh.out.step hS hM)
          clear hS hM HOh HRh HAC ck
          dsimp only
          go_wp2
          go_roundw
          case rel => exact ⟨j + 1, rfl, hjl, s7, R8, HRE, HO8⟩
          case measure => simp only [intOf]; omega
    · have hjI : ¬ (j : Int) < (k : Int) := by omega
      have e := HG.out
      rw [remP_done (by omega)] at e
      cases e
      clear HG
      have HSV := Lib.hid (solve_calls HOj.out.sol (.slice none 0 0) [] (sees_nil _ _) outOf_nil (by decide) rfl 100 0 _ _ HS2.out)
      go_wp2_with fail
      refine HSV.out.mono ?_
      rintro e w6 ⟨vm1, vc1, R6, rfl, rm, rc, ho, hS, hM⟩
      obtain ⟨h1, h2⟩ := HOj.out.ans hS hM rm rc fun g hg => (ho g hg).1
      have HO6 := Lib.hid h1
      have HA6 := Lib.hid h2
      obtain ⟨MA, mc, rfl, _⟩ := sees_slice rm.sees
      obtain ⟨CA, cc, rfl, _⟩ := sees_slice rc.sees
      have HL := Lib.hid (learnt_calls h1.sol)
      have hge : (0 : Int) ≤ (s'.learnt.length : Nat) := by omega
      clear rm rc ho hS hM h1 h2 HOj HSV ck
      dsimp only
      go_wp2_with fail
      refine HL.out.mono ?_
      rintro e w7 ⟨rfl, hf⟩
      have HF := Lib.hid ((HF1.out.trans HO6.out.frm fun _ _ e => e.elim).trans hf fun _ _ e => e.elim)
      clear hf HO6 HA6 HL
      dsimp only
      go_wp2
      go_ret
      exact ⟨rfl, HF.out⟩
end SaW
end Go.Proofs.Ytfpjfogddepbkaa
/- The arguments of the laws, opened and shut again; from a walk to a row's post. -/
namespace Go.Proofs.Ytfpjfogddepbkaa
open Go.RowKit Go.Mem Go.Sat Go.ChangeShapes Go.WideShapes Go.ChangeAt Go.Deep
namespace SaW
def I64 (z : Int) : Prop := -9223372036854775808 ≤ z ∧ z ≤ 9223372036854775807
section
variable {H : Type} {enc : TypeId × Value → H} {P : Program} {w W W' : World} {base : Nat} {spare : Nat → Bool} {held : Bool}
theorem add_at {a : Addr} (h : a.spot = none) (j : Nat) : a.add j = ⟨a.block, a.off + j, none⟩ := by
  unfold Addr.add
  split
  · rename_i h0; subst h0; cases a; simp_all
  · rfl
theorem int_read {t : TypeId} {fuel : Nat} {v : Value} {x : DataW H × List MemPlace} (ht : P.underlying t = some (.int .i64)) (h : DataW.trod enc P w base spare held fuel t [v] = some x) : ∃ k, v = .int .i64 k ∧ I64 k := by
  obtain ⟨k, hk, _, hwf⟩ := DataW.trod_int ht h
  cases hk
  exact ⟨k, rfl, by simpa [I64, Lit.wf, IntKind.min, IntKind.max, IntKind.signed, IntKind.bits] using hwf⟩
end
section
variable {H : Type} {enc : TypeId × Value → H} {P : Program} {w W W' : World} {base : Nat} {spare : Nat → Bool} {held : Bool}
/-- A slice of one-cell elements: its elements, each one read. -/
theorem one_read {t e : TypeId} {fuel : Nat} {v : Value} {x : DataW H × List MemPlace} (ht : P.underlying t = some (.slice e)) (hc : P.cellsOf e = 1) (h : DataW.trod enc P w base spare held fuel t [v] = some x) :
    ∃ vs : List Value, SeesW w id v vs ∧ ∀ u ∈ vs, ∃ n y, DataW.trod enc P w base spare held n e [u] = some y := by
  rcases open_slice1 ht hc h with ⟨e1, _⟩ | ⟨a, len, cap, m, n, V, D, Pl, e1, hb, hl, hm, hmm, _, hx⟩
  · cases e1
    exact ⟨[], (Sees.weak (.inl ⟨rfl, rfl⟩)), fun u hu => by cases hu⟩
  · cases e1
    have hlm : len ≤ m := by rw [hmm]; split <;> omega
    refine ⟨(List.range len).map V, ?_, fun u hu => ?_⟩
    · refine ⟨some a, cap, by simp, by simp; omega, fun i x hi => ?_⟩
      · have hil : i < len := by have := (List.getElem?_eq_some_iff.1 hi).1; simpa using this
        have hs : a.spot = none := World.cell?_spot (by have := (hx 0 (by omega)).1; simpa [Addr.add] using this)
        refine ⟨a.block, a.off, by cases a; simp_all, ?_⟩
        rw [List.getElem?_map, List.getElem?_range hil] at hi
        cases hi
        have := (hx i (by omega)).1
        rw [add_at hs] at this
        exact this
    · obtain ⟨i, hi, rfl⟩ := List.mem_map.1 hu
      have := List.mem_range.1 hi
      exact ⟨n, _, (hx i (by omega)).2⟩
theorem sees_conv {α : Type} [Inhabited α] {e : α → Value} {Q : α → Prop} {v : Value} {vs : List Value} (h : SeesW w id v vs) (hc : ∀ u ∈ vs, ∃ x, u = e x ∧ Q x) : ∃ xs : List α, SeesW w e v xs ∧ ∀ x ∈ xs, Q x := by
  have hf : ∃ f : Value → α, ∀ u ∈ vs, u = e (f u) ∧ Q (f u) := by
    classical
    refine ⟨fun u => if hu : u ∈ vs then (hc u hu).choose else default, fun u hu => ?_⟩
    simp only [hu, dite_true]
    exact (hc u hu).choose_spec
  obtain ⟨f, hf⟩ := hf
  refine ⟨vs.map f, ?_, fun x hx => ?_⟩
  · obtain ⟨A, c, rfl, h2, h3⟩ := h
    refine ⟨A, c, by simp, by simpa using h2, fun i x hx => ?_⟩
    rw [List.getElem?_map] at hx
    obtain ⟨u, hu, rfl⟩ := Option.map_eq_some_iff.1 hx
    rw [← (hf u (List.mem_of_getElem? hu)).1]
    exact h3 i u hu
  · obtain ⟨u, hu, rfl⟩ := List.mem_map.1 hx
    exact (hf u hu).2
end
section
variable {H : Type} {enc : TypeId × Value → H} {w W W' : World} {base : Nat} {spare : Nat → Bool} {held : Bool}
theorem ints_read {fuel : Nat} {v : Value} {x : DataW H × List MemPlace} (h : DataW.trod enc Try.prog w base spare held fuel 26 [v] = some x) : ∃ zs : List Int, SeesW w iI v zs ∧ ∀ z ∈ zs, I64 z := by
  obtain ⟨vs, hs, hr⟩ := one_read Try.underlying26 (by kernel_rfl) h
  exact sees_conv (e := iI) hs fun u hu => by
    obtain ⟨n, y, hy⟩ := hr u hu
    exact int_read Try.underlying3 hy
theorem bools_read {fuel : Nat} {v : Value} {x : DataW H × List MemPlace} (h : DataW.trod enc Try.prog w base spare held fuel 22 [v] = some x) : ∃ bs : List Bool, SeesW w Value.bool v bs := by
  obtain ⟨vs, hs, hr⟩ := one_read Try.underlying22 (by kernel_rfl) h
  obtain ⟨bs, hb, _⟩ := sees_conv (e := Value.bool) (Q := fun _ => True) hs fun u hu => by
    obtain ⟨n, y, hy⟩ := hr u hu
    obtain ⟨b, hb, _⟩ := DataW.trod_bool Try.underlying4 hy
    cases hb
    exact ⟨b, rfl, trivial⟩
  exact ⟨bs, hb⟩
theorem lists_read {fuel : Nat} {v : Value} {x : DataW H × List MemPlace} (h : DataW.trod enc Try.prog w base spare held fuel 36 [v] = some x) : ∃ l : List (List Int), SeesL w v l ∧ ∀ c ∈ l, ∀ z ∈ c, I64 z := by
  obtain ⟨vs, hs, hr⟩ := one_read Try.underlying36 (by kernel_rfl) h
  have hf : ∃ f : Value → List Int, ∀ u ∈ vs, SeesW w iI u (f u) ∧ ∀ z ∈ f u, I64 z := by
    have hc : ∀ u ∈ vs, ∃ c : List Int, SeesW w iI u c ∧ ∀ z ∈ c, I64 z := fun u hu => by
      obtain ⟨n, y, hy⟩ := hr u hu
      exact ints_read hy
    classical
    refine ⟨fun u => if hu : u ∈ vs then (hc u hu).choose else [], fun u hu => ?_⟩
    simp only [hu, dite_true]
    exact (hc u hu).choose_spec
  obtain ⟨f, hf⟩ := hf
  refine ⟨vs.map f, ⟨vs, hs, by simp, fun i u c hu hc => ?_⟩, fun c hc => ?_⟩
  · rw [List.getElem?_map, hu] at hc
    cases hc
    exact (hf u (List.mem_of_getElem? hu)).1
  · obtain ⟨u, hu, rfl⟩ := List.mem_map.1 hc
    exact (hf u hu).2
theorem trod_later : ∀ {ts : List TypeId} {vs : List Value} {ds : List (DataW H)} {p : List MemPlace} {P : Program} {sp : Nat → Bool}, DataW.TrodAll enc P W 0 sp true ts vs ds p → Below W.heap.size W W' → (∀ q ∈ p, q.block < W.heap.size) → DataW.TrodAll enc P W' 0 sp true ts vs ds p
  | [], [], [], _, _, _, h, _, _ => h
  | _ :: _, _ :: _, _ :: _, _, _, _, ⟨p1, p2, ⟨n, hn⟩, h2, e⟩, hb, hlt => ⟨p1, p2, ⟨n, DataW.trod_carry n _ _ _ hn fun q hq => hb.same (hlt q (by rw [e]; exact List.mem_append_left _ hq))⟩, trod_later h2 hb fun q hq => hlt q (by rw [e]; exact List.mem_append_right _ hq), e⟩
/-- The arguments, read again behind a call that leaves all that was there as it was. -/
theorem args_again {ts : List TypeId} (hts : ∀ t ∈ ts, t < Try.prog.types.size) {vs : List Value} {ds : List (DataW H)} {p : List MemPlace} (h : DataW.TrodAll enc Try.prog W 0 (fun _ => true) true ts vs ds p) (hb : Below W.heap.size W W') (sp : Nat → Bool) (hsp : ∀ q ∈ p, sp q.block = true) :
    DataW.TrodAll enc Try.prog W' 0 sp true ts vs ds p :=
  trod_later (DataW.TrodAll.respare (kids_rows (by kernel_rfl) (by kernel_rfl)) (slices_full_of Try.prog (by kernel_rfl)) hts h hsp) hb h.lt
end
section
variable {H : Type} {enc : TypeId × Value → H} {P : Program}
/-- The row's last step: below the heap's old end all is as it was. -/
theorem post_below {f : Func} {s : ChangeSpec} {apart fresh handsOn again : Bool} {W W' : World} {args : Array Value} {v : Value} {ds gs : List (DataW H)} {before pa pv : List MemPlace}
    (hW : DataW.Whole enc P f.params.toList s.vars apart W args.toList ds gs before)
    (hres : ∀ (b : Nat) (sp : Nat → Bool) (hd : Bool), DataW.TrodAll enc P W' b sp hd f.resultTypes.toList (v.resultList f.resultTypes.size) (s.fn H (ds ++ gs)).results [])
    (hargs : ∀ sp : Nat → Bool, (∀ p ∈ before, sp p.block = true) → DataW.TrodAll enc P W' 0 sp true f.params.toList args.toList (s.fn H (ds ++ gs)).args pa)
    (hvars : ∀ sp : Nat → Bool, (∀ p ∈ before, sp p.block = true) → DataW.TrodVars enc P W' sp s.vars (s.fn H (ds ++ gs)).vars pv)
    (hps : before = pa ++ pv) (hb : Below W.heap.size W W')
    (hok : ∀ (j : Nat) (t : TypeId) (r : Value), f.resultTypes[j]? = some t → (v.resultList f.resultTypes.size)[j]? = some r → Value.okWide P W' .any 0 t r) : s.post enc P f apart fresh handsOn again W args v W' := by
  have hlt := hW.lt
  have hold : ∀ p ∈ before, (fun b => decide (b < W.heap.size)) p.block = true := fun p hp => by simpa using hlt p hp
  refine ⟨ds, gs, before, [], pa, pv, hW, hres _ _ _, hargs _ hold, hvars _ hold, World.keptBut_mono (fun p hp => ⟨hp, .inr (by rw [hps, List.mem_append] at hp; exact hp)⟩) (hb.frame (· ∈ before)), fun _ => ?_⟩
  obtain ⟨_, _, _, _, _, hz, hn⟩ := hW
  refine ⟨hok, _, _, ([] ++ pa) ++ pv, ⟨[] ++ pa, pv, trodAll_append (hargs _ (fun _ _ => rfl)) (hres _ _ _), hvars _ (fun _ _ => rfl), rfl, fun b off hp => ?_, fun ha => ?_⟩, fun p hp _ => by rw [hps]; simpa using hp⟩
  · have hin : MemPlace.cell b off ∈ before := by rw [hps]; simpa using hp
    rw [hb.frozen (hlt _ hin)]
    exact hz b off hin
  · have := hn ha
    rw [hps] at this
    simpa using this
end
theorem own_knob : ownKnob Try.prog.godebug = none := by kernel_rfl
end SaW
end Go.Proofs.Ytfpjfogddepbkaa
namespace Go.Proofs.Ytfpjfogddepbkaa
open Go.RowKit Go.Mem Go.Sat Go.ChangeShapes Go.WideShapes Go.ChangeAt Go.Deep
namespace SaW
set_option maxRecDepth 100000 in
theorem satHoles_lifted (os : Os) (started : os.Started) (H : Type) (enc : TypeId × Value → H) :
    ReturnsInHanded {} Try.checked os 6 .any (Rows.satHolesSpec.pre6 enc Try.prog Try.f6 Rows.satHolesRow.domain false) (Rows.satHolesSpec.post enc Try.prog Try.f6 false true false false) := by
  refine returnsInHanded_of_change (C := Try.checked) own_knob started (by kernel_rfl) Try.func6
    (ChangeSpec.witness6 (enc := enc) (C := Try.checked) false ⟨#[], #[.int .u8 0], []⟩ 8 (by kernel_rfl) (by kernel_rfl) (by kernel_rfl) (by kernel_rfl)) ?_
  intro W base args ds gs before hval0 hW hcnd _
  have hval : ∀ (j : Nat) t v, Try.f6.params[j]? = some t → args[j]? = some v → Value.okWide Try.prog W .any base t v := hval0
  have hW' := hW
  obtain ⟨p, q, hA0, hV, rfl, hfz, hnd⟩ := hW
  have hA : DataW.TrodAll enc Try.prog W 0 (fun _ => true) true Try.f6.params.toList args.toList ds p := hA0
  have hAk := hA
  rw [Try.params6] at hA hval
  obtain ⟨v0, d0, rfl, rfl, h0⟩ := trodAll_one hA
  obtain ⟨rfl, rfl⟩ := trodVars_none hV
  obtain ⟨a0, rfl, rfl, rfl, w0⟩ := open_int Try.underlying5 (hval 0 5 v0 rfl rfl) h0
  have hx : 0 ≤ a0 ∧ a0 ≤ 255 := by simpa [Lit.wf, IntKind.min, IntKind.max, IntKind.signed, IntKind.bits] using w0
  clear hA0 hval0
  simp only [List.append_nil] at hW'
  refine (holes_walk W a0 hx).mono fun e W' ⟨he, hf⟩ => ?_
  subst he
  have hb := hf.below
  exact ⟨_, rfl, post_below (pa := _) (pv := []) hW' (fun _ _ _ => trodAll_mk1 (shut_bool Try.underlying4 _)) (fun sp hsp => args_again (by rw [Try.params6]; decide) hAk hb sp (by simp)) (fun _ _ => rfl) (by simp) hb (ok_one (by kernel_rfl) rfl (okWide_bool_mk Try.underlying4 _))⟩
theorem satHoles_row : Rows.SatHolesSaid :=
  OpenClaim.holds_of_wide 6 Try.f6 rfl rfl rfl rfl rfl rfl rfl ⟨rfl, rfl, rfl, rfl, rfl⟩ rfl rfl rfl rfl rfl (by kernel_rfl) Try.func6 (by kernel_rfl)
    (of_decide_eq_true (by kernel_rfl)) (by unfold Func.isWrapper; first | (rw [if_pos (by decide +kernel)]; kernel_rfl) | (rw [if_neg (by decide +kernel)]; exact ⟨rfl, rfl⟩))
    (fun os started H enc _ => satHoles_lifted os started H enc)
end SaW
theorem satHoles_holds : Rows.SatHolesSaid := SaW.satHoles_row
#print axioms satHoles_holds
end Go.Proofs.Ytfpjfogddepbkaa
