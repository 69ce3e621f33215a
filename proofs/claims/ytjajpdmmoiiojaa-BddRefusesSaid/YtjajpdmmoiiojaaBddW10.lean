/- Package bdd, walked on: Pick. -/
import Derived.Test.YtjajpdmmoiiojaaBddW9
namespace Go.Proofs.Ytjajpdmmoiiojaa
open Go.RowKit Go.Mem Go.Bdd
namespace BddW

theorem info_bool : (Try.prog.info? 4).map (fun i => (i.zero, i.size, i.bytes)) = some (some (.bool false), 1, 1) := by kernel_rfl
theorem row_cell {α : Type} {w : World} {e : TypeId} {enc : α → Value} {g n c i : Nat} {xs : List α} {x : α} (h : Row w e enc (.slice (some ⟨g, 0, none⟩) n c) xs) (hx : xs[i]? = some x) : w.cell? ⟨g, i, none⟩ = some (enc x) ∧ w.frozen? ⟨g, i, none⟩ = false := by
  rcases h.shape with ⟨h1, _⟩ | ⟨g', cap, h1, _, _, _, hc, hz⟩
  · cases h1
  · simp only [Value.slice.injEq, Option.some.injEq, Addr.mk.injEq] at h1
    obtain ⟨⟨rfl, _⟩, _⟩ := h1
    exact ⟨hc i x hx, hz i⟩
def PickPost (w : World) (r : List Bool × Int) (e : Ending) (w' : World) : Prop := ∃ v, e = .returned (.tuple #[v, .int .i64 r.2]) ∧ Row w' 4 Value.bool v r.1 ∧ (∀ g, v.ownBlock = some g → w.heap.size ≤ g) ∧ Frm (fun _ => False) w w'

set_option maxRecDepth 100000 in
set_option maxHeartbeats 2000000 in
theorem Pick_calls {w : World} {own : Nat → Prop} {p : Nat} {s : Sto} (hS : StoreAt w own p s) (hv0 : 0 ≤ s.vars) (hv1 : s.vars ≤ 256) (k : Nat) (f : Int) (r : List Bool × Int) (hr : pickF k s f = some r) :
    Calls Try.prog 15 #[.pointer (some ⟨p, 0, none⟩), .int .i64 f] w (PickPost w r) := by
  have hnot : ∀ (x : Bool) (w : World), (Op.unary .not (.bool x)).run Try.prog w = .ok (.bool (!x)) w := fun _ _ => rfl
  obtain ⟨i0, hi, hz0, hz1, hz2⟩ := info_parts info_bool
  have hF1 : Frm (fun _ => False) w (w.alloc (.cells #[.int .i64 f] 3)) := (Frm.refl _ _).alloc _
  have hF2 : Frm (fun _ => False) w ((w.alloc (.cells #[.int .i64 f] 3)).alloc (.cells #[.pointer (some ⟨p, 0, none⟩)] 23)) := hF1.alloc _
  have hS1 : StoreAt (w.alloc (.cells #[.int .i64 f] 3)) own p s := hS.frm hF1 fun _ _ => id
  have hS2 : StoreAt ((w.alloc (.cells #[.int .i64 f] 3)).alloc (.cells #[.pointer (some ⟨p, 0, none⟩)] 23)) own p s := hS.frm hF2 fun _ _ => id
  have Hh := Lib.hid (has_calls hS1 (.slice (some ⟨w.heap.size, 0, none⟩) 1 1) [f] (sees_of_blk (blk_new_at (.cells #[.int .i64 f] 3) rfl) rfl rfl (by decide)))
  unfold pickF at hr
  have hno : ∀ w', Frm (fun _ => False) w w' → PickPost w ([], 92) (.returned (.tuple #[.slice none 0 0, .int .i64 92])) w' := fun w' hF => ⟨.slice none 0 0, rfl, Row.nil _ _ _, fun g hg => (by cases hg), hF⟩
  cases hin : inB s f with
  | false =>
    rw [hin] at hr
    simp only [true_or, if_true] at hr
    cases hr
    have hall : [f].all (inB s) = false := by simp [hin]
    rw [hall] at Hh
    have hF' := Lib.hid (hno _ hF2)
    clear hS hS1 hF1 hF2 hall hin hS2 hno
    go_enter Try.func15, Try.ntmps15
    go_wp2_with fail
    refine Hh.out.mono ?_
    rintro e w' ⟨rfl, rfl⟩
    go_wp2
    go_ret2
    exact hF'.out
  | true =>
    rw [hin] at hr
    simp only [Bool.true_eq_false, false_or] at hr
    have hall : [f].all (inB s) = true := by simp [hin]
    rw [hall] at Hh
    by_cases hf : f = 0
    · rw [if_pos hf] at hr
      cases hr
      have hb : (f == 0) = true := by simp [hf]
      have hF' := Lib.hid (hno _ hF2)
      clear hS hS1 hF1 hF2 hall hin hS2 hno hf
      go_enter Try.func15, Try.ntmps15
      go_wp2_with fail
      refine Hh.out.mono ?_
      rintro e w' ⟨rfl, rfl⟩
      go_wp2
      go_ret2
      exact hF'.out
    · rw [if_neg hf] at hr
      have hb : (f == 0) = false := by simp [hf]
      have c0 := hS2.vars_cell
      have hplt := hS.plt
      cases he : pickL s.l k f (List.replicate s.vars.toNat false) with
      | none => rw [he] at hr; cases hr
      | some q =>
      rw [he] at hr
      cases hr
      have He := Lib.hid he
      have Hn := Lib.hid hS2.nodes
      have hF' := Lib.hid hF2
      clear hS hS1 hF1 hF2 hall hin hS2 hf he hno
      go_enter Try.func15, Try.ntmps15
      go_wp2_with fail
      refine Hh.out.mono ?_
      rintro e w2 ⟨rfl, hw⟩
      have hsz : w2.heap.size = w.heap.size + 2 := by rw [← hw]; simp
      rw [hw] at Hn hF' c0
      have hw2 : w2.heap.size ≥ w.heap.size := by omega
      clear hw hsz
      go_wp2_with (first | (at_make; refine wpList_make_full _ rfl _ _ 33 rfl 0 4 i0 (.bool false) 1 Try.underlying33 hi hz0 hz1 _ _ _ _ s.vars.toNat rfl rfl (by omega) (by omega) (by rw [hz2]; omega) (by have : maxLen = 9223372036854775807 := rfl; omega) (Nat.zero_le _) ?_; intro w3 hw3 hg3))
      have hrow := row_made (enc := Value.bool) (x := false) hw3 rfl
      have hF3 := hF'.out.trans ((Frm.refl (fun _ => False) w2).grown hg3 fun k hk => by cases hk) fun _ _ => id
      have hF23 : Frm (fun _ => False) w2 w3 := (Frm.refl (fun _ => False) w2).grown hg3 fun k hk => by cases hk
      have hgw : w2.heap.size < w3.heap.size := hrow.lt _ rfl
      have Hrow := Lib.hid hrow
      have HF3 := Lib.hid hF3
      have HF23 := Lib.hid hF23
      clear hw3 hg3 hrow hF3 hF23
      go_loopg [1] k (fun kq v1 w4 => ∃ f' way, v1 = .int .i64 f' ∧ Hid (pickL s.l kq f' way = some q) ∧ Hid (kq ≤ k) ∧ Hid (Frm (fun b => b = w2.heap.size) w3 w4) ∧ Hid (Row w4 4 Value.bool (.slice (some ⟨w2.heap.size, 0, none⟩) s.vars.toNat s.vars.toNat) way) ∧ Hid (way.length = s.vars.toNat))
      case atStart => exact ⟨f, _, rfl, He, Nat.le_refl k, Frm.refl _ _, Hrow.out, List.length_replicate⟩
      case round =>
        obtain ⟨f', way, rfl, HE, HK, HF, HR, HL⟩ := hrel
        cases gk with
        | zero => have h := HE.out; simp [pickL] at h
        | succ k1 =>
          have h := HE.out
          rw [pickL] at h
          clear HE He
          by_cases hf : f' ≤ 1
          · rw [if_pos hf] at h
            have d : ¬ f' > 1 := by omega
            clear hf
            cases h
            have hF4 := HF3.out.trans HF.out fun x hx h => by omega
            have HF4 := Lib.hid hF4
            clear hF4
            go_wp2
            go_ret2
            exact ⟨_, rfl, HR.out, fun g hg => by cases hg; exact hw2, HF4.out⟩
          · rw [if_neg hf] at h
            have d : f' > 1 := by omega
            clear hf
            cases hn : nth s.l f' with
            | none => rw [hn] at h; cases h
            | some n =>
            rw [hn] at h
            obtain ⟨n0, n1, n2⟩ := n
            simp only at h
            obtain ⟨g, gc, c2, hgl, hcells⟩ := Hn.out
            have hgl3 := Nat.lt_of_lt_of_le hgl HF23.out.size
            have hp2 := World.block_lt_of_cell? _ _ c2
            have hl23 := HF23.out.size
            have hl34 := HF.out.size
            have hpb := (HF.out.block p (by omega) (by omega)).trans (HF23.out.block p hp2 id)
            have hgb := (HF.out.block g hgl3 (by omega)).trans (HF23.out.block g hgl id)
            have c2' := (World.cell?_of_block (w := w2) (a := ⟨p, 2, none⟩) hpb).trans c2
            obtain ⟨x0, x1, x2⟩ := hcells f' _ hn
            have x0' := (World.cell?_of_block (w := w2) (a := ⟨g, f'.toNat * 3, none⟩) hgb).trans x0
            have x1' := (World.cell?_of_block (w := w2) (a := ⟨g, f'.toNat * 3 + 1, none⟩) hgb).trans x1
            have x2' := (World.cell?_of_block (w := w2) (a := ⟨g, f'.toNat * 3 + 2, none⟩) hgb).trans x2
            obtain ⟨lf0, lf1⟩ := nth_lt hn
            have hpl4 : p < wr.heap.size := by omega
            have hgl4 : g < wr.heap.size := by omega
            clear hn c2 x0 x1 x2 hcells hpb hgb c0
            by_cases h1 : n1 = 0
            · rw [if_pos h1] at h
              have b1 : (n1 == 0) = true := by simp [h1]
              by_cases hi : 0 ≤ n0 ∧ n0 < way.length
              case neg => rw [if_neg hi] at h; cases h
              case pos =>
              rw [if_pos hi] at h
              have H := Lib.hid h
              obtain ⟨i0', i1'⟩ := hi
              have hlen := HL.out
              have i2' : n0 < (s.vars.toNat : Int) := by omega
              obtain ⟨y, hy⟩ : ∃ y, way[n0.toNat]? = some y := ⟨_, List.getElem?_eq_getElem (by omega)⟩
              obtain ⟨hwc, hwf⟩ := row_cell HR.out hy
              have hRset := Lib.hid (row_set HR.out n0.toNat (by omega) true)
              have hne : ¬ w2.heap.size = wr.heap.size := by omega
              have hlw : w2.heap.size < wr.heap.size := by omega
              clear h h1 hlen i1' hy
              go_wp2
              refine Plan.wp_region_plan [0, 0, 2, 0, 8, 7, 39, 127] (List.cons (Plan.Seg.mk (List.cons 0 (List.cons 1 (List.cons 2 (List.cons 3 (List.cons 4 (List.cons 5 List.nil)))))) 6 (List.cons 3 (List.cons 4 List.nil))) List.nil) (List.cons 7 List.nil) (by kernel_rfl) (by kernel_rfl) ?_
              simp only [Plan.wayOf, Plan.pickAll, List.getElem?_cons_zero, List.getElem?_cons_succ, List.getD_eq_getElem?_getD, Option.getD_some]
              refine Plan.wpWay_seg ?_
              repeat go_big_quiet_step (fail)
              refine wpQuiet_nil ?_
              refine Plan.wpWay_act ?_
              go_wp2_with (fail)
              refine And.intro ?_ ?_
              focus
                refine Plan.again_cons ?_ ?_
                focus
                  go_big_quiet_step (fail)
                  exact wpQuiet_nil rfl
                refine Plan.again_cons ?_ ?_
                focus
                  go_big_quiet_step (fail)
                  exact wpQuiet_nil rfl
                exact Plan.again_nil
              refine Plan.wpWay_last ?_
              repeat go_big_quiet_step (fail)
              refine wpQuiet_nil ?_
              refine NoPanic.normal ?_
              go_wp2
              go_roundg k1
              case measure => have := HK.out; omega
              case rel => exact ⟨n2, way.set n0.toNat true, rfl, H.out, by have := HK.out; show k1 ≤ k; omega, ((HF.out.set (p := ⟨w2.heap.size, n0.toNat, none⟩) (.inl rfl) _).alloc _).drew, hRset.out.frm0 ((Frm.refl _ _).alloc _).drew, by have := HL.out; show (way.set n0.toNat true).length = _; simpa using this⟩
            · rw [if_neg h1] at h
              have b1 : (n1 == 0) = false := by simp [h1]
              have H := Lib.hid h
              clear h h1
              go_wp2
              go_roundg k1
              case measure => have := HK.out; omega
              case rel => exact ⟨n1, way, rfl, H.out, by have := HK.out; show k1 ≤ k; omega, HF.out.alloc _, HR.out.frm0 ((Frm.refl _ _).alloc _), HL.out⟩
end BddW
end Go.Proofs.Ytjajpdmmoiiojaa
