/- Package bdd, walked on: Eval. -/
import Derived.Test.YtjajpdmmoiiojaaBddW8
import Derived.Deep.LoopGhost
namespace Go.Proofs.Ytjajpdmmoiiojaa
open Go.RowKit Go.Mem Go.Bdd
namespace BddW

theorem nth_cell {α : Type} {w : World} {enc : α → Value} {v : Value} {xs : List α} (h : Sees w enc v xs) {i : Int} {x : α} (hx : nth xs i = some x) : ∃ g o c, v = .slice (some ⟨g, o, none⟩) xs.length c ∧ w.cell? ⟨g, o + i.toNat, none⟩ = some (enc x) := by
  unfold nth at hx
  split at hx
  · rcases h with ⟨_, rfl⟩ | ⟨g, o, c, e, _, _, hc⟩
    · simp at hx
    · exact ⟨g, o, c, e, hc _ _ hx⟩
  · cases hx

set_option maxRecDepth 100000 in
set_option maxHeartbeats 2000000 in
theorem Eval_calls {w : World} {own : Nat → Prop} {p : Nat} {s : Sto} (hS : StoreAt w own p s) (k : Nat) (f : Int) (vis : Value) (is : List Bool) (hv : Sees w Value.bool vis is) (r : Bool × Int) (hr : evalF k s f is = some r) :
    Calls Try.prog 26 #[.pointer (some ⟨p, 0, none⟩), .int .i64 f, vis] w fun e w' => e = .returned (.tuple #[.bool r.1, .int .i64 r.2]) ∧ Frm (fun _ => False) w w' := by
  have hnot : ∀ (x : Bool) (w : World), (Op.unary .not (.bool x)).run Try.prog w = .ok (.bool (!x)) w := fun _ _ => rfl
  have hF1 : Frm (fun _ => False) w (w.alloc (.cells #[.int .i64 f] 3)) := (Frm.refl _ _).alloc _
  have hF2 : Frm (fun _ => False) w ((w.alloc (.cells #[.int .i64 f] 3)).alloc (.cells #[.pointer (some ⟨p, 0, none⟩)] 23)) := hF1.alloc _
  have hS1 : StoreAt (w.alloc (.cells #[.int .i64 f] 3)) own p s := hS.frm hF1 fun _ _ => id
  have hS2 : StoreAt ((w.alloc (.cells #[.int .i64 f] 3)).alloc (.cells #[.pointer (some ⟨p, 0, none⟩)] 23)) own p s := hS.frm hF2 fun _ _ => id
  have Hh := Lib.hid (has_calls hS1 (.slice (some ⟨w.heap.size, 0, none⟩) 1 1) [f] (sees_of_blk (blk_new_at (.cells #[.int .i64 f] 3) rfl) rfl rfl (by decide)))
  have hlen : is.length ≤ maxLen := hv.len
  obtain ⟨A, c, rfl⟩ : ∃ A c, vis = .slice A is.length c := by
    rcases hv with ⟨e, rfl⟩ | ⟨g, o, c, e, _⟩
    · exact ⟨none, 0, e⟩
    · exact ⟨_, c, e⟩
  unfold evalF at hr
  cases hin : inB s f with
  | false =>
    rw [hin] at hr
    simp only [if_true] at hr
    cases hr
    have hall : [f].all (inB s) = false := by simp [hin]
    rw [hall] at Hh
    have hF' := Lib.hid hF2
    clear hS hS1 hF1 hF2 hall hin hS2 hv
    go_enter Try.func26, Try.ntmps26
    go_wp2_with fail
    refine Hh.out.mono ?_
    rintro e w' ⟨rfl, rfl⟩
    go_wp2
    go_ret2
    exact ⟨rfl, hF'.out⟩
  | true =>
    rw [hin] at hr
    simp only [Bool.true_eq_false, if_false] at hr
    have hall : [f].all (inB s) = true := by simp [hin]
    rw [hall] at Hh
    have c0 := hS2.vars_cell
    have hplt := hS.plt
    by_cases hl : (is.length : Int) = s.vars
    case neg =>
      simp only [ne_eq, hl, not_false_eq_true, if_true] at hr
      cases hr
      have hb : ((is.length : Int) != s.vars) = true := by simp [hl]
      have hF' := Lib.hid hF2
      clear hS hS1 hF1 hF2 hall hin hS2 hv hl
      go_enter Try.func26, Try.ntmps26
      go_wp2_with fail
      refine Hh.out.mono ?_
      rintro e w' ⟨rfl, rfl⟩
      go_wp2
      go_ret2
      exact ⟨rfl, hF'.out⟩
    case pos =>
      simp only [ne_eq, hl, not_true_eq_false, if_false] at hr
      have hb : ((is.length : Int) != s.vars) = false := by simp [hl]
      cases he : evalL s.l is k f with
      | none => rw [he] at hr; cases hr
      | some q =>
      rw [he] at hr
      cases hr
      have He := Lib.hid he
      have Hn := Lib.hid hS2.nodes
      have Hv := Lib.hid (hv.frm hF2 fun _ _ _ => id)
      have hF' := Lib.hid hF2
      clear hS hS1 hF1 hF2 hall hin hS2 hv hl he
      go_enter Try.func26, Try.ntmps26
      go_wp2_with fail
      refine Hh.out.mono ?_
      rintro e w2 ⟨rfl, hw⟩
      rw [hw] at Hn Hv hF' c0
      clear hw
      go_wp2
      go_loopg [1] k (fun kq v1 w3 => ∃ f', v1 = .int .i64 f' ∧ Hid (evalL s.l is kq f' = some q) ∧ Hid (kq ≤ k) ∧ Hid (Frm (fun _ => False) w2 w3))
      case atStart => exact ⟨f, rfl, He, Nat.le_refl k, Frm.refl _ _⟩
      case round =>
        obtain ⟨f', rfl, HE, HK, HF⟩ := hrel
        cases gk with
        | zero => have h := HE.out; simp [evalL] at h
        | succ k1 =>
          have h := HE.out
          rw [evalL] at h
          clear HE He
          by_cases hf : f' ≤ 1
          · rw [if_pos hf] at h
            have d : ¬ f' > 1 := by omega
            clear hf
            cases h
            go_wp2
            go_ret2
            exact ⟨rfl, hF'.out.trans HF.out fun _ _ => id⟩
          · rw [if_neg hf] at h
            have d : f' > 1 := by omega
            clear hf
            cases hn : nth s.l f' with
            | none => rw [hn] at h; cases h
            | some n =>
            rw [hn] at h
            obtain ⟨n0, n1, n2⟩ := n
            simp only at h
            cases hi : nth is n0 with
            | none => rw [hi] at h; cases h
            | some b =>
            rw [hi] at h
            simp only at h
            obtain ⟨g, gc, c2, hgl, hcells⟩ := Hn.out
            have c2' := (World.cell?_of_block (w := w2) (a := ⟨p, 2, none⟩) (HF.out.block p (World.block_lt_of_cell? _ _ c2) id)).trans c2
            obtain ⟨x0, x1, x2⟩ := hcells f' _ hn
            have hgb := HF.out.block g hgl id
            have x0' := (World.cell?_of_block (w := w2) (a := ⟨g, f'.toNat * 3, none⟩) hgb).trans x0
            have x1' := (World.cell?_of_block (w := w2) (a := ⟨g, f'.toNat * 3 + 1, none⟩) hgb).trans x1
            have x2' := (World.cell?_of_block (w := w2) (a := ⟨g, f'.toNat * 3 + 2, none⟩) hgb).trans x2
            obtain ⟨gi, oi, ci, ei, hci⟩ := nth_cell Hv.out hi
            cases ei
            have hci' := (World.cell?_of_block (w := w2) (a := ⟨gi, _, none⟩) (HF.out.block gi (World.block_lt_of_cell? _ _ hci) id)).trans hci
            have hgil := World.block_lt_of_cell? _ _ hci'
            obtain ⟨lf0, lf1⟩ := nth_lt hn
            obtain ⟨li0, li1⟩ := nth_lt hi
            have H := Lib.hid h
            clear h hn hi c2 x0 x1 x2 hcells hgb hci c0 hgl
            cases b with
            | true =>
              go_wp2
              go_roundg k1
              case measure => have := HK.out; omega
              case rel => exact ⟨n2, rfl, H.out, by have := HK.out; show k1 ≤ k; omega, HF.out.alloc _⟩
            | false =>
              go_wp2
              go_roundg k1
              case measure => have := HK.out; omega
              case rel => exact ⟨n1, rfl, H.out, by have := HK.out; show k1 ≤ k; omega, HF.out.alloc _⟩
end BddW
end Go.Proofs.Ytjajpdmmoiiojaa
