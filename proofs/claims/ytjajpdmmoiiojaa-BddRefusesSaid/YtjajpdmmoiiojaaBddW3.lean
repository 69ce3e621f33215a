/- Package bdd, walked on: side, Var, ite come to what sideF, varF, iteF compute. -/
import Derived.Test.YtjajpdmmoiiojaaBddW2
namespace Go.Proofs.Ytjajpdmmoiiojaa
open Go.RowKit Go.Mem Go.Bdd
namespace BddW

theorem nth_lt {α : Type} {l : List α} {i : Int} {x : α} (h : nth l i = some x) : 0 ≤ i ∧ i < l.length := by
  unfold nth at h
  split at h
  · have := (List.getElem?_eq_some_iff.1 h).1; omega
  · cases h

set_option maxRecDepth 100000 in
set_option maxHeartbeats 800000 in
theorem side_calls {w : World} {own : Nat → Prop} {p : Nat} {s : Sto} (h : StoreAt w own p s) (f v : Int) (r : Int × Int) (hr : sideF s.l f v = some r) :
    Calls Try.prog 59 #[.pointer (some ⟨p, 0, none⟩), .int .i64 f, .int .i64 v] w fun e w' => e = .returned (.tuple #[.int .i64 r.1, .int .i64 r.2]) ∧ ∃ n, w.drewN n = w' := by
  obtain ⟨lv, mf, mk, H⟩ := h
  obtain ⟨_, _, c2, _⟩ := H.cells
  obtain ⟨g, cap, rfl, _, _, hn⟩ := H.slice
  unfold sideF at hr
  cases hf : nth s.l f with
  | none => rw [hf] at hr; cases hr
  | some n =>
    obtain ⟨n0, n1, n2⟩ := n
    rw [hf] at hr
    obtain ⟨x0, x1, x2⟩ := hn f _ hf
    obtain ⟨l0, l1⟩ := nth_lt hf
    simp only [Option.map_some, Option.some.injEq] at hr
    clear hn hf H
    by_cases hv : n0 = v
    · rw [if_pos hv] at hr
      subst hr
      have hb : (n0 != v) = false := by simp [hv]
      clear hv
      go_enter Try.func59, Try.ntmps59
      go_wp2
      go_quiet (fail)
      go_wp2
      go_ret2
      exact ⟨rfl, _, rfl⟩
    · rw [if_neg hv] at hr
      subst hr
      have hb : (n0 != v) = true := by simp [hv]
      clear hv
      go_enter Try.func59, Try.ntmps59
      go_wp2
      go_ret2
      exact ⟨rfl, 0, rfl⟩

set_option maxHeartbeats 800000 in
theorem var_calls {w : World} {own : Nat → Prop} {p : Nat} {s : Sto} (h : StoreAt w own p s) (v : Int) :
    Calls Try.prog 33 #[.pointer (some ⟨p, 0, none⟩), .int .i64 v] w (StPost own w p (.tuple #[.int .i64 (varF s v).1.1, .int .i64 (varF s v).1.2]) (varF s v).2) := by
  have hS := h
  obtain ⟨lv, mf, mk, H⟩ := h
  obtain ⟨c0, _⟩ := H.cells
  by_cases h0 : v < 0
  · have hm : varF s v = ((0, 91), s) := by simp [varF, h0]
    rw [hm]
    have d0 : decide (v < 0) = true := by simp [h0]
    have hfin := Lib.hid (show StPost own w p (.tuple #[.int .i64 0, .int .i64 91]) s (.returned (.tuple #[.int .i64 0, .int .i64 91])) w from ⟨rfl, own, hS, .refl _ _⟩)
    clear hm h0 hS H
    go_enter Try.func33, Try.ntmps33
    go_wp2
    go_ret2
    exact hfin.out
  · by_cases h1 : s.vars ≤ v
    · have hm : varF s v = ((0, 91), s) := by simp [varF, h1]
      rw [hm]
      have d0 : decide (v < 0) = false := by simp; omega
      have d1 : v ≥ s.vars := h1
      have hfin := Lib.hid (show StPost own w p (.tuple #[.int .i64 0, .int .i64 91]) s (.returned (.tuple #[.int .i64 0, .int .i64 91])) w from ⟨rfl, own, hS, .refl _ _⟩)
      clear hm h1 hS H
      go_enter Try.func33, Try.ntmps33
      go_wp2
      go_ret2
      exact hfin.out
    · have hm : varF s v = makeF s v 0 1 := by simp [varF, h0, h1]
      rw [hm]
      have d0 : decide (v < 0) = false := by simp; omega
      have d1 : ¬ v ≥ s.vars := h1
      have d2 : decide (v ≥ s.vars) = false := by simp; omega
      have Hm := Lib.hid (make_calls hS v 0 1)
      generalize makeF s v 0 1 = m at *
      obtain ⟨⟨r1, r2⟩, s'⟩ := m
      clear hm h1 h0 hS H
      go_enter Try.func33, Try.ntmps33
      go_wp2_with fail
      refine Hm.out.mono ?_
      rintro e w1 ⟨rfl, own1, h2, h3⟩
      go_wp2
      go_ret2
      exact ⟨rfl, own1, h2, h3⟩

theorem parts_known {w w8 : World} {own : Nat → Prop} {p bf bk : Nat} {s : Sto} {lv : Value} (H : Parts w own p s lv (some bf) (some bk)) (hb : s.begun = true) {m : List (T3 × Int)} (h8 : MapAt w8 bk encT3 i64 m) (hg8 : w.grownBy w8 (some bk)) :
    Parts w8 own p { s with known := m } lv (some bf) (some bk) := by
  obtain ⟨bf', bk', e1, e2, e3, e4, e5, e6, e7⟩ := H.maps hb
  cases e1
  cases e2
  have hF := Frm.of_grown hg8
  obtain ⟨es, c, hm, hm2⟩ := e7
  refine ⟨blk_grown H.blk hg8 (fun e => ?_), own_frm H.row hF fun g hg e => ?_, H.rowOwn, fun h => (by rw [hb] at h; cases h), fun _ => ⟨bf, bk, rfl, rfl, e3, e4, e5, e6.frm hF (fun e => e3 (by cases e; rfl)), h8⟩, H.me, fun b hb => Nat.lt_of_lt_of_le (H.lt b hb) hF.size, H.room, H.pos⟩
  · cases e; rw [H.blk] at hm; simp at hm
  · cases e
    obtain ⟨cur, hc⟩ := own_elem H.row hg
    rw [hc] at hm
    simp at hm
end BddW
end Go.Proofs.Ytjajpdmmoiiojaa
