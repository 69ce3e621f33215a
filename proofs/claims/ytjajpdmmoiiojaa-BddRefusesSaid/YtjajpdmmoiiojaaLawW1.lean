/- The law's own functions, walked: fitted. -/
import Derived.Test.YtjajpdmmoiiojaaTabW8
namespace Go.Bdd
open Go.Mem Go.RowKit
def fitL (vars : List Int) (n : Int) : List Int := (vars.take n.toNat).map fun v => fitF v n
theorem fitL_len (vars : List Int) (n : Int) : (fitL vars n).length = min n.toNat vars.length := by simp [fitL]
def fittedF (x : ActF) (n made : Int) : ActF :=
  { kind := fitF x.kind 8, a := if fitF x.kind 8 = 0 then fitF x.a n else fitF x.a made, b := if fitF x.kind 8 = 0 then x.b else fitF x.b made, c := if fitF x.kind 8 = 0 then x.c else fitF x.c made, vars := fitL x.vars n }
theorem fitL_take {vars : List Int} {n : Int} {k : Nat} {x : Int} (hk : k < (fitL vars n).length) (hx : vars[k]? = some x) : (fitL vars n).take (k + 1) = (fitL vars n).take k ++ [fitF x n] := by
  rw [fitL_len] at hk
  unfold fitL
  rw [List.take_add_one, List.getElem?_map, List.getElem?_take]
  have : k < n.toNat := by omega
  rw [if_pos this, hx]
  rfl
def I64 (v : Int) : Prop := -9223372036854775808 ≤ v ∧ v ≤ 9223372036854775807
/-- A slice that reads as a list, wherever it begins where there is nothing to read. -/
def SeesW {α : Type} (w : World) (enc : α → Value) (v : Value) (xs : List α) : Prop :=
  ∃ A c, v = .slice A xs.length c ∧ xs.length ≤ maxLen ∧ ∀ (i : Nat) x, xs[i]? = some x → ∃ g o, A = some ⟨g, o, none⟩ ∧ w.cell? ⟨g, o + i, none⟩ = some (enc x)
section
variable {α : Type} {w w' : World} {enc : α → Value} {v : Value} {xs : List α}
theorem seesW_slice (hv : SeesW w enc v xs) : ∃ A c, v = .slice A xs.length c ∧ ∀ (i : Nat) x, xs[i]? = some x → ∃ g o, A = some ⟨g, o, none⟩ ∧ w.cell? ⟨g, o + i, none⟩ = some (enc x) := by
  obtain ⟨A, c, e, _, h⟩ := hv; exact ⟨A, c, e, h⟩
theorem SeesW.len (h : SeesW w enc v xs) : xs.length ≤ maxLen := by obtain ⟨A, c, e, h, _⟩ := h; exact h
theorem SeesW.heap (h : SeesW w enc v xs) (hb : ∀ g, InBlk v g → xs ≠ [] → g < w.heap.size → w'.heap[g]? = w.heap[g]?) : SeesW w' enc v xs := by
  obtain ⟨A, c, e, hl, h⟩ := h
  refine ⟨A, c, e, hl, fun i x hx => ?_⟩
  obtain ⟨g, o, ea, hc⟩ := h i x hx
  have hlt : g < w.heap.size := World.block_lt_of_cell? _ _ hc
  refine ⟨g, o, ea, ?_⟩
  rw [World.cell?_of_block (w := w) (hb g ⟨_, _, _, by rw [e, ea]⟩ (fun e => by subst e; cases hx) hlt)]
  exact hc
theorem SeesW.frm {S : Nat → Prop} (h : SeesW w enc v xs) (hf : Frm S w w') (hS : ∀ g, (∃ o n c, v = .slice (some ⟨g, o, none⟩) n c) → g < w.heap.size → ¬ S g) : SeesW w' enc v xs :=
  h.heap fun g hg _ hlt => hf.block g hlt (hS g hg hlt)
theorem SeesW.inlt (h : SeesW w enc v xs) {g : Nat} (hg : InBlk v g) (hx : xs ≠ []) : g < w.heap.size := by
  obtain ⟨A, c, e, hl, h⟩ := h
  cases xs with
  | nil => exact absurd rfl hx
  | cons x xs =>
    obtain ⟨g', o', ea, hc⟩ := h 0 x rfl
    obtain ⟨o, n, c', e'⟩ := hg
    rw [e, ea] at e'
    cases e'
    exact World.block_lt_of_cell? _ _ hc
end
end Go.Bdd
namespace Go.Proofs.Ytjajpdmmoiiojaa
open Go.RowKit Go.Mem Go.Bdd
namespace LawW
open TabW

/-- What is handed back: the act, its variables in a row of their own. -/
def FitPost (w : World) (y : ActF) (e : Ending) (w' : World) : Prop :=
  ∃ v, e = .returned (.agg #[.int .i64 y.kind, .int .i64 y.a, .int .i64 y.b, .int .i64 y.c, v]) ∧ Row w' 3 (Value.int .i64) v y.vars ∧ Frm (fun _ => False) w w' ∧ ∀ g, v.ownBlock = some g → w.heap.size ≤ g
theorem info_int : (Try.prog.info? 3).map (fun i => (i.zero, i.size, i.bytes)) = some (some (.int .i64 0), 1, 8) := by kernel_rfl

set_option maxRecDepth 100000 in
theorem fit_fin {w wr : World} {y y' : ActF} {A7 : Option Addr} {k c7 : Nat} (hy : y' = y) (hF : Frm (fun _ => False) w wr) (hz : wr.heap[w.heap.size + 1]? = some (.cells #[.int .i64 0, .int .i64 0, .int .i64 0, .int .i64 0, .slice none 0 0] 55)) (hR : Row wr 3 (Value.int .i64) (.slice A7 k c7) y.vars)
    (hown : ∀ g, (Value.slice A7 k c7).ownBlock = some g → w.heap.size + 2 ≤ g) :
    FitPost w y' (.returned (.agg #[.int .i64 y.kind, .int .i64 y.a, .int .i64 y.b, .int .i64 y.c, .slice A7 k c7])) ((((((wr.setCell ⟨w.heap.size, 4, none⟩ (.slice A7 k c7)).setCell ⟨w.heap.size + 1, 0, none⟩ (.int .i64 y.kind)).setCell ⟨w.heap.size + 1, 1, none⟩ (.int .i64 y.a)).setCell ⟨w.heap.size + 1, 2, none⟩ (.int .i64 y.b)).setCell ⟨w.heap.size + 1, 3, none⟩ (.int .i64 y.c)).setCell ⟨w.heap.size + 1, 4, none⟩ (.slice A7 k c7)) ∧
    ((((((wr.setCell ⟨w.heap.size, 4, none⟩ (.slice A7 k c7)).setCell ⟨w.heap.size + 1, 0, none⟩ (.int .i64 y.kind)).setCell ⟨w.heap.size + 1, 1, none⟩ (.int .i64 y.a)).setCell ⟨w.heap.size + 1, 2, none⟩ (.int .i64 y.b)).setCell ⟨w.heap.size + 1, 3, none⟩ (.int .i64 y.c)).setCell ⟨w.heap.size + 1, 4, none⟩ (.slice A7 k c7)).heap[w.heap.size + 1]? = some (.cells #[.int .i64 y.kind, .int .i64 y.a, .int .i64 y.b, .int .i64 y.c, .slice A7 k c7] 55) := by
  constructor
  · have f1 : Frm (fun b => b = w.heap.size ∨ b = w.heap.size + 1) wr (wr.setCell ⟨w.heap.size, 4, none⟩ (.slice A7 k c7)) := (Frm.refl _ _).set (p := ⟨w.heap.size, 4, none⟩) (.inl (.inl rfl)) _
    have f2 := f1.set (p := ⟨w.heap.size + 1, 0, none⟩) (.inl (.inr rfl)) (.int .i64 y.kind)
    have f3 := f2.set (p := ⟨w.heap.size + 1, 1, none⟩) (.inl (.inr rfl)) (.int .i64 y.a)
    have f4 := f3.set (p := ⟨w.heap.size + 1, 2, none⟩) (.inl (.inr rfl)) (.int .i64 y.b)
    have f5 := f4.set (p := ⟨w.heap.size + 1, 3, none⟩) (.inl (.inr rfl)) (.int .i64 y.c)
    have f6 := f5.set (p := ⟨w.heap.size + 1, 4, none⟩) (.inl (.inr rfl)) (.slice A7 k c7)
    rw [hy]
    exact ⟨_, rfl, hR.frm f6 fun g hg e => by have := hown g hg; omega, hF.trans f6 fun x hx e => by omega, fun g hg => by have := hown g hg; omega⟩
  · have g1 := blk_set_ne hz (p := ⟨w.heap.size, 4, none⟩) (by show w.heap.size + 1 ≠ w.heap.size; omega) (.slice A7 k c7)
    have g2 := blk_set g1 0 (.int .i64 y.kind) rfl
    have g3 := blk_set g2 1 (.int .i64 y.a) rfl
    have g4 := blk_set g3 2 (.int .i64 y.b) rfl
    have g5 := blk_set g4 3 (.int .i64 y.c) rfl
    exact blk_set g5 4 (.slice A7 k c7) rfl

set_option maxRecDepth 100000 in
set_option maxHeartbeats 4000000 in
theorem fitted_var (w : World) (x : ActF) (vv : Value) (n made : Int) (hn : 0 < n ∧ n ≤ 30) (hm : 0 < made ∧ made ≤ 4294967296) (hx : SeesW w (Value.int .i64) vv x.vars) (hi : I64 x.kind ∧ I64 x.a ∧ I64 x.b ∧ I64 x.c ∧ ∀ v ∈ x.vars, I64 v) (h0 : fitF x.kind 8 = 0) :
    Calls Try.prog 29 #[.agg #[.int .i64 x.kind, .int .i64 x.a, .int .i64 x.b, .int .i64 x.c, vv], .int .i64 n, .int .i64 made] w (FitPost w (fittedF x n made)) := by
  obtain ⟨i0, hi0, hz0, hz1, hz2⟩ := info_parts info_int
  obtain ⟨B, d, rfl, _⟩ := seesW_slice hx
  have hxl : (x.vars.length : Int) ≤ 9223372036854775807 := by have := hx.len; have h : maxLen = 9223372036854775807 := rfl; omega
  obtain ⟨hik, hia, hib, hic, hiv⟩ := hi
  obtain ⟨hn0, hn1⟩ := hn
  obtain ⟨hm0, hm1⟩ := hm
  have hb := blk_alloc (blk_new (w := w) (.cells #[.int .i64 x.kind, .int .i64 x.a, .int .i64 x.b, .int .i64 x.c, (.slice B x.vars.length d)] 55)) (.cells #[.int .i64 0, .int .i64 0, .int .i64 0, .int .i64 0, .slice none 0 0] 55)
  have hb0 := blk_alloc (blk_new (w := w) (.cells #[.int .i64 (fitF x.kind 8), .int .i64 x.a, .int .i64 x.b, .int .i64 x.c, (.slice B x.vars.length d)] 55)) (.cells #[.int .i64 0, .int .i64 0, .int .i64 0, .int .i64 0, .slice none 0 0] 55)
  have hF2 : Frm (fun _ => False) w ((w.alloc (.cells #[.int .i64 x.kind, .int .i64 x.a, .int .i64 x.b, .int .i64 x.c, (.slice B x.vars.length d)] 55)).alloc (.cells #[.int .i64 0, .int .i64 0, .int .i64 0, .int .i64 0, .slice none 0 0] 55)) := ((Frm.refl _ _).alloc _).alloc _
  have hF0 : Frm (fun _ => False) w ((w.alloc (.cells #[.int .i64 (fitF x.kind 8), .int .i64 x.a, .int .i64 x.b, .int .i64 x.c, (.slice B x.vars.length d)] 55)).alloc (.cells #[.int .i64 0, .int .i64 0, .int .i64 0, .int .i64 0, .slice none 0 0] 55)) := ((Frm.refl _ _).alloc _).alloc _
  have c0 : ((w.alloc (.cells #[.int .i64 x.kind, .int .i64 x.a, .int .i64 x.b, .int .i64 x.c, (.slice B x.vars.length d)] 55)).alloc (.cells #[.int .i64 0, .int .i64 0, .int .i64 0, .int .i64 0, .slice none 0 0] 55)).cell? ⟨w.heap.size, 0, none⟩ = some (.int .i64 x.kind) := blk_cell hb 0
  have z0 : ((w.alloc (.cells #[.int .i64 x.kind, .int .i64 x.a, .int .i64 x.b, .int .i64 x.c, (.slice B x.vars.length d)] 55)).alloc (.cells #[.int .i64 0, .int .i64 0, .int .i64 0, .int .i64 0, .slice none 0 0] 55)).frozen? ⟨w.heap.size, 0, none⟩ = false := blk_free hb 0
  have k0 : ((w.alloc (.cells #[.int .i64 (fitF x.kind 8), .int .i64 x.a, .int .i64 x.b, .int .i64 x.c, (.slice B x.vars.length d)] 55)).alloc (.cells #[.int .i64 0, .int .i64 0, .int .i64 0, .int .i64 0, .slice none 0 0] 55)).cell? ⟨w.heap.size, 0, none⟩ = some (.int .i64 (fitF x.kind 8)) := blk_cell hb0 0
  have k1 : ((w.alloc (.cells #[.int .i64 (fitF x.kind 8), .int .i64 x.a, .int .i64 x.b, .int .i64 x.c, (.slice B x.vars.length d)] 55)).alloc (.cells #[.int .i64 0, .int .i64 0, .int .i64 0, .int .i64 0, .slice none 0 0] 55)).cell? ⟨w.heap.size, 1, none⟩ = some (.int .i64 x.a) := blk_cell hb0 1
  have k2 : ((w.alloc (.cells #[.int .i64 (fitF x.kind 8), .int .i64 x.a, .int .i64 x.b, .int .i64 x.c, (.slice B x.vars.length d)] 55)).alloc (.cells #[.int .i64 0, .int .i64 0, .int .i64 0, .int .i64 0, .slice none 0 0] 55)).cell? ⟨w.heap.size, 2, none⟩ = some (.int .i64 x.b) := blk_cell hb0 2
  have k3 : ((w.alloc (.cells #[.int .i64 (fitF x.kind 8), .int .i64 x.a, .int .i64 x.b, .int .i64 x.c, (.slice B x.vars.length d)] 55)).alloc (.cells #[.int .i64 0, .int .i64 0, .int .i64 0, .int .i64 0, .slice none 0 0] 55)).cell? ⟨w.heap.size, 3, none⟩ = some (.int .i64 x.c) := blk_cell hb0 3
  have hk := Lib.hid (fit_calls ((w.alloc (.cells #[.int .i64 x.kind, .int .i64 x.a, .int .i64 x.b, .int .i64 x.c, (.slice B x.vars.length d)] 55)).alloc (.cells #[.int .i64 0, .int .i64 0, .int .i64 0, .int .i64 0, .slice none 0 0] 55)) x.kind 8 (by omega) (by omega) hik)
  have Hx := Lib.hid hx
  have Hiv := Lib.hid hiv
  have hy : fittedF x n made = { kind := fitF x.kind 8, a := fitF x.a n, b := x.b, c := x.c, vars := fitL x.vars n } := by unfold fittedF; rw [if_pos h0, if_pos h0, if_pos h0]
  have e0 : (fitF x.kind 8 == 0) = true := by simp [h0]
  have ha := Lib.hid (fit_calls ((w.alloc (.cells #[.int .i64 (fitF x.kind 8), .int .i64 x.a, .int .i64 x.b, .int .i64 x.c, (.slice B x.vars.length d)] 55)).alloc (.cells #[.int .i64 0, .int .i64 0, .int .i64 0, .int .i64 0, .slice none 0 0] 55)) x.a n hn0 (by omega) hia)
  have hbA := blk_alloc (blk_new (w := w) (.cells #[.int .i64 (fitF x.kind 8), .int .i64 (fitF x.a n), .int .i64 x.b, .int .i64 x.c, (.slice B x.vars.length d)] 55)) (.cells #[.int .i64 0, .int .i64 0, .int .i64 0, .int .i64 0, .slice none 0 0] 55)
  have hFA : Frm (fun _ => False) w ((w.alloc (.cells #[.int .i64 (fitF x.kind 8), .int .i64 (fitF x.a n), .int .i64 x.b, .int .i64 x.c, (.slice B x.vars.length d)] 55)).alloc (.cells #[.int .i64 0, .int .i64 0, .int .i64 0, .int .i64 0, .slice none 0 0] 55)) := ((Frm.refl _ _).alloc _).alloc _
  have z1 : ((w.alloc (.cells #[.int .i64 (fitF x.kind 8), .int .i64 x.a, .int .i64 x.b, .int .i64 x.c, (.slice B x.vars.length d)] 55)).alloc (.cells #[.int .i64 0, .int .i64 0, .int .i64 0, .int .i64 0, .slice none 0 0] 55)).frozen? ⟨w.heap.size, 1, none⟩ = false := blk_free hb0 1
  have HY := Lib.hid hy
  have HB := Lib.hid hbA
  have HF := Lib.hid hFA

  clear hy hF2 hF0 hb hb0 hbA hFA hx hiv hik hia hib hic h0
  go_enter Try.func29, Try.ntmps29
  go_wp2_with fail
  refine hk.out.mono ?_
  rintro e w' ⟨rfl, rfl⟩
  go_wp2_with fail
  refine ha.out.mono ?_
  rintro e w' ⟨rfl, rfl⟩
  go_wp2
  have HFW := Lib.hid (show Frm (fun _ => False) w ((w.alloc (.cells #[.int .i64 (fitF x.kind 8), .int .i64 (fitF x.a n), .int .i64 x.b, .int .i64 x.c, (.slice B x.vars.length d)] 55)).alloc (.cells #[.int .i64 0, .int .i64 0, .int .i64 0, .int .i64 0, .slice none 0 0] 55)) from HF.out)
  have HBZ := Lib.hid (show ((w.alloc (.cells #[.int .i64 (fitF x.kind 8), .int .i64 (fitF x.a n), .int .i64 x.b, .int .i64 x.c, (.slice B x.vars.length d)] 55)).alloc (.cells #[.int .i64 0, .int .i64 0, .int .i64 0, .int .i64 0, .slice none 0 0] 55)).heap[w.heap.size + 1]? = some (.cells #[.int .i64 0, .int .i64 0, .int .i64 0, .int .i64 0, .slice none 0 0] 55) from blk_new_at _ (by simp))
  have HZW := Lib.hid (show ((w.alloc (.cells #[.int .i64 (fitF x.kind 8), .int .i64 (fitF x.a n), .int .i64 x.b, .int .i64 x.c, (.slice B x.vars.length d)] 55)).alloc (.cells #[.int .i64 0, .int .i64 0, .int .i64 0, .int .i64 0, .slice none 0 0] 55)).heap.size = w.heap.size + 2 by simp)
  go_loopw [7, 8] (fun v7 v8 w' => ∃ k : Nat, k ≤ (fitL x.vars n).length ∧ v8 = .int .i64 k ∧ Hid (Row w' 3 (Value.int .i64) v7 ((fitL x.vars n).take k)) ∧ Hid (Frm (fun _ => False) ((w.alloc (.cells #[.int .i64 (fitF x.kind 8), .int .i64 (fitF x.a n), .int .i64 x.b, .int .i64 x.c, (.slice B x.vars.length d)] 55)).alloc (.cells #[.int .i64 0, .int .i64 0, .int .i64 0, .int .i64 0, .slice none 0 0] 55)) w') ∧ Hid (∀ g, v7.ownBlock = some g → w.heap.size + 2 ≤ g)) (fun _ v8 _ => (fitL x.vars n).length - (intOf v8).toNat)
  case atStart => exact ⟨0, Nat.zero_le _, rfl, Lib.hid ⟨by simp, .inr ⟨_, 0, _, rfl, Nat.zero_le _, blk_new_at _ (by simp), by simp⟩⟩, Lib.hid ((Frm.refl _ _).alloc _), Lib.hid fun g hg => by cases hg; simp⟩
  case round =>
    obtain ⟨k, hk, rfl, HR, HG, Hown⟩ := hrel
    have hbr := blk_frm HB.out HG.out id
    have hzr := blk_frm HBZ.out HG.out id
    have r4 : wr.cell? ⟨w.heap.size, 4, none⟩ = some (.slice B x.vars.length d) := blk_cell hbr 4
    have hwl := lt_of_block hbr
    have hll := fitL_len x.vars n
    by_cases hlt : k < (fitL x.vars n).length
    · have hkl : k < x.vars.length := by omega
      have hkn : (k : Int) < n := by omega
      have hkl' : (k : Int) < (x.vars.length : Int) := by omega
      have hxk : x.vars[k]? = some x.vars[k] := List.getElem?_eq_getElem hkl
      have hxi := Hiv.out _ (List.getElem_mem hkl)
      obtain ⟨A3, d3, e3, hd3⟩ := seesW_slice (Hx.out.frm (HFW.out.trans HG.out fun _ _ => id) fun _ _ _ => id)
      cases e3
      obtain ⟨g3, o3, e3, hc3⟩ := hd3 k _ hxk
      cases e3
      have htk := fitL_take hlt hxk
      generalize x.vars[k] = y at *
      have hf := Lib.hid (fit_calls wr y n hn0 (by omega) hxi)
      have Htk := Lib.hid htk
      have Hlk := Lib.hid (show ((fitL x.vars n).take k).length = k by rw [List.length_take]; omega)
      clear hll hxk hd3 htk hbr hzr
      go_wp2_with fail
      refine hf.out.mono ?_
      rintro e w' ⟨rfl, rfl⟩
      go_wp2_with (first | (at_builtin; refine wpList_append_row rfl _ _ 28 rfl 3 i0 (.int .i64 0) 8 Try.underlying28 hi0 hz0 hz1 hz2 rfl (enc := Value.int .i64) u7 ((fitL x.vars n).take k) rfl (HR.out.frm0 ((Frm.refl _ _).alloc _)) ⟨wr.heap.size, 0, none⟩ 1 (fitF y n) rfl ?c1 rfl ?c2 ?c3 ?_) | go_in)
      case c1 => exact blk_cell (blk_new _) 0
      case c2 => rw [Hlk.out]; have : maxLen = 9223372036854775807 := rfl; omega
      case c3 => rw [Hlk.out]; omega
      intro g cap w7 hrow hfr hg hlt7
      have HR' := Lib.hid hrow
      have HF' := Lib.hid ((HG.out.alloc _).trans hfr fun x hx h => by have := Hown.out x h; have := HZW.out; omega)
      have Hg := Lib.hid hg
      clear hrow hfr hg
      go_wp2
      go_roundw
      case rel => exact ⟨k + 1, by omega, by go_num, Lib.hid (by rw [Htk.out]; exact HR'.out), HF', Lib.hid fun g' hg' => by cases hg'; rcases Hg.out with h | h; exact Hown.out _ h; have h3 := HG.out.size; have := HZW.out; show _ ≤ g; first | omega | (simp at h h3; simp; omega)⟩
      case measure => simp [intOf]; omega
    · have hke : (fitL x.vars n).take k = fitL x.vars n := List.take_of_length_le (by omega)
      have HE := Lib.hid hke
      obtain ⟨A7, c7, e7, _⟩ := sees_slice HR.out.sees
      subst e7
      have r0 : wr.cell? ⟨w.heap.size, 0, none⟩ = some (.int .i64 (fitF x.kind 8)) := blk_cell hbr 0
      have r1 : wr.cell? ⟨w.heap.size, 1, none⟩ = some (.int .i64 (fitF x.a n)) := blk_cell hbr 1
      have r2 : wr.cell? ⟨w.heap.size, 2, none⟩ = some (.int .i64 x.b) := blk_cell hbr 2
      have r3 : wr.cell? ⟨w.heap.size, 3, none⟩ = some (.int .i64 x.c) := blk_cell hbr 3
      have s0 : wr.frozen? ⟨w.heap.size + 1, 0, none⟩ = false := blk_free hzr 0
      have s1 : wr.frozen? ⟨w.heap.size + 1, 1, none⟩ = false := blk_free hzr 1
      have s2 : wr.frozen? ⟨w.heap.size + 1, 2, none⟩ = false := blk_free hzr 2
      have s3 : wr.frozen? ⟨w.heap.size + 1, 3, none⟩ = false := blk_free hzr 3
      have s4 : wr.frozen? ⟨w.heap.size + 1, 4, none⟩ = false := blk_free hzr 4
      have t0 : wr.cell? ⟨w.heap.size + 1, 0, none⟩ = some (.int .i64 0) := blk_cell hzr 0
      have t1 : wr.cell? ⟨w.heap.size + 1, 1, none⟩ = some (.int .i64 0) := blk_cell hzr 1
      have t2 : wr.cell? ⟨w.heap.size + 1, 2, none⟩ = some (.int .i64 0) := blk_cell hzr 2
      have t3 : wr.cell? ⟨w.heap.size + 1, 3, none⟩ = some (.int .i64 0) := blk_cell hzr 3
      have t4 : wr.cell? ⟨w.heap.size + 1, 4, none⟩ = some (.slice none 0 0) := blk_cell hzr 4
      have z4 : wr.frozen? ⟨w.heap.size, 4, none⟩ = false := blk_free hbr 4
      have hlk : ((fitL x.vars n).take k).length = k := by rw [List.length_take]; omega
      have hR9 := HR.out
      rw [HE.out] at hR9
      have hO9 := Hown.out
      rw [HE.out] at hO9
      obtain ⟨hf1, hf2⟩ := fit_fin (y := { kind := fitF x.kind 8, a := fitF x.a n, b := x.b, c := x.c, vars := fitL x.vars n }) HY.out (HFW.out.trans HG.out fun _ _ => id) hzr hR9 hO9
      have hfin := Lib.hid hf1
      have Hfb := Lib.hid hf2
      clear hf1 hf2 hR9 hO9 hlk
      by_cases hkl : (k : Int) < (x.vars.length : Int)
      · have hkn : ¬ (k : Int) < n := by omega
        clear hll
        go_wp2
        try simp only [Exit.inBlock, Exit.then]
        refine bodyPost_ret (results_cell_row rfl _ _ (w.heap.size + 1) 55 _ (0, 0) _ rfl Hfb.out Try.underlying55 rfl ?cc) rfl ?_
        case cc => kernel_rfl
        exact hfin.out
      · clear hll
        go_wp2
        try simp only [Exit.inBlock, Exit.then]
        refine bodyPost_ret (results_cell_row rfl _ _ (w.heap.size + 1) 55 _ (0, 0) _ rfl Hfb.out Try.underlying55 rfl ?cc) rfl ?_
        case cc => kernel_rfl
        exact hfin.out

end LawW
end Go.Proofs.Ytjajpdmmoiiojaa
