/- The law's own functions, walked: do. -/
import Derived.Test.YtjajpdmmoiiojaaLawW2
import Derived.Test.YtjajpdmmoiiojaaApp2
import Derived.Test.YtjajpdmmoiiojaaBddW14
namespace Go.Bdd
open Go.Mem Go.RowKit
def lat (l : List Int) (a : Int) : Int := l.getD a.toNat 0
def doF (k : Nat) (x : ActF) (l : List Int) (s : Sto) : Option ((Int × Int) × Sto) :=
  if x.kind = 0 then some (varF s x.a) else if x.kind = 1 then IteF k s (lat l x.a) (lat l x.b) (lat l x.c) else if x.kind = 2 then IteF k s (lat l x.a) 0 1
  else if x.kind = 3 then IteF k s (lat l x.a) (lat l x.b) 0 else if x.kind = 4 then IteF k s (lat l x.a) 1 (lat l x.b) else if x.kind = 5 then iffF k s (lat l x.a) (lat l x.b)
  else if x.kind = 6 then existsF k s (lat l x.a) x.vars else renameF k s (lat l x.a) x.vars
theorem sees_ints {w : World} {v : Value} {l : List Int} (h : Sees w (Value.int .i64) v l) (hp : 0 < l.length) : ∃ g o c, v = .slice (some ⟨g, o, none⟩) l.length c ∧ ∀ a : Int, 0 ≤ a ∧ a < l.length → w.cell? ⟨g, o + a.toNat, none⟩ = some (.int .i64 (lat l a)) := by
  rcases h with ⟨_, e⟩ | ⟨g, o, c, e, _, _, hc⟩
  · subst e; simp at hp
  · refine ⟨g, o, c, e, fun a ha => hc _ _ ?_⟩
    have : a.toNat < l.length := by omega
    simp [lat, this]
end Go.Bdd
namespace Go.Proofs.Ytjajpdmmoiiojaa
open Go.RowKit Go.Mem Go.Bdd
namespace LawW
open TabW BddW

theorem new_not_own {w : World} {own : Nat → Prop} {p : Nat} {s : Sto} (hS : StoreAt w own p s) {v : Value} {H b : Nat} (hb : w.heap.size ≤ b) (hH : w.heap.size ≤ H) (hG : ∀ g, v.ownBlock = some g → (Value.slice (some ⟨b, 0, none⟩) 0 0).ownBlock = some g ∨ g = H) (g : Nat) (hg : InBlk v g) : ¬ own g := fun ho => by
  obtain ⟨o', n', c', rfl⟩ := hg
  have hown := hS.ownlt g ho
  rcases hG g rfl with h | h
  · cases h; exact absurd hown (Nat.not_lt.2 hb)
  · omega
set_option maxRecDepth 100000 in
set_option maxHeartbeats 1000000 in
theorem do_0 {w : World} {own : Nat → Prop} {p : Nat} {s : Sto} (hS : StoreAt w own p s) (k : Nat) (x : ActF) (vv vl : Value) (l : List Int) (hx : Sees w (Value.int .i64) vv x.vars) (hl : Sees w (Value.int .i64) vl l) (r : Int × Int) (s' : Sto) (hk : x.kind = 0) (hr : varF s x.a = (r, s')) :
    Calls Try.prog 30 #[.pointer (some ⟨p, 0, none⟩), (.agg #[.int .i64 x.kind, .int .i64 x.a, .int .i64 x.b, .int .i64 x.c, vv]), vl] w (StPost own w p (.tuple #[.int .i64 r.1, .int .i64 r.2]) s') := by
  obtain ⟨B, d, rfl, _⟩ := sees_slice hx
  have hF1 : Frm (fun _ => False) w (w.alloc (.cells #[.int .i64 x.kind, .int .i64 x.a, .int .i64 x.b, .int .i64 x.c, (.slice B x.vars.length d)] 55)) := (Frm.refl _ _).alloc _
  have hb := blk_new (w := w) (.cells #[.int .i64 x.kind, .int .i64 x.a, .int .i64 x.b, .int .i64 x.c, (.slice B x.vars.length d)] 55)
  have c0 : (w.alloc (.cells #[.int .i64 x.kind, .int .i64 x.a, .int .i64 x.b, .int .i64 x.c, (.slice B x.vars.length d)] 55)).cell? ⟨w.heap.size, 0, none⟩ = some (.int .i64 x.kind) := blk_cell hb 0
  have c1 : (w.alloc (.cells #[.int .i64 x.kind, .int .i64 x.a, .int .i64 x.b, .int .i64 x.c, (.slice B x.vars.length d)] 55)).cell? ⟨w.heap.size, 1, none⟩ = some (.int .i64 x.a) := blk_cell hb 1
  have c2 : (w.alloc (.cells #[.int .i64 x.kind, .int .i64 x.a, .int .i64 x.b, .int .i64 x.c, (.slice B x.vars.length d)] 55)).cell? ⟨w.heap.size, 2, none⟩ = some (.int .i64 x.b) := blk_cell hb 2
  have c3 : (w.alloc (.cells #[.int .i64 x.kind, .int .i64 x.a, .int .i64 x.b, .int .i64 x.c, (.slice B x.vars.length d)] 55)).cell? ⟨w.heap.size, 3, none⟩ = some (.int .i64 x.c) := blk_cell hb 3
  have c4 : (w.alloc (.cells #[.int .i64 x.kind, .int .i64 x.a, .int .i64 x.b, .int .i64 x.c, (.slice B x.vars.length d)] 55)).cell? ⟨w.heap.size, 4, none⟩ = some (.slice B x.vars.length d) := blk_cell hb 4
  have hV := Lib.hid (var_calls (hS.alloc (.cells #[.int .i64 x.kind, .int .i64 x.a, .int .i64 x.b, .int .i64 x.c, (.slice B x.vars.length d)] 55)) x.a)
  rw [hr] at hV
  have hF := Lib.hid hF1
  have e0 : (x.kind == 0) = true := by simp [hk]
  clear hS hx hl hr hF1 hb hk
  go_enter Try.func30, Try.ntmps30
  go_wp2_with fail
  refine hV.out.mono ?_
  rintro e w2 ⟨rfl, own', h1, h2⟩
  have hfin := Lib.hid (show StPost own w p (.tuple #[.int .i64 r.1, .int .i64 r.2]) s' (.returned (.tuple #[.int .i64 r.1, .int .i64 r.2])) w2 from ⟨rfl, own', h1, (Moves.of_frm (hF.out.mono fun _ _ h => h.elim) fun _ h => .inl h).trans h2⟩)
  clear h1 h2
  go_wp2
  go_ret2
  exact hfin.out

set_option maxRecDepth 100000 in
set_option maxHeartbeats 1000000 in
theorem do_1 {w : World} {own : Nat → Prop} {p : Nat} {s : Sto} (hS : StoreAt w own p s) (k : Nat) (x : ActF) (vv vl : Value) (l : List Int) (hx : Sees w (Value.int .i64) vv x.vars) (hl : Sees w (Value.int .i64) vl l) (r : Int × Int) (s' : Sto) (hk : x.kind = 1) (ha : 0 ≤ x.a ∧ x.a < l.length) (hbi : 0 ≤ x.b ∧ x.b < l.length) (hci : 0 ≤ x.c ∧ x.c < l.length) (hr : IteF k s (lat l x.a) (lat l x.b) (lat l x.c) = some (r, s')) :
    Calls Try.prog 30 #[.pointer (some ⟨p, 0, none⟩), (.agg #[.int .i64 x.kind, .int .i64 x.a, .int .i64 x.b, .int .i64 x.c, vv]), vl] w (StPost own w p (.tuple #[.int .i64 r.1, .int .i64 r.2]) s') := by
  obtain ⟨B, d, rfl, _⟩ := sees_slice hx
  have hF1 : Frm (fun _ => False) w (w.alloc (.cells #[.int .i64 x.kind, .int .i64 x.a, .int .i64 x.b, .int .i64 x.c, (.slice B x.vars.length d)] 55)) := (Frm.refl _ _).alloc _
  have hb := blk_new (w := w) (.cells #[.int .i64 x.kind, .int .i64 x.a, .int .i64 x.b, .int .i64 x.c, (.slice B x.vars.length d)] 55)
  have c0 : (w.alloc (.cells #[.int .i64 x.kind, .int .i64 x.a, .int .i64 x.b, .int .i64 x.c, (.slice B x.vars.length d)] 55)).cell? ⟨w.heap.size, 0, none⟩ = some (.int .i64 x.kind) := blk_cell hb 0
  have c1 : (w.alloc (.cells #[.int .i64 x.kind, .int .i64 x.a, .int .i64 x.b, .int .i64 x.c, (.slice B x.vars.length d)] 55)).cell? ⟨w.heap.size, 1, none⟩ = some (.int .i64 x.a) := blk_cell hb 1
  have c2 : (w.alloc (.cells #[.int .i64 x.kind, .int .i64 x.a, .int .i64 x.b, .int .i64 x.c, (.slice B x.vars.length d)] 55)).cell? ⟨w.heap.size, 2, none⟩ = some (.int .i64 x.b) := blk_cell hb 2
  have c3 : (w.alloc (.cells #[.int .i64 x.kind, .int .i64 x.a, .int .i64 x.b, .int .i64 x.c, (.slice B x.vars.length d)] 55)).cell? ⟨w.heap.size, 3, none⟩ = some (.int .i64 x.c) := blk_cell hb 3
  have c4 : (w.alloc (.cells #[.int .i64 x.kind, .int .i64 x.a, .int .i64 x.b, .int .i64 x.c, (.slice B x.vars.length d)] 55)).cell? ⟨w.heap.size, 4, none⟩ = some (.slice B x.vars.length d) := blk_cell hb 4
  obtain ⟨gl, ol, cl, rfl, hat⟩ := sees_ints (hl.frm hF1 fun _ _ _ => id) (by omega)
  have la := hat _ ha
  have lb := hat _ hbi
  have lc := hat _ hci
  have hV := Lib.hid (Ite_calls (hS.alloc (.cells #[.int .i64 x.kind, .int .i64 x.a, .int .i64 x.b, .int .i64 x.c, (.slice B x.vars.length d)] 55)).drew k _ _ _ r s' hr)
  have hF := Lib.hid hF1
  have e0 : (x.kind == 0) = false := by simp [hk]
  have e1 : (x.kind == 1) = true := by simp [hk]
  obtain ⟨a0, a1⟩ := ha
  obtain ⟨b0, b1⟩ := hbi
  obtain ⟨cc0, cc1⟩ := hci
  clear hS hx hl hr hF1 hb hk hat
  go_enter Try.func30, Try.ntmps30
  go_wp2
  refine Plan.wp_region_plan [0, 0, 0, 4, 14, 30, 0, 0, 128, 448, 960, 0, 0, 4096, 14336, 30720, 65535, 131071, 131071, 524287, 1048575] (List.cons (Plan.Seg.mk (List.cons 0 (List.cons 1 (List.cons 2 (List.cons 3 (List.cons 4 (List.cons 5 (List.cons 6 (List.cons 7 (List.cons 8 (List.cons 9 (List.cons 10 (List.cons 11 (List.cons 12 (List.cons 13 (List.cons 14 (List.cons 15 List.nil)))))))))))))))) 16 List.nil) List.nil) (List.cons 17 (List.cons 18 (List.cons 19 (List.cons 20 List.nil)))) (by kernel_rfl) (by kernel_rfl) ?_
  simp only [Plan.wayOf, Plan.pickAll, List.getElem?_cons_zero, List.getElem?_cons_succ, List.getD_eq_getElem?_getD, Option.getD_some]
  refine Plan.wpWay_seg ?_
  repeat go_big_quiet_step (fail)
  refine wpQuiet_nil ?_
  refine Plan.wpWay_act ?_
  go_wp2_with fail
  refine hV.out.mono ?_
  rintro e w2 ⟨rfl, own', h1, h2⟩
  have hfin := Lib.hid (show StPost own w p (.tuple #[.int .i64 r.1, .int .i64 r.2]) s' (.returned (.tuple #[.int .i64 r.1, .int .i64 r.2])) w2 from ⟨rfl, own', h1, (Moves.of_frm (hF.out.drew.mono fun _ _ h => h.elim) fun _ h => .inl h).trans h2⟩)
  clear h1 h2
  go_wp2_with fail
  refine And.intro Plan.again_nil ?_
  refine Plan.wpWay_last ?_
  repeat go_big_quiet_step (fail)
  refine wpQuiet_nil ?_
  refine NoPanic.normal ?_
  go_wp2
  go_ret2
  exact hfin.out

set_option maxRecDepth 100000 in
set_option maxHeartbeats 1000000 in
theorem do_2 {w : World} {own : Nat → Prop} {p : Nat} {s : Sto} (hS : StoreAt w own p s) (k : Nat) (x : ActF) (vv vl : Value) (l : List Int) (hx : Sees w (Value.int .i64) vv x.vars) (hl : Sees w (Value.int .i64) vl l) (r : Int × Int) (s' : Sto) (hk : x.kind = 2) (ha : 0 ≤ x.a ∧ x.a < l.length) (hr : IteF k s (lat l x.a) 0 1 = some (r, s')) :
    Calls Try.prog 30 #[.pointer (some ⟨p, 0, none⟩), (.agg #[.int .i64 x.kind, .int .i64 x.a, .int .i64 x.b, .int .i64 x.c, vv]), vl] w (StPost own w p (.tuple #[.int .i64 r.1, .int .i64 r.2]) s') := by
  obtain ⟨B, d, rfl, _⟩ := sees_slice hx
  have hF1 : Frm (fun _ => False) w (w.alloc (.cells #[.int .i64 x.kind, .int .i64 x.a, .int .i64 x.b, .int .i64 x.c, (.slice B x.vars.length d)] 55)) := (Frm.refl _ _).alloc _
  have hb := blk_new (w := w) (.cells #[.int .i64 x.kind, .int .i64 x.a, .int .i64 x.b, .int .i64 x.c, (.slice B x.vars.length d)] 55)
  have c0 : (w.alloc (.cells #[.int .i64 x.kind, .int .i64 x.a, .int .i64 x.b, .int .i64 x.c, (.slice B x.vars.length d)] 55)).cell? ⟨w.heap.size, 0, none⟩ = some (.int .i64 x.kind) := blk_cell hb 0
  have c1 : (w.alloc (.cells #[.int .i64 x.kind, .int .i64 x.a, .int .i64 x.b, .int .i64 x.c, (.slice B x.vars.length d)] 55)).cell? ⟨w.heap.size, 1, none⟩ = some (.int .i64 x.a) := blk_cell hb 1
  have c2 : (w.alloc (.cells #[.int .i64 x.kind, .int .i64 x.a, .int .i64 x.b, .int .i64 x.c, (.slice B x.vars.length d)] 55)).cell? ⟨w.heap.size, 2, none⟩ = some (.int .i64 x.b) := blk_cell hb 2
  have c3 : (w.alloc (.cells #[.int .i64 x.kind, .int .i64 x.a, .int .i64 x.b, .int .i64 x.c, (.slice B x.vars.length d)] 55)).cell? ⟨w.heap.size, 3, none⟩ = some (.int .i64 x.c) := blk_cell hb 3
  have c4 : (w.alloc (.cells #[.int .i64 x.kind, .int .i64 x.a, .int .i64 x.b, .int .i64 x.c, (.slice B x.vars.length d)] 55)).cell? ⟨w.heap.size, 4, none⟩ = some (.slice B x.vars.length d) := blk_cell hb 4
  obtain ⟨gl, ol, cl, rfl, hat⟩ := sees_ints (hl.frm hF1 fun _ _ _ => id) (by omega)
  have la := hat _ ha
  have hV := Lib.hid (Not_calls (hS.alloc (.cells #[.int .i64 x.kind, .int .i64 x.a, .int .i64 x.b, .int .i64 x.c, (.slice B x.vars.length d)] 55)) k _ r s' hr)
  have hF := Lib.hid hF1
  have e0 : (x.kind == 0) = false := by simp [hk]
  have e1 : (x.kind == 1) = false := by simp [hk]
  have e2 : (x.kind == 2) = true := by simp [hk]
  obtain ⟨a0, a1⟩ := ha
  clear hS hx hl hr hF1 hb hk hat
  go_enter Try.func30, Try.ntmps30
  go_wp2_with fail
  refine hV.out.mono ?_
  rintro e w2 ⟨rfl, own', h1, h2⟩
  have hfin := Lib.hid (show StPost own w p (.tuple #[.int .i64 r.1, .int .i64 r.2]) s' (.returned (.tuple #[.int .i64 r.1, .int .i64 r.2])) w2 from ⟨rfl, own', h1, (Moves.of_frm (hF.out.mono fun _ _ h => h.elim) fun _ h => .inl h).trans h2⟩)
  clear h1 h2
  go_wp2
  go_ret2
  exact hfin.out

set_option maxRecDepth 100000 in
set_option maxHeartbeats 1000000 in
theorem do_3 {w : World} {own : Nat → Prop} {p : Nat} {s : Sto} (hS : StoreAt w own p s) (k : Nat) (x : ActF) (vv vl : Value) (l : List Int) (hx : Sees w (Value.int .i64) vv x.vars) (hl : Sees w (Value.int .i64) vl l) (r : Int × Int) (s' : Sto) (hk : x.kind = 3) (ha : 0 ≤ x.a ∧ x.a < l.length) (hbi : 0 ≤ x.b ∧ x.b < l.length) (hr : IteF k s (lat l x.a) (lat l x.b) 0 = some (r, s')) :
    Calls Try.prog 30 #[.pointer (some ⟨p, 0, none⟩), (.agg #[.int .i64 x.kind, .int .i64 x.a, .int .i64 x.b, .int .i64 x.c, vv]), vl] w (StPost own w p (.tuple #[.int .i64 r.1, .int .i64 r.2]) s') := by
  obtain ⟨B, d, rfl, _⟩ := sees_slice hx
  have hF1 : Frm (fun _ => False) w (w.alloc (.cells #[.int .i64 x.kind, .int .i64 x.a, .int .i64 x.b, .int .i64 x.c, (.slice B x.vars.length d)] 55)) := (Frm.refl _ _).alloc _
  have hb := blk_new (w := w) (.cells #[.int .i64 x.kind, .int .i64 x.a, .int .i64 x.b, .int .i64 x.c, (.slice B x.vars.length d)] 55)
  have c0 : (w.alloc (.cells #[.int .i64 x.kind, .int .i64 x.a, .int .i64 x.b, .int .i64 x.c, (.slice B x.vars.length d)] 55)).cell? ⟨w.heap.size, 0, none⟩ = some (.int .i64 x.kind) := blk_cell hb 0
  have c1 : (w.alloc (.cells #[.int .i64 x.kind, .int .i64 x.a, .int .i64 x.b, .int .i64 x.c, (.slice B x.vars.length d)] 55)).cell? ⟨w.heap.size, 1, none⟩ = some (.int .i64 x.a) := blk_cell hb 1
  have c2 : (w.alloc (.cells #[.int .i64 x.kind, .int .i64 x.a, .int .i64 x.b, .int .i64 x.c, (.slice B x.vars.length d)] 55)).cell? ⟨w.heap.size, 2, none⟩ = some (.int .i64 x.b) := blk_cell hb 2
  have c3 : (w.alloc (.cells #[.int .i64 x.kind, .int .i64 x.a, .int .i64 x.b, .int .i64 x.c, (.slice B x.vars.length d)] 55)).cell? ⟨w.heap.size, 3, none⟩ = some (.int .i64 x.c) := blk_cell hb 3
  have c4 : (w.alloc (.cells #[.int .i64 x.kind, .int .i64 x.a, .int .i64 x.b, .int .i64 x.c, (.slice B x.vars.length d)] 55)).cell? ⟨w.heap.size, 4, none⟩ = some (.slice B x.vars.length d) := blk_cell hb 4
  obtain ⟨gl, ol, cl, rfl, hat⟩ := sees_ints (hl.frm hF1 fun _ _ _ => id) (by omega)
  have la := hat _ ha
  have lb := hat _ hbi
  have hV := Lib.hid (And_calls (hS.alloc (.cells #[.int .i64 x.kind, .int .i64 x.a, .int .i64 x.b, .int .i64 x.c, (.slice B x.vars.length d)] 55)).drew k _ _ r s' hr)
  have hF := Lib.hid hF1
  have e0 : (x.kind == 0) = false := by simp [hk]
  have e1 : (x.kind == 1) = false := by simp [hk]
  have e2 : (x.kind == 2) = false := by simp [hk]
  have e3 : (x.kind == 3) = true := by simp [hk]
  obtain ⟨a0, a1⟩ := ha
  obtain ⟨b0, b1⟩ := hbi
  clear hS hx hl hr hF1 hb hk hat
  go_enter Try.func30, Try.ntmps30
  go_wp2
  refine Plan.wp_region_plan [0, 0, 0, 4, 14, 30, 0, 0, 128, 448, 960, 2047, 4095, 4095, 16383, 32767] (List.cons (Plan.Seg.mk (List.cons 0 (List.cons 1 (List.cons 2 (List.cons 3 (List.cons 4 (List.cons 5 (List.cons 6 (List.cons 7 (List.cons 8 (List.cons 9 (List.cons 10 List.nil))))))))))) 11 List.nil) List.nil) (List.cons 12 (List.cons 13 (List.cons 14 (List.cons 15 List.nil)))) (by kernel_rfl) (by kernel_rfl) ?_
  simp only [Plan.wayOf, Plan.pickAll, List.getElem?_cons_zero, List.getElem?_cons_succ, List.getD_eq_getElem?_getD, Option.getD_some]
  refine Plan.wpWay_seg ?_
  repeat go_big_quiet_step (fail)
  refine wpQuiet_nil ?_
  refine Plan.wpWay_act ?_
  go_wp2_with fail
  refine hV.out.mono ?_
  rintro e w2 ⟨rfl, own', h1, h2⟩
  have hfin := Lib.hid (show StPost own w p (.tuple #[.int .i64 r.1, .int .i64 r.2]) s' (.returned (.tuple #[.int .i64 r.1, .int .i64 r.2])) w2 from ⟨rfl, own', h1, (Moves.of_frm (hF.out.drew.mono fun _ _ h => h.elim) fun _ h => .inl h).trans h2⟩)
  clear h1 h2
  go_wp2_with fail
  refine And.intro Plan.again_nil ?_
  refine Plan.wpWay_last ?_
  repeat go_big_quiet_step (fail)
  refine wpQuiet_nil ?_
  refine NoPanic.normal ?_
  go_wp2
  go_ret2
  exact hfin.out

set_option maxRecDepth 100000 in
set_option maxHeartbeats 1000000 in
theorem do_4 {w : World} {own : Nat → Prop} {p : Nat} {s : Sto} (hS : StoreAt w own p s) (k : Nat) (x : ActF) (vv vl : Value) (l : List Int) (hx : Sees w (Value.int .i64) vv x.vars) (hl : Sees w (Value.int .i64) vl l) (r : Int × Int) (s' : Sto) (hk : x.kind = 4) (ha : 0 ≤ x.a ∧ x.a < l.length) (hbi : 0 ≤ x.b ∧ x.b < l.length) (hr : IteF k s (lat l x.a) 1 (lat l x.b) = some (r, s')) :
    Calls Try.prog 30 #[.pointer (some ⟨p, 0, none⟩), (.agg #[.int .i64 x.kind, .int .i64 x.a, .int .i64 x.b, .int .i64 x.c, vv]), vl] w (StPost own w p (.tuple #[.int .i64 r.1, .int .i64 r.2]) s') := by
  obtain ⟨B, d, rfl, _⟩ := sees_slice hx
  have hF1 : Frm (fun _ => False) w (w.alloc (.cells #[.int .i64 x.kind, .int .i64 x.a, .int .i64 x.b, .int .i64 x.c, (.slice B x.vars.length d)] 55)) := (Frm.refl _ _).alloc _
  have hb := blk_new (w := w) (.cells #[.int .i64 x.kind, .int .i64 x.a, .int .i64 x.b, .int .i64 x.c, (.slice B x.vars.length d)] 55)
  have c0 : (w.alloc (.cells #[.int .i64 x.kind, .int .i64 x.a, .int .i64 x.b, .int .i64 x.c, (.slice B x.vars.length d)] 55)).cell? ⟨w.heap.size, 0, none⟩ = some (.int .i64 x.kind) := blk_cell hb 0
  have c1 : (w.alloc (.cells #[.int .i64 x.kind, .int .i64 x.a, .int .i64 x.b, .int .i64 x.c, (.slice B x.vars.length d)] 55)).cell? ⟨w.heap.size, 1, none⟩ = some (.int .i64 x.a) := blk_cell hb 1
  have c2 : (w.alloc (.cells #[.int .i64 x.kind, .int .i64 x.a, .int .i64 x.b, .int .i64 x.c, (.slice B x.vars.length d)] 55)).cell? ⟨w.heap.size, 2, none⟩ = some (.int .i64 x.b) := blk_cell hb 2
  have c3 : (w.alloc (.cells #[.int .i64 x.kind, .int .i64 x.a, .int .i64 x.b, .int .i64 x.c, (.slice B x.vars.length d)] 55)).cell? ⟨w.heap.size, 3, none⟩ = some (.int .i64 x.c) := blk_cell hb 3
  have c4 : (w.alloc (.cells #[.int .i64 x.kind, .int .i64 x.a, .int .i64 x.b, .int .i64 x.c, (.slice B x.vars.length d)] 55)).cell? ⟨w.heap.size, 4, none⟩ = some (.slice B x.vars.length d) := blk_cell hb 4
  obtain ⟨gl, ol, cl, rfl, hat⟩ := sees_ints (hl.frm hF1 fun _ _ _ => id) (by omega)
  have la := hat _ ha
  have lb := hat _ hbi
  have hV := Lib.hid (Or_calls (hS.alloc (.cells #[.int .i64 x.kind, .int .i64 x.a, .int .i64 x.b, .int .i64 x.c, (.slice B x.vars.length d)] 55)).drew k _ _ r s' hr)
  have hF := Lib.hid hF1
  have e0 : (x.kind == 0) = false := by simp [hk]
  have e1 : (x.kind == 1) = false := by simp [hk]
  have e2 : (x.kind == 2) = false := by simp [hk]
  have e3 : (x.kind == 3) = false := by simp [hk]
  have e4 : (x.kind == 4) = true := by simp [hk]
  obtain ⟨a0, a1⟩ := ha
  obtain ⟨b0, b1⟩ := hbi
  clear hS hx hl hr hF1 hb hk hat
  go_enter Try.func30, Try.ntmps30
  go_wp2
  refine Plan.wp_region_plan [0, 0, 0, 4, 14, 30, 0, 0, 128, 448, 960, 2047, 4095, 4095, 16383, 32767] (List.cons (Plan.Seg.mk (List.cons 0 (List.cons 1 (List.cons 2 (List.cons 3 (List.cons 4 (List.cons 5 (List.cons 6 (List.cons 7 (List.cons 8 (List.cons 9 (List.cons 10 List.nil))))))))))) 11 List.nil) List.nil) (List.cons 12 (List.cons 13 (List.cons 14 (List.cons 15 List.nil)))) (by kernel_rfl) (by kernel_rfl) ?_
  simp only [Plan.wayOf, Plan.pickAll, List.getElem?_cons_zero, List.getElem?_cons_succ, List.getD_eq_getElem?_getD, Option.getD_some]
  refine Plan.wpWay_seg ?_
  repeat go_big_quiet_step (fail)
  refine wpQuiet_nil ?_
  refine Plan.wpWay_act ?_
  go_wp2_with fail
  refine hV.out.mono ?_
  rintro e w2 ⟨rfl, own', h1, h2⟩
  have hfin := Lib.hid (show StPost own w p (.tuple #[.int .i64 r.1, .int .i64 r.2]) s' (.returned (.tuple #[.int .i64 r.1, .int .i64 r.2])) w2 from ⟨rfl, own', h1, (Moves.of_frm (hF.out.drew.mono fun _ _ h => h.elim) fun _ h => .inl h).trans h2⟩)
  clear h1 h2
  go_wp2_with fail
  refine And.intro Plan.again_nil ?_
  refine Plan.wpWay_last ?_
  repeat go_big_quiet_step (fail)
  refine wpQuiet_nil ?_
  refine NoPanic.normal ?_
  go_wp2
  go_ret2
  exact hfin.out

set_option maxRecDepth 100000 in
set_option maxHeartbeats 1000000 in
theorem do_5 {w : World} {own : Nat → Prop} {p : Nat} {s : Sto} (hS : StoreAt w own p s) (k : Nat) (x : ActF) (vv vl : Value) (l : List Int) (hx : Sees w (Value.int .i64) vv x.vars) (hl : Sees w (Value.int .i64) vl l) (r : Int × Int) (s' : Sto) (hk : x.kind = 5) (ha : 0 ≤ x.a ∧ x.a < l.length) (hbi : 0 ≤ x.b ∧ x.b < l.length) (hr : iffF k s (lat l x.a) (lat l x.b) = some (r, s')) :
    Calls Try.prog 30 #[.pointer (some ⟨p, 0, none⟩), (.agg #[.int .i64 x.kind, .int .i64 x.a, .int .i64 x.b, .int .i64 x.c, vv]), vl] w (StPost own w p (.tuple #[.int .i64 r.1, .int .i64 r.2]) s') := by
  obtain ⟨B, d, rfl, _⟩ := sees_slice hx
  have hF1 : Frm (fun _ => False) w (w.alloc (.cells #[.int .i64 x.kind, .int .i64 x.a, .int .i64 x.b, .int .i64 x.c, (.slice B x.vars.length d)] 55)) := (Frm.refl _ _).alloc _
  have hb := blk_new (w := w) (.cells #[.int .i64 x.kind, .int .i64 x.a, .int .i64 x.b, .int .i64 x.c, (.slice B x.vars.length d)] 55)
  have c0 : (w.alloc (.cells #[.int .i64 x.kind, .int .i64 x.a, .int .i64 x.b, .int .i64 x.c, (.slice B x.vars.length d)] 55)).cell? ⟨w.heap.size, 0, none⟩ = some (.int .i64 x.kind) := blk_cell hb 0
  have c1 : (w.alloc (.cells #[.int .i64 x.kind, .int .i64 x.a, .int .i64 x.b, .int .i64 x.c, (.slice B x.vars.length d)] 55)).cell? ⟨w.heap.size, 1, none⟩ = some (.int .i64 x.a) := blk_cell hb 1
  have c2 : (w.alloc (.cells #[.int .i64 x.kind, .int .i64 x.a, .int .i64 x.b, .int .i64 x.c, (.slice B x.vars.length d)] 55)).cell? ⟨w.heap.size, 2, none⟩ = some (.int .i64 x.b) := blk_cell hb 2
  have c3 : (w.alloc (.cells #[.int .i64 x.kind, .int .i64 x.a, .int .i64 x.b, .int .i64 x.c, (.slice B x.vars.length d)] 55)).cell? ⟨w.heap.size, 3, none⟩ = some (.int .i64 x.c) := blk_cell hb 3
  have c4 : (w.alloc (.cells #[.int .i64 x.kind, .int .i64 x.a, .int .i64 x.b, .int .i64 x.c, (.slice B x.vars.length d)] 55)).cell? ⟨w.heap.size, 4, none⟩ = some (.slice B x.vars.length d) := blk_cell hb 4
  obtain ⟨gl, ol, cl, rfl, hat⟩ := sees_ints (hl.frm hF1 fun _ _ _ => id) (by omega)
  have la := hat _ ha
  have lb := hat _ hbi
  have hV := Lib.hid (Iff_calls (hS.alloc (.cells #[.int .i64 x.kind, .int .i64 x.a, .int .i64 x.b, .int .i64 x.c, (.slice B x.vars.length d)] 55)).drew k _ _ r s' hr)
  have hF := Lib.hid hF1
  have e0 : (x.kind == 0) = false := by simp [hk]
  have e1 : (x.kind == 1) = false := by simp [hk]
  have e2 : (x.kind == 2) = false := by simp [hk]
  have e3 : (x.kind == 3) = false := by simp [hk]
  have e4 : (x.kind == 4) = false := by simp [hk]
  have e5 : (x.kind == 5) = true := by simp [hk]
  obtain ⟨a0, a1⟩ := ha
  obtain ⟨b0, b1⟩ := hbi
  clear hS hx hl hr hF1 hb hk hat
  go_enter Try.func30, Try.ntmps30
  go_wp2
  refine Plan.wp_region_plan [0, 0, 0, 4, 14, 30, 0, 0, 128, 448, 960, 2047, 4095, 4095, 16383, 32767] (List.cons (Plan.Seg.mk (List.cons 0 (List.cons 1 (List.cons 2 (List.cons 3 (List.cons 4 (List.cons 5 (List.cons 6 (List.cons 7 (List.cons 8 (List.cons 9 (List.cons 10 List.nil))))))))))) 11 List.nil) List.nil) (List.cons 12 (List.cons 13 (List.cons 14 (List.cons 15 List.nil)))) (by kernel_rfl) (by kernel_rfl) ?_
  simp only [Plan.wayOf, Plan.pickAll, List.getElem?_cons_zero, List.getElem?_cons_succ, List.getD_eq_getElem?_getD, Option.getD_some]
  refine Plan.wpWay_seg ?_
  repeat go_big_quiet_step (fail)
  refine wpQuiet_nil ?_
  refine Plan.wpWay_act ?_
  go_wp2_with fail
  refine hV.out.mono ?_
  rintro e w2 ⟨rfl, own', h1, h2⟩
  have hfin := Lib.hid (show StPost own w p (.tuple #[.int .i64 r.1, .int .i64 r.2]) s' (.returned (.tuple #[.int .i64 r.1, .int .i64 r.2])) w2 from ⟨rfl, own', h1, (Moves.of_frm (hF.out.drew.mono fun _ _ h => h.elim) fun _ h => .inl h).trans h2⟩)
  clear h1 h2
  go_wp2_with fail
  refine And.intro Plan.again_nil ?_
  refine Plan.wpWay_last ?_
  repeat go_big_quiet_step (fail)
  refine wpQuiet_nil ?_
  refine NoPanic.normal ?_
  go_wp2
  go_ret2
  exact hfin.out

set_option maxRecDepth 100000 in
set_option maxHeartbeats 2000000 in
theorem do_6 {w : World} {own : Nat → Prop} {p : Nat} {s : Sto} (hS : StoreAt w own p s) (k : Nat) (x : ActF) (vv vl : Value) (l : List Int) (hx : Sees w (Value.int .i64) vv x.vars) (hl : Sees w (Value.int .i64) vl l) (r : Int × Int) (s' : Sto) (hk : x.kind = 6) (ha : 0 ≤ x.a ∧ x.a < l.length) (hvn : x.vars.length ≤ 4294967296) (hr : existsF k s (lat l x.a) x.vars = some (r, s')) :
    Calls Try.prog 30 #[.pointer (some ⟨p, 0, none⟩), (.agg #[.int .i64 x.kind, .int .i64 x.a, .int .i64 x.b, .int .i64 x.c, vv]), vl] w (StPost own w p (.tuple #[.int .i64 r.1, .int .i64 r.2]) s') := by
  obtain ⟨i0, hi0, hz0, hz1, hz2⟩ := info_parts info_int
  obtain ⟨B, d, rfl, _⟩ := sees_slice hx
  have hF1 : Frm (fun _ => False) w (w.alloc (.cells #[.int .i64 x.kind, .int .i64 x.a, .int .i64 x.b, .int .i64 x.c, (.slice B x.vars.length d)] 55)) := (Frm.refl _ _).alloc _
  have hb := blk_new (w := w) (.cells #[.int .i64 x.kind, .int .i64 x.a, .int .i64 x.b, .int .i64 x.c, (.slice B x.vars.length d)] 55)
  have c0 : (w.alloc (.cells #[.int .i64 x.kind, .int .i64 x.a, .int .i64 x.b, .int .i64 x.c, (.slice B x.vars.length d)] 55)).cell? ⟨w.heap.size, 0, none⟩ = some (.int .i64 x.kind) := blk_cell hb 0
  have c1 : (w.alloc (.cells #[.int .i64 x.kind, .int .i64 x.a, .int .i64 x.b, .int .i64 x.c, (.slice B x.vars.length d)] 55)).cell? ⟨w.heap.size, 1, none⟩ = some (.int .i64 x.a) := blk_cell hb 1
  have c2 : (w.alloc (.cells #[.int .i64 x.kind, .int .i64 x.a, .int .i64 x.b, .int .i64 x.c, (.slice B x.vars.length d)] 55)).cell? ⟨w.heap.size, 2, none⟩ = some (.int .i64 x.b) := blk_cell hb 2
  have c3 : (w.alloc (.cells #[.int .i64 x.kind, .int .i64 x.a, .int .i64 x.b, .int .i64 x.c, (.slice B x.vars.length d)] 55)).cell? ⟨w.heap.size, 3, none⟩ = some (.int .i64 x.c) := blk_cell hb 3
  have c4 : (w.alloc (.cells #[.int .i64 x.kind, .int .i64 x.a, .int .i64 x.b, .int .i64 x.c, (.slice B x.vars.length d)] 55)).cell? ⟨w.heap.size, 4, none⟩ = some (.slice B x.vars.length d) := blk_cell hb 4
  obtain ⟨gl, ol, cl, rfl, hat⟩ := sees_ints (hl.frm hF1 fun _ _ _ => id) (by omega)
  have la := hat _ ha
  have hF := Lib.hid hF1
  have HX := Lib.hid hx
  have HS := Lib.hid hS
  have HR := Lib.hid hr
  have HN := Lib.hid hvn
  have e0 : (x.kind == 0) = false := by simp [hk]
  have e1 : (x.kind == 1) = false := by simp [hk]
  have e2 : (x.kind == 2) = false := by simp [hk]
  have e3 : (x.kind == 3) = false := by simp [hk]
  have e4 : (x.kind == 4) = false := by simp [hk]
  have e5 : (x.kind == 5) = false := by simp [hk]
  have e6 : (x.kind == 6) = true := by simp [hk]
  obtain ⟨a0, a1⟩ := ha
  have hbl := lt_of_block hb
  have hll : gl < (w.alloc (.cells #[.int .i64 x.kind, .int .i64 x.a, .int .i64 x.b, .int .i64 x.c, (.slice B x.vars.length d)] 55)).heap.size := World.block_lt_of_cell? _ _ la
  have la2 : ((w.alloc (.cells #[.int .i64 x.kind, .int .i64 x.a, .int .i64 x.b, .int .i64 x.c, (.slice B x.vars.length d)] 55)).alloc (.cells #[] 3)).cell? ⟨gl, ol + x.a.toNat, none⟩ = some (.int .i64 (lat l x.a)) := (World.cell?_of_block (Below.heap_alloc _ _ _ hll)).trans la
  clear hS hx hl hr hF1 hb hk hat hvn
  go_enter Try.func30, Try.ntmps30
  go_wp2
  refine Plan.wp_region_plan [0, 0, 0, 4, 14, 30, 0, 0, 128, 448, 1023, 2047, 2047, 8191, 16383] (List.cons (Plan.Seg.mk (List.cons 0 (List.cons 1 (List.cons 2 (List.cons 3 (List.cons 4 (List.cons 5 (List.cons 7 (List.cons 8 List.nil)))))))) 6 (List.cons 0 (List.cons 1 (List.cons 2 (List.cons 3 (List.cons 4 (List.cons 5 (List.cons 7 (List.cons 8 List.nil))))))))) (List.cons (Plan.Seg.mk List.nil 9 (List.cons 0 (List.cons 1 (List.cons 2 (List.cons 3 (List.cons 4 (List.cons 5 List.nil))))))) (List.cons (Plan.Seg.mk List.nil 10 List.nil) List.nil))) (List.cons 11 (List.cons 12 (List.cons 13 (List.cons 14 List.nil)))) (by kernel_rfl) (by kernel_rfl) ?_
  simp only [Plan.wayOf, Plan.pickAll, List.getElem?_cons_zero, List.getElem?_cons_succ, List.getD_eq_getElem?_getD, Option.getD_some]
  refine Plan.wpWay_seg ?_
  repeat go_big_quiet_step (fail)
  refine wpQuiet_nil ?_
  refine Plan.wpWay_act ?_
  go_wp2_with (fail)
  refine And.intro ?_ ?_
  focus
    refine Plan.again_cons ?_ ?_
    focus
      go_big_quiet_step (fail)
      exact wpQuiet_nil rfl
    refine Plan.again_cons ?_ ?_
    focus
      go_big_quiet_step (fail)
      exact wpQuiet_nil rfl
    refine Plan.again_cons ?_ ?_
    focus
      go_big_quiet_step (fail)
      exact wpQuiet_nil rfl
    refine Plan.again_cons ?_ ?_
    focus
      go_big_quiet_step (fail)
      exact wpQuiet_nil rfl
    refine Plan.again_cons ?_ ?_
    focus
      go_big_quiet_step (fail)
      exact wpQuiet_nil rfl
    refine Plan.again_cons ?_ ?_
    focus
      go_big_quiet_step (fail)
      exact wpQuiet_nil rfl
    refine Plan.again_cons ?_ ?_
    focus
      go_big_quiet_step (fail)
      exact wpQuiet_nil rfl
    refine Plan.again_cons ?_ ?_
    focus
      go_big_quiet_step (fail)
      exact wpQuiet_nil rfl
    exact Plan.again_nil
  refine Plan.wpWay_seg ?_
  refine wpQuiet_nil ?_
  refine Plan.wpWay_act ?_
  go_wp2_with (first | (at_builtin; refine wpList_append_sees rfl _ _ 28 rfl 3 i0 (.int .i64 0) 8 Try.underlying28 hi0 hz0 hz1 hz2 rfl (enc := Value.int .i64) (fun _ => rfl) (.slice (some ⟨w.heap.size + 1, 0, none⟩) 0 0) ([] : List Int) x.vars rfl ⟨by simp, .inr ⟨_, 0, _, rfl, Nat.zero_le _, blk_new_at _ (by simp), by simp⟩⟩ (.slice B x.vars.length d) rfl (HX.out.frm ((hF.out.drew).alloc _) fun _ _ _ => id) ?c1 ?c2 ?_) | go_in)
  case c1 => have := HN.out; have : maxLen = 9223372036854775807 := rfl; simp; omega
  case c2 => have := HN.out; simp; omega
  intro v7 w7 hrow hfr hg
  have hF7 : Frm (fun _ => False) (w.alloc (.cells #[.int .i64 x.kind, .int .i64 x.a, .int .i64 x.b, .int .i64 x.c, (.slice B x.vars.length d)] 55)) w7 := ((Frm.refl (fun _ => False) (w.alloc (.cells #[.int .i64 x.kind, .int .i64 x.a, .int .i64 x.b, .int .i64 x.c, (.slice B x.vars.length d)] 55))).drew.alloc (.cells #[] 3)).trans hfr fun b hb h => by cases h; simp at hb
  have r1 : w7.cell? ⟨w.heap.size, 1, none⟩ = some (.int .i64 x.a) := (World.cell?_of_block (hF7.block _ hbl id)).trans c1
  have r4 : w7.cell? ⟨w.heap.size, 4, none⟩ = some (.slice B x.vars.length d) := (World.cell?_of_block (hF7.block _ hbl id)).trans c4
  have rl : w7.cell? ⟨gl, ol + x.a.toNat, none⟩ = some (.int .i64 (lat l x.a)) := (World.cell?_of_block (hF7.block _ hll id)).trans la
  have HF7 := Lib.hid (hF.out.trans hF7 fun _ _ h => h)
  have HRW := Lib.hid hrow.sees
  have HG := Lib.hid hg
  have HSZ := Lib.hid hF7.size
  clear hrow hfr hg hF7
  go_wp2_with fail
  refine And.intro ?_ ?_
  focus
    refine Plan.again_cons ?_ ?_
    focus
      go_big_quiet_step (fail)
      exact wpQuiet_nil rfl
    refine Plan.again_cons ?_ ?_
    focus
      go_big_quiet_step (fail)
      exact wpQuiet_nil rfl
    refine Plan.again_cons ?_ ?_
    focus
      go_big_quiet_step (fail)
      exact wpQuiet_nil rfl
    refine Plan.again_cons ?_ ?_
    focus
      go_big_quiet_step (fail)
      exact wpQuiet_nil rfl
    refine Plan.again_cons ?_ ?_
    focus
      go_big_quiet_step (fail)
      exact wpQuiet_nil rfl
    refine Plan.again_cons ?_ ?_
    focus
      go_big_quiet_step (fail)
      exact wpQuiet_nil rfl
    exact Plan.again_nil
  refine Plan.wpWay_seg ?_
  refine wpQuiet_nil ?_
  refine Plan.wpWay_act ?_
  go_wp2_with fail
  refine (Exists_calls (HS.out.frm HF7.out fun _ _ => id) k (lat l x.a) v7 x.vars HRW.out (fun g hg hlt ho => ?_) r s' HR.out).mono ?_
  · exact new_not_own HS.out (Nat.le_succ _) (by first | omega | (simp [World.drew]; omega)) HG.out g hg ho
  rintro e w2 ⟨rfl, own', h1, h2⟩
  have hfin := Lib.hid (show StPost own w p (.tuple #[.int .i64 r.1, .int .i64 r.2]) s' (.returned (.tuple #[.int .i64 r.1, .int .i64 r.2])) w2 from ⟨rfl, own', h1, (Moves.of_frm (HF7.out.mono fun _ _ h => h.elim) fun _ h => .inl h).trans h2⟩)
  clear h1 h2
  go_wp2_with fail
  refine And.intro Plan.again_nil ?_
  refine Plan.wpWay_last ?_
  repeat go_big_quiet_step (fail)
  refine wpQuiet_nil ?_
  refine NoPanic.normal ?_
  go_wp2
  go_ret2
  exact hfin.out

set_option maxRecDepth 100000 in
set_option maxHeartbeats 2000000 in
theorem do_7 {w : World} {own : Nat → Prop} {p : Nat} {s : Sto} (hS : StoreAt w own p s) (k : Nat) (x : ActF) (vv vl : Value) (l : List Int) (hx : Sees w (Value.int .i64) vv x.vars) (hl : Sees w (Value.int .i64) vl l) (r : Int × Int) (s' : Sto) (hk : x.kind = 7) (ha : 0 ≤ x.a ∧ x.a < l.length) (hvn : x.vars.length ≤ 4294967296) (hkeys : (x.vars.length : Int) = s.vars → ∀ out, supportF k s (lat l x.a) = some out → ∀ v ∈ out.map (·.1), (nth x.vars v).isSome = true) (hr : renameF k s (lat l x.a) x.vars = some (r, s')) :
    Calls Try.prog 30 #[.pointer (some ⟨p, 0, none⟩), (.agg #[.int .i64 x.kind, .int .i64 x.a, .int .i64 x.b, .int .i64 x.c, vv]), vl] w (StPost own w p (.tuple #[.int .i64 r.1, .int .i64 r.2]) s') := by
  obtain ⟨i0, hi0, hz0, hz1, hz2⟩ := info_parts info_int
  obtain ⟨B, d, rfl, _⟩ := sees_slice hx
  have hF1 : Frm (fun _ => False) w (w.alloc (.cells #[.int .i64 x.kind, .int .i64 x.a, .int .i64 x.b, .int .i64 x.c, (.slice B x.vars.length d)] 55)) := (Frm.refl _ _).alloc _
  have hb := blk_new (w := w) (.cells #[.int .i64 x.kind, .int .i64 x.a, .int .i64 x.b, .int .i64 x.c, (.slice B x.vars.length d)] 55)
  have c0 : (w.alloc (.cells #[.int .i64 x.kind, .int .i64 x.a, .int .i64 x.b, .int .i64 x.c, (.slice B x.vars.length d)] 55)).cell? ⟨w.heap.size, 0, none⟩ = some (.int .i64 x.kind) := blk_cell hb 0
  have c1 : (w.alloc (.cells #[.int .i64 x.kind, .int .i64 x.a, .int .i64 x.b, .int .i64 x.c, (.slice B x.vars.length d)] 55)).cell? ⟨w.heap.size, 1, none⟩ = some (.int .i64 x.a) := blk_cell hb 1
  have c2 : (w.alloc (.cells #[.int .i64 x.kind, .int .i64 x.a, .int .i64 x.b, .int .i64 x.c, (.slice B x.vars.length d)] 55)).cell? ⟨w.heap.size, 2, none⟩ = some (.int .i64 x.b) := blk_cell hb 2
  have c3 : (w.alloc (.cells #[.int .i64 x.kind, .int .i64 x.a, .int .i64 x.b, .int .i64 x.c, (.slice B x.vars.length d)] 55)).cell? ⟨w.heap.size, 3, none⟩ = some (.int .i64 x.c) := blk_cell hb 3
  have c4 : (w.alloc (.cells #[.int .i64 x.kind, .int .i64 x.a, .int .i64 x.b, .int .i64 x.c, (.slice B x.vars.length d)] 55)).cell? ⟨w.heap.size, 4, none⟩ = some (.slice B x.vars.length d) := blk_cell hb 4
  obtain ⟨gl, ol, cl, rfl, hat⟩ := sees_ints (hl.frm hF1 fun _ _ _ => id) (by omega)
  have la := hat _ ha
  have hF := Lib.hid hF1
  have HX := Lib.hid hx
  have HS := Lib.hid hS
  have HR := Lib.hid hr
  have HN := Lib.hid hvn
  have HK := Lib.hid hkeys
  have e0 : (x.kind == 0) = false := by simp [hk]
  have e1 : (x.kind == 1) = false := by simp [hk]
  have e2 : (x.kind == 2) = false := by simp [hk]
  have e3 : (x.kind == 3) = false := by simp [hk]
  have e4 : (x.kind == 4) = false := by simp [hk]
  have e5 : (x.kind == 5) = false := by simp [hk]
  have e6 : (x.kind == 6) = false := by simp [hk]
  obtain ⟨a0, a1⟩ := ha
  have hbl := lt_of_block hb
  have hll : gl < (w.alloc (.cells #[.int .i64 x.kind, .int .i64 x.a, .int .i64 x.b, .int .i64 x.c, (.slice B x.vars.length d)] 55)).heap.size := World.block_lt_of_cell? _ _ la
  have la2 : ((w.alloc (.cells #[.int .i64 x.kind, .int .i64 x.a, .int .i64 x.b, .int .i64 x.c, (.slice B x.vars.length d)] 55)).alloc (.cells #[] 3)).cell? ⟨gl, ol + x.a.toNat, none⟩ = some (.int .i64 (lat l x.a)) := (World.cell?_of_block (Below.heap_alloc _ _ _ hll)).trans la
  clear hS hx hl hr hF1 hb hk hat hvn hkeys
  go_enter Try.func30, Try.ntmps30
  go_wp2
  refine Plan.wp_region_plan [0, 0, 0, 4, 14, 30, 0, 0, 128, 448, 1023, 2047, 2047, 8191, 16383] (List.cons (Plan.Seg.mk (List.cons 0 (List.cons 1 (List.cons 2 (List.cons 3 (List.cons 4 (List.cons 5 (List.cons 7 (List.cons 8 List.nil)))))))) 6 (List.cons 0 (List.cons 1 (List.cons 2 (List.cons 3 (List.cons 4 (List.cons 5 (List.cons 7 (List.cons 8 List.nil))))))))) (List.cons (Plan.Seg.mk List.nil 9 (List.cons 0 (List.cons 1 (List.cons 2 (List.cons 3 (List.cons 4 (List.cons 5 List.nil))))))) (List.cons (Plan.Seg.mk List.nil 10 List.nil) List.nil))) (List.cons 11 (List.cons 12 (List.cons 13 (List.cons 14 List.nil)))) (by kernel_rfl) (by kernel_rfl) ?_
  simp only [Plan.wayOf, Plan.pickAll, List.getElem?_cons_zero, List.getElem?_cons_succ, List.getD_eq_getElem?_getD, Option.getD_some]
  refine Plan.wpWay_seg ?_
  repeat go_big_quiet_step (fail)
  refine wpQuiet_nil ?_
  refine Plan.wpWay_act ?_
  go_wp2_with (fail)
  refine And.intro ?_ ?_
  focus
    refine Plan.again_cons ?_ ?_
    focus
      go_big_quiet_step (fail)
      exact wpQuiet_nil rfl
    refine Plan.again_cons ?_ ?_
    focus
      go_big_quiet_step (fail)
      exact wpQuiet_nil rfl
    refine Plan.again_cons ?_ ?_
    focus
      go_big_quiet_step (fail)
      exact wpQuiet_nil rfl
    refine Plan.again_cons ?_ ?_
    focus
      go_big_quiet_step (fail)
      exact wpQuiet_nil rfl
    refine Plan.again_cons ?_ ?_
    focus
      go_big_quiet_step (fail)
      exact wpQuiet_nil rfl
    refine Plan.again_cons ?_ ?_
    focus
      go_big_quiet_step (fail)
      exact wpQuiet_nil rfl
    refine Plan.again_cons ?_ ?_
    focus
      go_big_quiet_step (fail)
      exact wpQuiet_nil rfl
    refine Plan.again_cons ?_ ?_
    focus
      go_big_quiet_step (fail)
      exact wpQuiet_nil rfl
    exact Plan.again_nil
  refine Plan.wpWay_seg ?_
  refine wpQuiet_nil ?_
  refine Plan.wpWay_act ?_
  go_wp2_with (first | (at_builtin; refine wpList_append_sees rfl _ _ 28 rfl 3 i0 (.int .i64 0) 8 Try.underlying28 hi0 hz0 hz1 hz2 rfl (enc := Value.int .i64) (fun _ => rfl) (.slice (some ⟨w.heap.size + 1, 0, none⟩) 0 0) ([] : List Int) x.vars rfl ⟨by simp, .inr ⟨_, 0, _, rfl, Nat.zero_le _, blk_new_at _ (by simp), by simp⟩⟩ (.slice B x.vars.length d) rfl (HX.out.frm ((hF.out.drew).alloc _) fun _ _ _ => id) ?c1 ?c2 ?_) | go_in)
  case c1 => have := HN.out; have : maxLen = 9223372036854775807 := rfl; simp; omega
  case c2 => have := HN.out; simp; omega
  intro v7 w7 hrow hfr hg
  have hF7 : Frm (fun _ => False) (w.alloc (.cells #[.int .i64 x.kind, .int .i64 x.a, .int .i64 x.b, .int .i64 x.c, (.slice B x.vars.length d)] 55)) w7 := ((Frm.refl (fun _ => False) (w.alloc (.cells #[.int .i64 x.kind, .int .i64 x.a, .int .i64 x.b, .int .i64 x.c, (.slice B x.vars.length d)] 55))).drew.alloc (.cells #[] 3)).trans hfr fun b hb h => by cases h; simp at hb
  have r1 : w7.cell? ⟨w.heap.size, 1, none⟩ = some (.int .i64 x.a) := (World.cell?_of_block (hF7.block _ hbl id)).trans c1
  have r4 : w7.cell? ⟨w.heap.size, 4, none⟩ = some (.slice B x.vars.length d) := (World.cell?_of_block (hF7.block _ hbl id)).trans c4
  have rl : w7.cell? ⟨gl, ol + x.a.toNat, none⟩ = some (.int .i64 (lat l x.a)) := (World.cell?_of_block (hF7.block _ hll id)).trans la
  have HF7 := Lib.hid (hF.out.trans hF7 fun _ _ h => h)
  have HRW := Lib.hid hrow.sees
  have HG := Lib.hid hg
  have HSZ := Lib.hid hF7.size
  clear hrow hfr hg hF7
  go_wp2_with fail
  refine And.intro ?_ ?_
  focus
    refine Plan.again_cons ?_ ?_
    focus
      go_big_quiet_step (fail)
      exact wpQuiet_nil rfl
    refine Plan.again_cons ?_ ?_
    focus
      go_big_quiet_step (fail)
      exact wpQuiet_nil rfl
    refine Plan.again_cons ?_ ?_
    focus
      go_big_quiet_step (fail)
      exact wpQuiet_nil rfl
    refine Plan.again_cons ?_ ?_
    focus
      go_big_quiet_step (fail)
      exact wpQuiet_nil rfl
    refine Plan.again_cons ?_ ?_
    focus
      go_big_quiet_step (fail)
      exact wpQuiet_nil rfl
    refine Plan.again_cons ?_ ?_
    focus
      go_big_quiet_step (fail)
      exact wpQuiet_nil rfl
    exact Plan.again_nil
  refine Plan.wpWay_seg ?_
  refine wpQuiet_nil ?_
  refine Plan.wpWay_act ?_
  go_wp2_with fail
  refine (Rename_calls (HS.out.frm HF7.out fun _ _ => id) k (lat l x.a) v7 x.vars HRW.out (fun g hg hlt ho => ?_) HK.out r s' HR.out).mono ?_
  · exact new_not_own HS.out (Nat.le_succ _) (by first | omega | (simp [World.drew]; omega)) HG.out g hg ho
  rintro e w2 ⟨rfl, own', h1, h2⟩
  have hfin := Lib.hid (show StPost own w p (.tuple #[.int .i64 r.1, .int .i64 r.2]) s' (.returned (.tuple #[.int .i64 r.1, .int .i64 r.2])) w2 from ⟨rfl, own', h1, (Moves.of_frm (HF7.out.mono fun _ _ h => h.elim) fun _ h => .inl h).trans h2⟩)
  clear h1 h2
  go_wp2_with fail
  refine And.intro Plan.again_nil ?_
  refine Plan.wpWay_last ?_
  repeat go_big_quiet_step (fail)
  refine wpQuiet_nil ?_
  refine NoPanic.normal ?_
  go_wp2
  go_ret2
  exact hfin.out

/-- An act, done. -/
theorem do_calls {w : World} {own : Nat → Prop} {p : Nat} {s : Sto} (hS : StoreAt w own p s) (k : Nat) (x : ActF) (vv vl : Value) (l : List Int) (hx : Sees w (Value.int .i64) vv x.vars) (hl : Sees w (Value.int .i64) vl l) (r : Int × Int) (s' : Sto) (hk : 0 ≤ x.kind ∧ x.kind ≤ 7) (hin : x.kind ≠ 0 → (0 ≤ x.a ∧ x.a < l.length) ∧ (0 ≤ x.b ∧ x.b < l.length) ∧ (0 ≤ x.c ∧ x.c < l.length)) (hvn : x.vars.length ≤ 4294967296)
    (hkeys : x.kind = 7 → (x.vars.length : Int) = s.vars → ∀ out, supportF k s (lat l x.a) = some out → ∀ v ∈ out.map (·.1), (nth x.vars v).isSome = true) (hr : doF k x l s = some (r, s')) : Calls Try.prog 30 #[.pointer (some ⟨p, 0, none⟩), (.agg #[.int .i64 x.kind, .int .i64 x.a, .int .i64 x.b, .int .i64 x.c, vv]), vl] w (StPost own w p (.tuple #[.int .i64 r.1, .int .i64 r.2]) s') := by
  unfold doF at hr
  by_cases h0 : x.kind = 0
  · rw [if_pos h0] at hr; exact do_0 hS k x vv vl l hx hl r s' h0 (by simpa using hr)
  obtain ⟨ha, hb, hc⟩ := hin h0
  rw [if_neg h0] at hr
  by_cases h1 : x.kind = 1
  · rw [if_pos h1] at hr; exact do_1 hS k x vv vl l hx hl r s' h1 ha hb hc hr
  rw [if_neg h1] at hr
  by_cases h2 : x.kind = 2
  · rw [if_pos h2] at hr; exact do_2 hS k x vv vl l hx hl r s' h2 ha hr
  rw [if_neg h2] at hr
  by_cases h3 : x.kind = 3
  · rw [if_pos h3] at hr; exact do_3 hS k x vv vl l hx hl r s' h3 ha hb hr
  rw [if_neg h3] at hr
  by_cases h4 : x.kind = 4
  · rw [if_pos h4] at hr; exact do_4 hS k x vv vl l hx hl r s' h4 ha hb hr
  rw [if_neg h4] at hr
  by_cases h5 : x.kind = 5
  · rw [if_pos h5] at hr; exact do_5 hS k x vv vl l hx hl r s' h5 ha hb hr
  rw [if_neg h5] at hr
  by_cases h6 : x.kind = 6
  · rw [if_pos h6] at hr; exact do_6 hS k x vv vl l hx hl r s' h6 ha hvn hr
  rw [if_neg h6] at hr
  have h7 : x.kind = 7 := by omega
  exact do_7 hS k x vv vl l hx hl r s' h7 ha hvn (hkeys h7) hr
end LawW
end Go.Proofs.Ytjajpdmmoiiojaa
