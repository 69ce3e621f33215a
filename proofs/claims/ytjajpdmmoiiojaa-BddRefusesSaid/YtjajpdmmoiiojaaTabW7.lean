/- The document's answer, walked: Do, at Exists and Rename. -/
import Derived.Test.YtjajpdmmoiiojaaTabW6
namespace Go.Proofs.Ytjajpdmmoiiojaa
open Go.RowKit Go.Mem Go.Bdd
namespace TabW

/-- A row of tables; what blocks they lie in is known. -/
def Tabs (w : World) (ok : Nat → Prop) (v : Value) (ts : List (List Bool)) : Prop :=
  ∃ vs : List Value, Sees w (fun u => u) v vs ∧ vs.length = ts.length ∧ ∀ (i : Nat) u t, vs[i]? = some u → ts[i]? = some t → Sees w Value.bool u t ∧ ∀ g, InBlk u g → ok g

theorem Tabs.frm0 {w w' : World} {ok : Nat → Prop} {v : Value} {ts : List (List Bool)} (h : Tabs w ok v ts) (hf : Frm (fun _ => False) w w') : Tabs w' ok v ts := by
  obtain ⟨vs, h1, h2, h3⟩ := h
  exact ⟨vs, h1.frm hf fun _ _ _ => id, h2, fun i u t hu ht => ⟨(h3 i u t hu ht).1.frm hf fun _ _ _ => id, (h3 i u t hu ht).2⟩⟩

theorem Tabs.at {w : World} {ok : Nat → Prop} {v : Value} {ts : List (List Bool)} (h : Tabs w ok v ts) {a : Int} (ha : 0 ≤ a ∧ a < ts.length) :
    ∃ g o c u, v = .slice (some ⟨g, o, none⟩) ts.length c ∧ w.cell? ⟨g, o + a.toNat, none⟩ = some u ∧ Sees w Value.bool u (tab ts a) ∧ ∀ g, InBlk u g → ok g := by
  obtain ⟨vs, h1, h2, h3⟩ := h
  have hu : vs[a.toNat]? = some (vs[a.toNat]'(by omega)) := List.getElem?_eq_getElem _
  have ht : ts[a.toNat]? = some (tab ts a) := by
    have : a.toNat < ts.length := by omega
    simp [tab, this]
  rcases h1 with ⟨_, e⟩ | ⟨g, o, c, e, _, _, hc⟩
  · rw [e] at h2; simp at h2; omega
  · rw [h2] at e
    exact ⟨g, o, c, _, e, hc _ _ hu, (h3 _ _ _ hu ht).1, (h3 _ _ _ hu ht).2⟩

theorem Tabs.bit {w : World} {ok : Nat → Prop} {v : Value} {ts : List (List Bool)} (h : Tabs w ok v ts) {a : Int} (ha : 0 ≤ a ∧ a < ts.length) {i : Nat} (hi : i < (tab ts a).length) :
    ∃ g o c g2 o2 c2, v = .slice (some ⟨g, o, none⟩) ts.length c ∧ w.cell? ⟨g, o + a.toNat, none⟩ = some (.slice (some ⟨g2, o2, none⟩) (tab ts a).length c2) ∧ w.cell? ⟨g2, o2 + i, none⟩ = some (.bool (tat (tab ts a) i)) := by
  obtain ⟨g, o, c, u, e, hc, hs, _⟩ := h.at ha
  obtain ⟨A, c2, e2, hd⟩ := sees_slice hs
  obtain ⟨g2, o2, e3, hb⟩ := hd i _ (tat_get hi)
  subst e2 e3
  exact ⟨g, o, c, g2, o2, c2, e, hc, hb⟩

def DoPost (w : World) (ok : Nat → Prop) (r : List Bool) (e : Ending) (w' : World) : Prop :=
  ∃ v, e = .returned v ∧ Sees w' Value.bool v r ∧ Frm (fun _ => False) w w' ∧ ∀ g, InBlk v g → ok g ∨ w.heap.size ≤ g

set_option maxRecDepth 100000 in
set_option maxHeartbeats 2000000 in
theorem Do6_calls (w : World) (ok : Nat → Prop) (n : Nat) (x : ActF) (vv vl : Value) (ts : List (List Bool)) (hn : n ≤ 30) (hx : Sees w (Value.int .i64) vv x.vars) (hl : Tabs w ok vl ts) (hk : x.kind = 6) (ha : 0 ≤ x.a ∧ x.a < ts.length)
    (ht : (tab ts x.a).length = 2 ^ n) (hvr : ∀ y ∈ x.vars, 0 ≤ y ∧ y < n) :
    Calls Try.prog 31 #[.int .i64 n, .agg #[.int .i64 x.kind, .int .i64 x.a, .int .i64 x.b, .int .i64 x.c, vv], vl] w (DoPost w ok (doT n x ts)) := by
  have hd : doT n x ts = existsT (tab ts x.a) n x.vars := by unfold doT; rw [if_pos hk]
  obtain ⟨B, d, rfl, _⟩ := sees_slice hx
  have hF1 : Frm (fun _ => False) w (w.alloc (.cells #[.int .i64 x.kind, .int .i64 x.a, .int .i64 x.b, .int .i64 x.c, (.slice B x.vars.length d)] 55)) := (Frm.refl _ _).alloc _
  obtain ⟨gl, ol, cl, u, rfl, hc, hs, hok⟩ := (hl.frm0 hF1).at ha
  have hX := Lib.hid (exists_calls (w.alloc (.cells #[.int .i64 x.kind, .int .i64 x.a, .int .i64 x.b, .int .i64 x.c, (.slice B x.vars.length d)] 55)).drew u (.slice B x.vars.length d) (tab ts x.a) n x.vars hn ht (hs.frm (Frm.refl (fun _ => False) _).drew fun _ _ _ => id) ((hx.frm hF1 fun _ _ _ => id).frm (Frm.refl (fun _ => False) _).drew fun _ _ _ => id) hvr)
  have hb := blk_new (w := w) (.cells #[.int .i64 x.kind, .int .i64 x.a, .int .i64 x.b, .int .i64 x.c, (.slice B x.vars.length d)] 55)
  have c0 : (w.alloc (.cells #[.int .i64 x.kind, .int .i64 x.a, .int .i64 x.b, .int .i64 x.c, (.slice B x.vars.length d)] 55)).cell? ⟨w.heap.size, 0, none⟩ = some (.int .i64 x.kind) := blk_cell hb 0
  have c1 : (w.alloc (.cells #[.int .i64 x.kind, .int .i64 x.a, .int .i64 x.b, .int .i64 x.c, (.slice B x.vars.length d)] 55)).cell? ⟨w.heap.size, 1, none⟩ = some (.int .i64 x.a) := blk_cell hb 1
  have c4 : (w.alloc (.cells #[.int .i64 x.kind, .int .i64 x.a, .int .i64 x.b, .int .i64 x.c, (.slice B x.vars.length d)] 55)).cell? ⟨w.heap.size, 4, none⟩ = some (.slice B x.vars.length d) := blk_cell hb 4
  have hd' := Lib.hid hd
  have hok' := Lib.hid hok
  have hF1' := Lib.hid hF1
  have e6 : (x.kind == 6) = true := by simp [hk]
  obtain ⟨a0, a1⟩ := ha
  clear hd hok hF1 hs hl hx hvr ht hb hk
  go_enter Try.func31, Try.ntmps31
  go_wp2
  refine Plan.wp_region_plan [0, 0, 2, 7, 15, 0, 0, 64, 255, 511] (List.cons (Plan.Seg.mk (List.cons 0 (List.cons 1 (List.cons 2 (List.cons 3 (List.cons 4 (List.cons 5 (List.cons 6 (List.cons 7 List.nil)))))))) 8 List.nil) List.nil) (List.cons 9 List.nil) (by kernel_rfl) (by kernel_rfl) ?_
  simp only [Plan.wayOf, Plan.pickAll, List.getElem?_cons_zero, List.getElem?_cons_succ, List.getD_eq_getElem?_getD, Option.getD_some]
  refine Plan.wpWay_seg ?_
  repeat go_big_quiet_step (fail)
  refine wpQuiet_nil ?_
  refine Plan.wpWay_act ?_
  go_wp2_with fail
  refine hX.out.mono ?_
  rintro e w2 ⟨v, rfl, h1, h2, h3⟩
  have hfin := Lib.hid (show DoPost w ok (doT n x ts) (.returned v) w2 from ⟨v, rfl, by rw [hd'.out]; exact h1, hF1'.out.drew.trans h2 fun _ _ => id, fun g hg => by rcases h3 g hg with h | h; exact .inl (hok'.out g h); exact .inr (Nat.le_trans hF1'.out.size h)⟩)
  clear h1 h2 h3
  go_wp2_with fail
  refine And.intro Plan.again_nil ?_
  refine Plan.wpWay_last ?_
  repeat go_big_quiet_step (fail)
  refine wpQuiet_nil ?_
  refine NoPanic.normal ?_
  go_wp2
  go_ret
  exact hfin.out

set_option maxRecDepth 100000 in
set_option maxHeartbeats 2000000 in
theorem Do7_calls (w : World) (ok : Nat → Prop) (n : Nat) (x : ActF) (vv vl : Value) (ts : List (List Bool)) (hn : n ≤ 30) (h0 : 0 < n) (hx : Sees w (Value.int .i64) vv x.vars) (hl : Tabs w ok vl ts) (hk : x.kind = 7) (ha : 0 ≤ x.a ∧ x.a < ts.length)
    (ht : (tab ts x.a).length = 2 ^ n) (hvl : x.vars.length = n) (hvr : ∀ v < n, asksF (tab ts x.a) n v = true → 0 ≤ toAt x.vars v ∧ toAt x.vars v < n) :
    Calls Try.prog 31 #[.int .i64 n, .agg #[.int .i64 x.kind, .int .i64 x.a, .int .i64 x.b, .int .i64 x.c, vv], vl] w (DoPost w ok (doT n x ts)) := by
  have hd : doT n x ts = renameT (tab ts x.a) n x.vars := by unfold doT; rw [if_neg (by omega), if_pos hk]
  obtain ⟨B, d, rfl, _⟩ := sees_slice hx
  have hF1 : Frm (fun _ => False) w (w.alloc (.cells #[.int .i64 x.kind, .int .i64 x.a, .int .i64 x.b, .int .i64 x.c, (.slice B x.vars.length d)] 55)) := (Frm.refl _ _).alloc _
  obtain ⟨gl, ol, cl, u, rfl, hc, hs, hok⟩ := (hl.frm0 hF1).at ha
  have hX := Lib.hid (rename_calls (w.alloc (.cells #[.int .i64 x.kind, .int .i64 x.a, .int .i64 x.b, .int .i64 x.c, (.slice B x.vars.length d)] 55)).drew u (.slice B x.vars.length d) (tab ts x.a) n x.vars hn h0 ht (hs.frm (Frm.refl (fun _ => False) _).drew fun _ _ _ => id) ((hx.frm hF1 fun _ _ _ => id).frm (Frm.refl (fun _ => False) _).drew fun _ _ _ => id) hvl hvr)
  have hb := blk_new (w := w) (.cells #[.int .i64 x.kind, .int .i64 x.a, .int .i64 x.b, .int .i64 x.c, (.slice B x.vars.length d)] 55)
  have c0 : (w.alloc (.cells #[.int .i64 x.kind, .int .i64 x.a, .int .i64 x.b, .int .i64 x.c, (.slice B x.vars.length d)] 55)).cell? ⟨w.heap.size, 0, none⟩ = some (.int .i64 x.kind) := blk_cell hb 0
  have c1 : (w.alloc (.cells #[.int .i64 x.kind, .int .i64 x.a, .int .i64 x.b, .int .i64 x.c, (.slice B x.vars.length d)] 55)).cell? ⟨w.heap.size, 1, none⟩ = some (.int .i64 x.a) := blk_cell hb 1
  have c4 : (w.alloc (.cells #[.int .i64 x.kind, .int .i64 x.a, .int .i64 x.b, .int .i64 x.c, (.slice B x.vars.length d)] 55)).cell? ⟨w.heap.size, 4, none⟩ = some (.slice B x.vars.length d) := blk_cell hb 4
  have hd' := Lib.hid hd
  have hF1' := Lib.hid hF1
  have e6 : (x.kind == 6) = false := by simp [hk]
  have e7 : (x.kind == 7) = true := by simp [hk]
  obtain ⟨a0, a1⟩ := ha
  clear hd hok hF1 hs hl hx hvr ht hb hk hvl
  go_enter Try.func31, Try.ntmps31
  go_wp2
  refine Plan.wp_region_plan [0, 0, 2, 7, 15, 0, 0, 64, 255, 511] (List.cons (Plan.Seg.mk (List.cons 0 (List.cons 1 (List.cons 2 (List.cons 3 (List.cons 4 (List.cons 5 (List.cons 6 (List.cons 7 List.nil)))))))) 8 List.nil) List.nil) (List.cons 9 List.nil) (by kernel_rfl) (by kernel_rfl) ?_
  simp only [Plan.wayOf, Plan.pickAll, List.getElem?_cons_zero, List.getElem?_cons_succ, List.getD_eq_getElem?_getD, Option.getD_some]
  refine Plan.wpWay_seg ?_
  repeat go_big_quiet_step (fail)
  refine wpQuiet_nil ?_
  refine Plan.wpWay_act ?_
  go_wp2_with fail
  refine hX.out.mono ?_
  rintro e w2 ⟨v, rfl, h1, h2, h3⟩
  have hfin := Lib.hid (show DoPost w ok (doT n x ts) (.returned v) w2 from ⟨v, rfl, by rw [hd'.out]; exact h1.sees, hF1'.out.drew.trans h2 fun _ _ => id, fun g hg => by
  obtain ⟨o', n', c', e'⟩ := hg
  exact .inr (Nat.le_trans hF1'.out.size (h3 g (by rw [e']; rfl)))⟩)
  clear h1 h2 h3
  go_wp2_with fail
  refine And.intro Plan.again_nil ?_
  refine Plan.wpWay_last ?_
  repeat go_big_quiet_step (fail)
  refine wpQuiet_nil ?_
  refine NoPanic.normal ?_
  go_wp2
  go_ret
  exact hfin.out
end TabW
end Go.Proofs.Ytjajpdmmoiiojaa
