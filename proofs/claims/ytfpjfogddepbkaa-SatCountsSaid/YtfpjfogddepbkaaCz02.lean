/- append of one element, and of all of another slice, to a slice that the call made. -/
import Derived.Test.YtfpjfogddepbkaaCz01
import Derived.Deep.AppendLies
import Derived.Maps.AppendAt
import Derived.Deep.Quiet
import Derived.Deep.QuietTactic
import Derived.Deep.RegionHeld3
set_option linter.unusedSimpArgs false
set_option linter.unusedVariables false
namespace Go.Mem
open Go.RowKit

theorem wpList_append_row {P : Program} {w : World} {ops : Array Oper} {rest : List Oper} {o : Oper} {a : Act} {Q : Exit → Act → World → Prop} (hgd : o.guard = none) (s x : Operand) (t : TypeId)
    (ho : o.op = .call { callee := .builtin .append, args := #[s, x], argTypes := #[t, t] })
    (e : TypeId) (i : TypeInfo) (z : Value) (bytes : Nat) (ht : P.underlying t = some (.slice e)) (hi : P.info? e = some i) (hz : i.zero = some z)
    (hsize : i.size = 1) (hby : i.bytes = bytes) (hzs : z.cells.size = 1) {α : Type} {enc : α → Value}
    (v : Value) (xs : List α) (hs : a.eval s = v) (hrow : Row w e enc v xs) (ad : Addr) (c : Nat) (y : α) (hx : a.eval x = .slice (some ad) 1 c) (hc : w.cell? ad = some (enc y)) (h1 : (enc y).oneCell' = true)
    (h63 : xs.length + 1 ≤ maxLen) (hbytes : (xs.length + 1) * bytes ≤ 140737488355328)
    (h : ∀ g cap w', Row w' e enc (.slice (some ⟨g, 0, none⟩) (xs.length + 1) cap) (xs ++ [y]) → Frm (fun b => v.ownBlock = some b) w w' → (v.ownBlock = some g ∨ g = w.heap.size) → g < w'.heap.size →
      wpList P ops Q rest (a.put o.dst (.slice (some ⟨g, 0, none⟩) (xs.length + 1) cap)) w') : wpList P ops Q (o :: rest) a w := by
  refine wpList_append_lies w hgd s x t ho 0 e i z 1 bytes ht hi hz hsize hby hzs (by decide) v xs.length (xs.map enc) hs hrow ad 1 c [enc y] hx rfl ?_ (by simpa using h1) (by decide) h63 hbytes (Nat.zero_le _) _ rfl ?_
  · intro j u hj
    cases j with
    | zero =>
      simp at hj
      subst hj
      have : ad.add 0 = ad := by cases ad; rfl
      rw [this]; exact hc
    | succ j => simp at hj
  · intro g cap w' h1 h2 h3 h4
    refine h g cap w' ?_ (Frm.of_grown h2) h3 h4
    show w'.ownsRow 0 e 1 _ (xs ++ [y]).length ((xs ++ [y]).map enc)
    rw [List.length_append, List.map_append]
    exact h1

theorem wpList_append_all {P : Program} {w : World} {ops : Array Oper} {rest : List Oper} {o : Oper} {a : Act} {Q : Exit → Act → World → Prop} (hgd : o.guard = none) (s x : Operand) (t : TypeId)
    (ho : o.op = .call { callee := .builtin .append, args := #[s, x], argTypes := #[t, t] })
    (e : TypeId) (i : TypeInfo) (z : Value) (bytes : Nat) (ht : P.underlying t = some (.slice e)) (hi : P.info? e = some i) (hz : i.zero = some z)
    (hsize : i.size = 1) (hby : i.bytes = bytes) (hzs : z.cells.size = 1) {α : Type} {enc : α → Value}
    (v : Value) (xs : List α) (hs : a.eval s = v) (hrow : Row w e enc v xs) (ad : Addr) (c : Nat) (ys : List α) (hx : a.eval x = .slice (some ad) ys.length c) (hc : ∀ j y, ys[j]? = some y → w.cell? (ad.add j) = some (enc y)) (h1 : ∀ y, (enc y).oneCell' = true)
    (hpos : 0 < ys.length) (h63 : xs.length + ys.length ≤ maxLen) (hbytes : (xs.length + ys.length) * bytes ≤ 140737488355328)
    (h : ∀ g cap w', Row w' e enc (.slice (some ⟨g, 0, none⟩) (xs.length + ys.length) cap) (xs ++ ys) → Frm (fun b => v.ownBlock = some b) w w' → (v.ownBlock = some g ∨ g = w.heap.size) → g < w'.heap.size →
      wpList P ops Q rest (a.put o.dst (.slice (some ⟨g, 0, none⟩) (xs.length + ys.length) cap)) w') : wpList P ops Q (o :: rest) a w := by
  refine wpList_append_lies w hgd s x t ho 0 e i z 1 bytes ht hi hz hsize hby hzs (by decide) v xs.length (xs.map enc) hs hrow ad ys.length c (ys.map enc) hx (by simp) ?_ ?_ hpos h63 hbytes (Nat.zero_le _) _ rfl ?_
  · intro j u hj
    rw [List.getElem?_map] at hj
    obtain ⟨y, hy, rfl⟩ := Option.map_eq_some_iff.1 hj
    exact hc j y hy
  · intro u hu
    obtain ⟨y, _, rfl⟩ := List.mem_map.1 hu
    exact h1 y
  · intro g cap w' h1 h2 h3 h4
    refine h g cap w' ?_ (Frm.of_grown h2) h3 h4
    show w'.ownsRow 0 e 1 _ (xs ++ ys).length ((xs ++ ys).map enc)
    rw [List.length_append, List.map_append]
    exact h1
end Go.Mem
/- append of all of a slice that came in (nil, empty or not), onto a row of the call's own. -/
namespace Go.Mem
open Go.RowKit
section
variable {P : Program} {w : World}
theorem run_append_sees (t ty e : TypeId) (i : TypeInfo) (z : Value) (bytes : Nat) (ht : P.underlying t = some (.slice e)) (hi : P.info? e = some i) (hz : i.zero = some z)
    (hsize : i.size = 1) (hby : i.bytes = bytes) (hzs : z.cells.size = 1) {α : Type} {enc : α → Value} (h1 : ∀ y, (enc y).oneCell' = true)
    (v : Value) (xs ys : List α) (hrow : Row w e enc v xs) (u : Value) (hs : Sees w enc u ys) (h63 : xs.length + ys.length ≤ maxLen) (hbytes : (xs.length + ys.length) * bytes ≤ 140737488355328) :
    ∃ v' w', (Builtin.append_ #[t, t] ty #[v, u]).run P w = .ok v' w' ∧ Row w' e enc v' (xs ++ ys) ∧ Frm (fun b => v.ownBlock = some b) w w' ∧ ∀ g, v'.ownBlock = some g → v.ownBlock = some g ∨ g = w.heap.size := by
  rcases hs with ⟨rfl, rfl⟩ | ⟨g, o, cap, rfl, hcap, _, hc⟩
  · refine ⟨v, w, ?_, by simpa using hrow, Frm.refl _ _, fun g hg => .inl hg⟩
    rcases hrow.2 with ⟨rfl, hl⟩ | ⟨g, cap, cur, rfl, _, _, hnc, _⟩
    · simp [Builtin.append_, run_underlying ht, sizeOf, typeInfo, hi, Builtin.lenOf, Builtin.firstCells]
    · simp [Builtin.append_, run_underlying ht, sizeOf, typeInfo, hi, Builtin.lenOf, Builtin.firstCells, hnc, storeCells]
  · obtain ⟨v', w', hrun, h2, h3, _, h5⟩ := run_append_own_at (P := P) (ty := ty) w 0 t e i z 1 bytes ht hi hz hsize hby hzs (by decide) v xs.length (xs.map enc) hrow ⟨g, o, none⟩ ys.length cap (ys.map enc) (by simp) (fun j u hj => by
      rw [List.getElem?_map] at hj
      obtain ⟨y, hy, rfl⟩ := Option.map_eq_some_iff.1 hj
      have e : (⟨g, o, none⟩ : Addr).add j = ⟨g, o + j, none⟩ := by simp only [Addr.add]; split <;> simp_all
      rw [e]; exact hc j y hy) (fun u hu => by
      obtain ⟨y, _, rfl⟩ := List.mem_map.1 hu
      exact h1 y) h63 hbytes (Nat.zero_le _)
    refine ⟨v', w', hrun, ?_, Frm.of_grown h3, fun g' hg' => ?_⟩
    · show w'.ownsRow 0 e 1 v' (xs ++ ys).length ((xs ++ ys).map enc)
      rw [List.length_append, List.map_append]; exact h2
    · rcases h5 with h5 | h5
      · exact .inl (by rw [← h5]; exact hg')
      · rw [h5] at hg'; cases hg'; exact .inr rfl
theorem wpList_append_sees {ops : Array Oper} {rest : List Oper} {o : Oper} {a : Act} {Q : Exit → Act → World → Prop} (hgd : o.guard = none) (s x : Operand) (t : TypeId)
    (ho : o.op = .call { callee := .builtin .append, args := #[s, x], argTypes := #[t, t] })
    (e : TypeId) (i : TypeInfo) (z : Value) (bytes : Nat) (ht : P.underlying t = some (.slice e)) (hi : P.info? e = some i) (hz : i.zero = some z)
    (hsize : i.size = 1) (hby : i.bytes = bytes) (hzs : z.cells.size = 1) {α : Type} {enc : α → Value} (h1 : ∀ y, (enc y).oneCell' = true)
    (v : Value) (xs ys : List α) (hv : a.eval s = v) (hrow : Row w e enc v xs) (u : Value) (hu : a.eval x = u) (hs : Sees w enc u ys) (h63 : xs.length + ys.length ≤ maxLen) (hbytes : (xs.length + ys.length) * bytes ≤ 140737488355328)
    (h : ∀ v' w', Row w' e enc v' (xs ++ ys) → Frm (fun b => v.ownBlock = some b) w w' → (∀ g, v'.ownBlock = some g → v.ownBlock = some g ∨ g = w.heap.size) → wpList P ops Q rest (a.put o.dst v') w') : wpList P ops Q (o :: rest) a w := by
  refine wpList_plain hgd fun K hK => ?_
  obtain ⟨v', w', hrun, h2, h3, h4⟩ := run_append_sees (P := P) t o.type e i z bytes ht hi hz hsize hby hzs h1 v xs ys hrow u hs h63 hbytes
  unfold Oper.wp execOp
  simp only [ho, resolve, invoke, builtin, Sem.run_bind, Sem.run_pure, Result.andThen_ok, List.map_toArray, List.map_cons, List.map_nil, hv, hu, hrun]
  exact hK _ _ (h v' w' h2 h3 h4)
end
end Go.Mem
/- append of one element onto a row, or onto a slice of no room that bears an address. -/
namespace Go.Mem
open Go.RowKit
section
variable {P : Program} {w : World}
theorem append_noroom (t ty e : TypeId) (i : TypeInfo) (z : Value) (bytes : Nat) (ht : P.underlying t = some (.slice e)) (hi : P.info? e = some i) (hz : i.zero = some z)
    (hsize : i.size = 1) (hby : i.bytes = bytes) (A : Option Addr) (ad : Addr) (m c : Nat) (hm : 0 < m) (h63 : m ≤ maxLen) (hbytes : m * bytes ≤ 140737488355328) :
    (Builtin.append_ #[t, t] ty #[.slice A 0 0, .slice (some ad) m c]).run P w = (Builtin.append_ #[t, t] ty #[.slice none 0 0, .slice (some ad) m c]).run P w := by
  have h1 : ¬ m ≤ 0 := by omega
  have h2 : ¬ (Builtin.nextslicecap m 0 * bytes > 2 ^ 48) := by
    have : Builtin.nextslicecap m 0 = m := by
      unfold Builtin.nextslicecap
      simp [hm]
    rw [this]; omega
  have h3 : ¬ m = 0 := by omega
  have h4 : ¬ (9223372036854775807 : Int) < (m : Int) := by have : maxLen = 9223372036854775807 := rfl; omega
  have h5 : ¬ (2 ^ 48 < m * bytes) := by omega
  have h6 : ∀ (a : Addr) (w : World), (loadCellsFrom a 0 0 #[]).run P w = .ok #[] w := fun a w => by simp [loadCellsFrom]
  cases A <;> simp [h3, h4, h5, loadCells, h6, Builtin.append_, run_underlying ht, sizeOf, typeInfo, hi, hsize, hby, Builtin.lenOf, Builtin.firstCells, h1, h2]
/-- A row, or a slice of no room that bears an address. -/
def WRow {α : Type} (w : World) (e : TypeId) (enc : α → Value) (v : Value) (l : List α) : Prop := Row w e enc v l ∨ (l = [] ∧ ∃ g, v = .slice (some ⟨g, 0, none⟩) 0 0)
theorem WRow.frm {α : Type} {S : Nat → Prop} {w w' : World} {e : TypeId} {enc : α → Value} {v : Value} {l : List α} (h : WRow w e enc v l) (hf : Frm S w w') (hS : ∀ g, v.ownBlock = some g → ¬ S g) : WRow w' e enc v l := h.imp (fun h => h.frm hf hS) id
theorem WRow.len {α : Type} {w : World} {e : TypeId} {enc : α → Value} {v : Value} {l : List α} (h : WRow w e enc v l) : l.length ≤ maxLen := by
  rcases h with h | ⟨rfl, _⟩
  · exact h.sees.len
  · exact Nat.zero_le _
theorem WRow.slice {α : Type} {w : World} {e : TypeId} {enc : α → Value} {v : Value} {l : List α} (h : WRow w e enc v l) : ∃ A c, v = .slice A l.length c ∧ (∀ g, A = some g → ∃ b, g = ⟨b, 0, none⟩) ∧ l.length ≤ c ∧ ∀ i x, l[i]? = some x → ∃ g, A = some ⟨g, 0, none⟩ ∧ g < w.heap.size ∧ w.cell? ⟨g, i, none⟩ = some (enc x) := by
  rcases h with h | ⟨rfl, g, rfl⟩
  · have hlt := h.lt
    rcases h.shape with ⟨rfl, rfl⟩ | ⟨g, cap, rfl, ho, h1, _, hc, _⟩
    · exact ⟨none, 0, rfl, fun g e => (by cases e), Nat.le_refl _, fun i x h => by simp at h⟩
    · exact ⟨_, cap, rfl, fun g' e => (by cases e; exact ⟨g, rfl⟩), h1, fun i x hx => ⟨g, rfl, hlt g ho, hc i x hx⟩⟩
  · exact ⟨_, 0, rfl, fun g' e => (by cases e; exact ⟨g, rfl⟩), Nat.le_refl _, fun i x h => by simp at h⟩
theorem run_append_wrow (t ty e : TypeId) (i : TypeInfo) (z : Value) (bytes : Nat) (ht : P.underlying t = some (.slice e)) (hi : P.info? e = some i) (hz : i.zero = some z)
    (hsize : i.size = 1) (hby : i.bytes = bytes) (hzs : z.cells.size = 1) {α : Type} {enc : α → Value} (h1 : ∀ y, (enc y).oneCell' = true)
    (v : Value) (xs ys : List α) (hrow : WRow w e enc v xs) (ad : Addr) (c : Nat) (hc : ∀ j y, ys[j]? = some y → w.cell? (ad.add j) = some (enc y)) (hpos : 0 < ys.length) (h63 : xs.length + ys.length ≤ maxLen) (hbytes : (xs.length + ys.length) * bytes ≤ 140737488355328) :
    ∃ g cap w', (Builtin.append_ #[t, t] ty #[v, .slice (some ad) ys.length c]).run P w = .ok (.slice (some ⟨g, 0, none⟩) (xs.length + ys.length) cap) w' ∧ Row w' e enc (.slice (some ⟨g, 0, none⟩) (xs.length + ys.length) cap) (xs ++ ys) ∧ Frm (fun b => v.ownBlock = some b) w w' ∧ (v.ownBlock = some g ∨ g = w.heap.size) ∧ g < w'.heap.size := by
  have main : ∀ v, Row w e enc v xs → ∃ g cap w', (Builtin.append_ #[t, t] ty #[v, .slice (some ad) ys.length c]).run P w = .ok (.slice (some ⟨g, 0, none⟩) (xs.length + ys.length) cap) w' ∧ Row w' e enc (.slice (some ⟨g, 0, none⟩) (xs.length + ys.length) cap) (xs ++ ys) ∧ Frm (fun b => v.ownBlock = some b) w w' ∧ (v.ownBlock = some g ∨ g = w.heap.size) ∧ g < w'.heap.size := by
    intro v hr
    obtain ⟨v', w', hrun, h2, h3, h4, h5⟩ := run_append_own_at (P := P) (ty := ty) w 0 t e i z 1 bytes ht hi hz hsize hby hzs (by decide) v xs.length (xs.map enc) hr ad ys.length c (ys.map enc) (by simp) (fun j u hj => by
      rw [List.getElem?_map] at hj
      obtain ⟨y, hy, rfl⟩ := Option.map_eq_some_iff.1 hj
      exact hc j y hy) (fun u hu => by
      obtain ⟨y, _, rfl⟩ := List.mem_map.1 hu
      exact h1 y) h63 hbytes (Nat.zero_le _)
    have hrow' : Row w' e enc v' (xs ++ ys) := by
      show w'.ownsRow 0 e 1 v' (xs ++ ys).length ((xs ++ ys).map enc)
      rw [List.length_append, List.map_append]; exact h2
    have hlt := hrow'.lt
    rcases hrow'.shape with ⟨_, e2⟩ | ⟨g, cap, rfl, ho, _⟩
    · rw [List.append_eq_nil_iff] at e2
      rw [e2.2] at hpos
      simp at hpos
    · rw [List.length_append] at hrow' hrun
      refine ⟨g, cap, w', hrun, hrow', Frm.of_grown h3, ?_, hlt g ho⟩
      rcases h5 with h5 | h5
      · exact .inl (by rw [← h5]; exact ho)
      · rw [ho] at h5; cases h5; exact .inr rfl
  rcases hrow with hrow | ⟨rfl, g, rfl⟩
  · exact main v hrow
  · obtain ⟨g', cap, w', hrun, h2, h3, h4, h5⟩ := main _ (Row.nil w e enc)
    rw [← append_noroom t ty e i z bytes ht hi hz hsize hby (some ⟨g, 0, none⟩) ad ys.length c hpos (by simpa using h63) (by simpa using hbytes)] at hrun
    refine ⟨g', cap, w', hrun, h2, h3.mono fun b _ hb => (by cases hb), ?_, h5⟩
    rcases h4 with h4 | h4
    · cases h4
    · exact .inr h4
theorem wpList_append_wrow {ops : Array Oper} {rest : List Oper} {o : Oper} {a : Act} {Q : Exit → Act → World → Prop} (hgd : o.guard = none) (s x : Operand) (t : TypeId)
    (ho : o.op = .call { callee := .builtin .append, args := #[s, x], argTypes := #[t, t] })
    (e : TypeId) (i : TypeInfo) (z : Value) (bytes : Nat) (ht : P.underlying t = some (.slice e)) (hi : P.info? e = some i) (hz : i.zero = some z)
    (hsize : i.size = 1) (hby : i.bytes = bytes) (hzs : z.cells.size = 1) {α : Type} {enc : α → Value} (h1 : ∀ y, (enc y).oneCell' = true)
    (v : Value) (xs ys : List α) (hv : a.eval s = v) (hrow : WRow w e enc v xs) (ad : Addr) (c : Nat) (hx : a.eval x = .slice (some ad) ys.length c) (hc : ∀ j y, ys[j]? = some y → w.cell? (ad.add j) = some (enc y)) (hpos : 0 < ys.length) (h63 : xs.length + ys.length ≤ maxLen) (hbytes : (xs.length + ys.length) * bytes ≤ 140737488355328)
    (h : ∀ g cap w', Row w' e enc (.slice (some ⟨g, 0, none⟩) (xs.length + ys.length) cap) (xs ++ ys) → Frm (fun b => v.ownBlock = some b) w w' → (v.ownBlock = some g ∨ g = w.heap.size) → g < w'.heap.size →
      wpList P ops Q rest (a.put o.dst (.slice (some ⟨g, 0, none⟩) (xs.length + ys.length) cap)) w') : wpList P ops Q (o :: rest) a w := by
  refine wpList_plain hgd fun K hK => ?_
  obtain ⟨g, cap, w', hrun, h2, h3, h4, h5⟩ := run_append_wrow (P := P) t o.type e i z bytes ht hi hz hsize hby hzs h1 v xs ys hrow ad c hc hpos h63 hbytes
  unfold Oper.wp execOp
  simp only [ho, resolve, invoke, builtin, Sem.run_bind, Sem.run_pure, Result.andThen_ok, List.map_toArray, List.map_cons, List.map_nil, hv, hx, hrun]
  exact hK _ _ (h g cap w' h2 h3 h4 h5)
end
end Go.Mem
/- A solver in memory. -/
namespace Go.Proofs.Ytfpjfogddepbkaa
open Go.RowKit Go.Mem Go.Sat
namespace SaW
theorem frm_alloc (w : World) (o : Obj) : Frm (fun _ => False) w (w.alloc o) := (Frm.refl _ w).alloc o
theorem frm_then {a b c : World} (h : Frm (fun _ => False) a b) (k : Frm (fun _ => False) b c) : Frm (fun _ => False) a c := h.trans k fun _ _ => id
theorem frm_cell {w w' : World} {a : Addr} {v : Value} (hf : Frm (fun _ => False) w w') (h : w.cell? a = some v) : w'.cell? a = some v :=
  (World.cell?_of_block (w := w) (hf.block a.block (World.block_lt_of_cell? _ _ h) id)).trans h
/-- What a block of a solver's is there for. -/
inductive Role where
  | me
  | vars
  | heap
  | place
  | map
  | wrow (n : Int)
  | learnt
  | trail
  | limits
  | cl (c : Nat)
  | lits (c : Nat)
def ptr (b : Nat) : Value := .pointer (some ⟨b, 0, none⟩)
def encC (ids : List Nat) (c : Nat) : Value := ptr (ids.getD c 0)
def encR (ids : List Nat) : Option Nat → Value
  | none => .pointer none
  | some c => encC ids c
def fcells (ids : List Nat) (x : Fact) : List Value := [.int .i64 x.lit, .int .i64 x.level, encR ids x.reason, .int .i64 x.score, .int .i64 x.phase]
theorem encR_one (ids : List Nat) : ∀ r : Option Nat, (encR ids r).oneCell' = true
  | none => rfl
  | some _ => rfl
def encF (ids : List Nat) : Enc Fact 5 := ⟨fcells ids, fun _ => rfl, fun x u hu => by
  simp only [fcells, List.mem_cons, List.not_mem_nil, or_false] at hu
  rcases hu with rfl | rfl | rfl | rfl | rfl
  · rfl
  · rfl
  · exact encR_one ids _
  · rfl
  · rfl⟩
abbrev iI : Int → Value := Value.int .i64
def vid (v : Value) : Value := v
/-- The solver's parts, and where they lie. -/
structure SRep (w : World) (R : Nat → Option Role) (p : Nat) (s : St) (ids : List Nat) (vv hv pv lv tv mv : Value) (bm : Nat) (kvs : List (Int × Value)) : Prop where
  box : w.heap[p]? = some (.cells #[vv, hv, pv, .map (some bm), lv, tv, mv, .int .i64 s.head, .int .i64 s.conflicts, .int .i64 s.added, .int .i64 s.bump, .bool s.broken] 49)
  vars : SRow w 73 (encF ids) vv s.vars
  heap : Row w 3 iI hv s.heap
  place : Row w 3 iI pv s.place
  learnt : Row w 58 (encC ids) lv s.learnt
  trail : Row w 3 iI tv s.trail
  limits : Row w 3 iI mv s.limits
  map : MapAt w bm iI vid kvs
  keys : kvs.map (·.1) = s.watches.map (·.1)
  rows : ∀ (i : Nat) (n : Int) (v : Value) (l : List Nat), kvs[i]? = some (n, v) → s.watches[i]? = some (n, l) → WRow w 58 (encC ids) v l ∧ ∀ g, v.ownBlock = some g → R g = some (.wrow n)
  idl : ids.length = s.cls.length
  cls : ∀ (c : Nat) (x : Cl), s.cls[c]? = some x → ∃ b v, ids[c]? = some b ∧ R b = some (.cl c) ∧ w.heap[b]? = some (.cells #[v, .bool x.learnt, .int .i64 x.score] 62) ∧ Row w 3 iI v x.lits ∧ ∀ g, v.ownBlock = some g → R g = some (.lits c)
  rme : R p = some .me
  rvars : ∀ g, vv.ownBlock = some g → R g = some .vars
  rheap : ∀ g, hv.ownBlock = some g → R g = some .heap
  rplace : ∀ g, pv.ownBlock = some g → R g = some .place
  rlearnt : ∀ g, lv.ownBlock = some g → R g = some .learnt
  rtrail : ∀ g, tv.ownBlock = some g → R g = some .trail
  rlimits : ∀ g, mv.ownBlock = some g → R g = some .limits
  rmap : R bm = some .map
  lt : ∀ b r, R b = some r → b < w.heap.size
  refs : (∀ x ∈ s.vars, ∀ c, x.reason = some c → c < s.cls.length) ∧ (∀ x ∈ s.watches, ∀ c ∈ x.2, c < s.cls.length) ∧ ∀ c ∈ s.learnt, c < s.cls.length
  wnd : (s.watches.map (·.1)).Nodup
  onec : ∀ b c, R b = some (.cl c) → ids[c]? = some b
def SolverAt (w : World) (R : Nat → Option Role) (p : Nat) (s : St) : Prop := ∃ ids vv hv pv lv tv mv bm kvs, SRep w R p s ids vv hv pv lv tv mv bm kvs
section
variable {w w' : World} {R : Nat → Option Role} {p : Nat} {s : St} {ids : List Nat} {vv hv pv lv tv mv : Value} {bm : Nat} {kvs : List (Int × Value)} {S : Nat → Prop}
theorem SRep.frm (h : SRep w R p s ids vv hv pv lv tv mv bm kvs) (hf : Frm S w w') (hS : ∀ b r, R b = some r → ¬ S b) : SRep w' R p s ids vv hv pv lv tv mv bm kvs :=
  ⟨blk_frm h.box hf (hS _ _ h.rme), h.vars.frm hf fun g hg => hS _ _ (h.rvars g hg), h.heap.frm hf fun g hg => hS _ _ (h.rheap g hg), h.place.frm hf fun g hg => hS _ _ (h.rplace g hg), h.learnt.frm hf fun g hg => hS _ _ (h.rlearnt g hg),
    h.trail.frm hf fun g hg => hS _ _ (h.rtrail g hg), h.limits.frm hf fun g hg => hS _ _ (h.rlimits g hg), h.map.frm hf (hS _ _ h.rmap), h.keys, fun i n v l h1 h2 => ⟨(h.rows i n v l h1 h2).1.frm hf fun g hg => hS _ _ ((h.rows i n v l h1 h2).2 g hg), (h.rows i n v l h1 h2).2⟩,
    h.idl, fun c x hx => by
      obtain ⟨b, v, h1, h2, h3, h4, h5⟩ := h.cls c x hx
      exact ⟨b, v, h1, h2, blk_frm h3 hf (hS _ _ h2), h4.frm hf fun g hg => hS _ _ (h5 g hg), h5⟩,
    h.rme, h.rvars, h.rheap, h.rplace, h.rlearnt, h.rtrail, h.rlimits, h.rmap, fun b r hb => Nat.lt_of_lt_of_le (h.lt b r hb) hf.size, h.refs, h.wnd, h.onec⟩
theorem SRep.frm0 (h : SRep w R p s ids vv hv pv lv tv mv bm kvs) (hf : Frm (fun _ => False) w w') : SRep w' R p s ids vv hv pv lv tv mv bm kvs := h.frm hf fun _ _ _ => id
theorem SolverAt.frm (h : SolverAt w R p s) (hf : Frm S w w') (hS : ∀ b r, R b = some r → ¬ S b) : SolverAt w' R p s := by
  obtain ⟨_, _, _, _, _, _, _, _, _, h⟩ := h
  exact ⟨_, _, _, _, _, _, _, _, _, h.frm hf hS⟩
theorem SolverAt.frm0 (h : SolverAt w R p s) (hf : Frm (fun _ => False) w w') : SolverAt w' R p s := h.frm hf fun _ _ _ => id
/-- What the solver's own cells hold. -/
theorem SRep.cells (h : SRep w R p s ids vv hv pv lv tv mv bm kvs) : w.cell? ⟨p, 0, none⟩ = some vv ∧ w.cell? ⟨p, 1, none⟩ = some hv ∧ w.cell? ⟨p, 2, none⟩ = some pv ∧ w.cell? ⟨p, 3, none⟩ = some (.map (some bm)) ∧ w.cell? ⟨p, 4, none⟩ = some lv ∧ w.cell? ⟨p, 5, none⟩ = some tv ∧ w.cell? ⟨p, 6, none⟩ = some mv ∧ w.cell? ⟨p, 7, none⟩ = some (.int .i64 s.head) ∧ w.cell? ⟨p, 8, none⟩ = some (.int .i64 s.conflicts) ∧ w.cell? ⟨p, 9, none⟩ = some (.int .i64 s.added) ∧ w.cell? ⟨p, 10, none⟩ = some (.int .i64 s.bump) ∧ w.cell? ⟨p, 11, none⟩ = some (.bool s.broken) :=
  ⟨blk_cell h.box 0, blk_cell h.box 1, blk_cell h.box 2, blk_cell h.box 3, blk_cell h.box 4, blk_cell h.box 5, blk_cell h.box 6, blk_cell h.box 7, blk_cell h.box 8, blk_cell h.box 9, blk_cell h.box 10, blk_cell h.box 11⟩
end
/-- An address that is a clause's. -/
def ClAt (R : Nat → Option Role) (A : Option Addr) : Option Nat → Prop
  | none => A = none
  | some c => ∃ b, A = some ⟨b, 0, none⟩ ∧ R b = some (.cl c)
theorem SRep.isAt {w : World} {R : Nat → Option Role} {p : Nat} {s : St} {ids : List Nat} {vv hv pv lv tv mv : Value} {bm : Nat} {kvs : List (Int × Value)} (h : SRep w R p s ids vv hv pv lv tv mv bm kvs) {A : Option Addr} {why : Option Nat} (hA : ClAt R A why) : Value.pointer A = encR ids why ∧ ∀ c, why = some c → c < s.cls.length := by
  cases why with
  | none => exact ⟨by rw [show A = none from hA]; rfl, fun c e => by cases e⟩
  | some c =>
    obtain ⟨b, rfl, hb⟩ := hA
    have hi := h.onec b c hb
    refine ⟨?_, fun d e => ?_⟩
    · show _ = ptr (ids.getD c 0)
      rw [List.getD_eq_getElem?_getD, hi]
      rfl
    · cases e
      have := (List.getElem?_eq_some_iff.1 hi).1
      rw [← h.idl]; exact this
theorem SRep.clAt {w : World} {R : Nat → Option Role} {p : Nat} {s : St} {ids : List Nat} {vv hv pv lv tv mv : Value} {bm : Nat} {kvs : List (Int × Value)} (h : SRep w R p s ids vv hv pv lv tv mv bm kvs) {c : Nat} (hc : c < s.cls.length) : ∃ b, encC ids c = .pointer (some ⟨b, 0, none⟩) ∧ R b = some (.cl c) ∧ ids[c]? = some b := by
  obtain ⟨b, v, h1, h2, _⟩ := h.cls c _ (List.getElem?_eq_getElem hc)
  refine ⟨b, ?_, h2, h1⟩
  show ptr (ids.getD c 0) = _
  rw [List.getD_eq_getElem?_getD, h1]
  rfl
theorem nth_get {α : Type} {l : List α} {i : Int} {x : α} (h : nth l i = some x) : ∃ k : Nat, i = k ∧ l[k]? = some x ∧ k < l.length := by
  unfold nth at h
  split at h
  · exact ⟨i.toNat, by omega, h, (List.getElem?_eq_some_iff.1 h).1⟩
  · cases h
theorem setN_get {α : Type} {l l' : List α} {i : Int} {x : α} (h : setN l i x = some l') : ∃ k : Nat, i = k ∧ k < l.length ∧ l' = l.set k x := by
  unfold setN at h
  split at h
  · rename_i hc
    exact ⟨i.toNat, by omega, hc.2, (Option.some.inj h).symm⟩
  · cases h
end SaW
end Go.Proofs.Ytfpjfogddepbkaa
/- A region whose order is left open, walked once along a plan: the operations that only read come as early as they may, each operation that writes or calls is followed by a second look at those reads that need not have come before it. -/
namespace Go
namespace Plan
section
variable {P : Program} {ops : Array Oper} {Q : Exit → Act → World → Prop} {anc : Nat → Nat → Bool} {eff : Nat → Bool}

/-- A second look at an operation: it comes to what its slot holds. -/
def Ag (P : Program) (ops : Array Oper) (j : Nat) (a : Act) (w : World) : Prop := qOp P ops (fun w' => w' = w) j (fun a' => a' = a) a

def planF (P : Program) (ops : Array Oper) (Q : Exit → Act → World → Prop) (anc : Nat → Nat → Bool) : List (Nat × Bool) → List Nat → Act → World → Prop
 | [], _, a, w => Q .normal a w
 | (i, false) :: r, pend, a, w => qOp P ops (fun w' => w' = w) i (fun a' => planF P ops Q anc r (i :: pend) a' w) a
 | (i, true) :: r, pend, a, w => wpOp P ops Q i (fun a' w' => (∀ j ∈ pend, anc i j = false → Ag P ops j a' w') ∧ planF P ops Q anc r pend a' w') a w

def wpX (P : Program) (ops : Array Oper) (Q : Exit → Act → World → Prop) (anc : Nat → Nat → Bool) (eff : Nat → Bool) : Nat → Array Bool → List Nat → Act → World → Prop
 | 0, L, _, a, w => Region.ready .any ops L = [] ∧ Q .normal a w
 | f + 1, L, pend, a, w =>
  (Region.ready .any ops L = [] → Q .normal a w) ∧ ∀ i ∈ Region.ready .any ops L,
   (eff i = true → wpOp P ops Q i (fun a' w' => (∀ j ∈ pend, anc i j = false → Ag P ops j a' w') ∧ wpX P ops Q anc eff f (L.setIfInBounds i true) pend a' w') a w) ∧
   (eff i = false → qOp P ops (fun w' => w' = w) i (fun a' => wpX P ops Q anc eff f (L.setIfInBounds i true) (i :: pend) a' w) a)

theorem wpX_pend : ∀ (f : Nat) (L : Array Bool) (p q : List Nat) (a : Act) (w : World), (∀ j, j ∈ q → j ∈ p) → wpX P ops Q anc eff f L p a w → wpX P ops Q anc eff f L q a w := by
 intro f
 induction f with
 | zero => intro L p q a w _ h; exact h
 | succ f ih =>
  intro L p q a w hpq h
  refine ⟨h.1, fun i hi => ⟨fun he => ?_, fun he => ?_⟩⟩
  ·exact wpOp_mono (fun a' w' ⟨h1, h2⟩ => ⟨fun j hj hn => h1 j (hpq j hj) hn, ih _ _ _ _ _ hpq h2⟩) ((h.2 i hi).1 he)
  ·refine qOp_mono (fun a' h1 => ih _ _ _ _ _ (fun j hj => ?_) h1) ((h.2 i hi).2 he)
   rcases List.mem_cons.1 hj with rfl | hj
   ·exact List.mem_cons_self
   ·exact List.mem_cons_of_mem _ (hpq j hj)

/-- x's slot is neither looked at by y, nor y's slot. -/
def away (ops : Array Oper) (x y : Oper) : Bool :=
 match x.dst with
 | some d => !(y.looksAt ops).contains d && y.dst != some d
 | none => true
def selfAway (ops : Array Oper) (x : Oper) : Bool :=
 match x.dst with
 | some d => !(x.looksAt ops).contains d
 | none => true

structure Fits (ops : Array Oper) (anc : Nat → Nat → Bool) (eff : Nat → Bool) : Prop where
 sel : Region.noSelect ops = true
 up : ∀ k m, anc k m = true → ∃ o, ops[k]? = some o ∧ ∃ e ∈ o.after, Region.binds .any e = true ∧ (e.on = m ∨ anc e.on m = true)
 dn : ∀ k o, ops[k]? = some o → ∀ e ∈ o.after, Region.binds .any e = true → anc k e.on = true
 ap : ∀ i j oi oj, i ≠ j → ops[i]? = some oi → ops[j]? = some oj → anc i j = false → anc j i = false → oi.apart ops oj = true
 aw : ∀ i j k oi oj, i ≠ j → ops[i]? = some oi → ops[j]? = some oj → eff i = false → eff j = false → eff k = true → (∃ ok, ops[k]? = some ok) → anc k i = false → anc i k = false → anc k j = false → anc j i = false → away ops oi oj = true
 self : ∀ i oi, ops[i]? = some oi → eff i = false → selfAway ops oi = true

def Closed (anc : Nat → Nat → Bool) (L : Array Bool) : Prop := ∀ j m, L.getD j false = true → anc j m = true → L.getD m false = true

theorem ready_anc (F : Fits ops anc eff) {L : Array Bool} (hc : Closed anc L) {k m : Nat} (hk : k ∈ Region.ready .any ops L) (hm : anc k m = true) : L.getD m false = true := by
 obtain ⟨_, o, ho, hall⟩ := mem_ready.1 hk
 obtain ⟨o', ho', e, he, hb, h⟩ := F.up k m hm
 rw [ho] at ho'
 cases ho'
 rcases h with rfl | h
 ·exact hall e he hb
 ·exact hc _ _ (hall e he hb) h

theorem closed_set (F : Fits ops anc eff) {L : Array Bool} (hc : Closed anc L) {k : Nat} (hk : k ∈ Region.ready .any ops L) : Closed anc (L.setIfInBounds k true) := by
 intro j m hj hm
 by_cases hjk : k = j
 ·subst hjk
  exact getD_set_true (ready_anc F hc hk hm)
 ·rw [getD_set_ne false hjk] at hj
  exact getD_set_true (hc j m hj hm)

theorem unl {L : Array Bool} {i : Nat} (h : L.getD i true = false) : L.getD i false = false := by
 rw [Array.getD_eq_getD_getElem?] at *
 cases h' : L[i]? with
 | none => rw [h'] at h; cases h
 | some b => rw [h'] at h; simpa using h

theorem apart_symm {x y : Oper} (h : x.apart ops y = true) : ∀ d, x.dst = some d → d ∉ y.looksAt ops := (Oper.apart_spec h).1

theorem away_spec {x y : Oper} (h : away ops x y = true) : (∀ d, x.dst = some d → d ∉ y.looksAt ops) ∧ (∀ d, x.dst = some d → y.dst ≠ some d) := by
 unfold away at h
 cases hx : x.dst with
 | none => exact ⟨fun d hd => (by cases hd), fun d hd => (by cases hd)⟩
 | some d =>
  rw [hx] at h
  simp only [Bool.and_eq_true, Bool.not_eq_true', bne_iff_ne] at h
  exact ⟨fun e he => by cases he; simpa using h.1, fun e he => by cases he; exact h.2⟩

theorem self_spec {x : Oper} (h : selfAway ops x = true) : ∀ d, x.dst = some d → d ∉ x.looksAt ops := by
 unfold selfAway at h
 cases hx : x.dst with
 | none => exact fun d hd => by cases hd
 | some d =>
  rw [hx] at h
  exact fun e he => by cases he; simpa using h

theorem put_put (a : Act) (d : Option Tmp) (v u : Value) : (a.put d v).put d u = a.put d u := by
 cases d with
 | none => rfl
 | some d => simp [Act.put]

theorem put_cancel {a : Act} {x y : Option Tmp} {v u : Value} (h : ∀ d, x = some d → y ≠ some d) (e : (a.put x v).put y u = a.put x v) : a.put y u = a := by
 cases y with
 | none => rfl
 | some y =>
  cases x with
  | none => exact e
  | some x =>
   have hxy : x ≠ y := fun hh => h x rfl (by rw [hh])
   have e1 : ((a.tmps.setIfInBounds x v).setIfInBounds y u)[y]? = (a.tmps.setIfInBounds x v)[y]? := congrArg (fun b : Act => b.tmps[y]?) e
   rw [Array.getElem?_setIfInBounds_ne hxy] at e1
   have e2 : a.tmps.setIfInBounds y u = a.tmps := by
    apply Array.ext_getElem?
    intro t
    by_cases ht : y = t
    ·subst ht
     by_cases hs : y < a.tmps.size
     ·rw [Array.getElem?_setIfInBounds_self_of_lt (by simpa using hs)] at e1 ⊢
      exact e1
     ·have hs' : a.tmps.size ≤ y := Nat.not_lt.1 hs
      simp [hs']
    ·rw [Array.getElem?_setIfInBounds_ne ht]
   show ({ a with tmps := _ } : Act) = a
   rw [e2]

/-- Whether i's value is in its slot already makes no difference to an operation apart from it. -/
theorem wpOp_put_plain {j : Nat} {oi oj : Oper} {v : Value} (hj : ops[j]? = some oj) (hap : oi.apart ops oj = true)
  (hsj : ∀ cs b, oj.op ≠ .select cs b) (hQ : ∀ c a w, Q (.panic c) (a.put oi.dst v) w → Q (.panic c) a w) {K : Act → World → Prop} {a : Act} {w : World}
  (h : wpOp P ops Q j K (a.put oi.dst v) w) : wpOp P ops Q j (fun a' w' => K (a'.put oi.dst v) w') a w := by
 have hap' : ({ oi with op := .move (.const v), guard := none } : Oper).apart ops oj = true := by
  obtain ⟨h1, h2, _⟩ := Oper.apart_spec hap
  unfold Oper.apart
  simp only [Bool.and_eq_true]
  constructor
  ·cases hd : oi.dst with
   | none => rfl
   | some d => simp only [Bool.and_eq_true, Bool.not_eq_true', bne_iff_ne]; exact ⟨by simpa using h1 d hd, h2 d hd⟩
  ·cases hd : oj.dst with
   | none => rfl
   | some d => simp [Oper.looksAt, Op.operands]
 have hy : Yields P ops ({ oi with op := .move (.const v), guard := none } : Oper) v a := .inl ⟨rfl, fun w => by simp [execOp, Act.eval]⟩
 exact wpOp_mono (fun a' w' h => h.2) (wpOp_put (oi := { oi with op := .move (.const v), guard := none }) hj hap' (fun cs b => by simp) hsj hQ hy h)

theorem wpX_first (F : Fits ops anc eff) (hQ : ∀ c (a a' : Act) w, Q (.panic c) a w → Q (.panic c) a' w) {i : Nat} {oi : Oper} (hi : ops[i]? = some oi) (hei : eff i = false) :
  ∀ (f : Nat) (L : Array Bool) (pend : List Nat) (a : Act) (w : World) (v : Value), Closed anc L → (∀ j ∈ pend, eff j = false ∧ L.getD j false = true) → i ∈ Region.ready .any ops L →
   YieldsIn P ops (fun w' => w' = w) oi v a → wpX P ops Q anc eff f (L.setIfInBounds i true) (i :: pend) (a.put oi.dst v) w → wpX P ops Q anc eff (f + 1) L pend a w := by
 intro f
 induction f with
 | zero =>
  intro L pend a w v hc hp hr hy H
  refine ⟨fun h => (by rw [h] at hr; cases hr), fun k hk => ?_⟩
  by_cases hki : k = i
  ·subst hki
   refine ⟨fun h => (by rw [hei] at h; cases h), fun _ => hy.qOp hi H⟩
  ·have := ready_mono hk hki
   rw [H.1] at this
   cases this
 | succ f ih =>
  intro L pend a w v hc hp hr hy H
  refine ⟨fun h => (by rw [h] at hr; cases hr), fun k hk => ?_⟩
  by_cases hki : k = i
  ·subst hki
   refine ⟨fun h => (by rw [hei] at h; cases h), fun _ => hy.qOp hi H⟩
  ·have hiun := (mem_ready.1 hr).1
   obtain ⟨hkun, ok, hok, _⟩ := mem_ready.1 hk
   have nki : anc k i = false := by
    cases h : anc k i with
    | false => rfl
    | true => have := ready_anc F hc hk h; rw [unl hiun] at this; cases this
   have nik : anc i k = false := by
    cases h : anc i k with
    | false => rfl
    | true => have := ready_anc F hc hr h; rw [unl hkun] at this; cases this
   have hap : oi.apart ops ok = true := F.ap i k oi ok (Ne.symm hki) hi hok nik nki
   have hsi := fun cs b => Region.noSelect_spec F.sel i oi cs b hi
   have hsk := fun cs b => Region.noSelect_spec F.sel k ok cs b hok
   have hrk : i ∈ Region.ready .any ops (L.setIfInBounds k true) := ready_mono hr (Ne.symm hki)
   have hck := closed_set F hc hk
   have h1 := H.2 k (ready_mono hk hki)
   refine ⟨fun he => ?_, fun he => ?_⟩
   ·have h2 := wpOp_put_plain hok hap hsk (fun c a w => hQ c _ _ w) (h1.1 he)
    refine wpOp_mono (fun a' w' ⟨hag, hx⟩ => ⟨fun j hj hkj => ?_, ?_⟩) h2
    ·obtain ⟨hej, hLj⟩ := hp j hj
     have hij : i ≠ j := fun e => by subst e; rw [unl hiun] at hLj; cases hLj
     have nji : anc j i = false := by
      cases h : anc j i with
      | false => rfl
      | true => have := hc j i hLj h; rw [unl hiun] at this; cases this
     have hA := hag j (List.mem_cons_of_mem _ hj) hkj
     cases hoj : ops[j]? with
     | none => unfold Ag qOp; simp only [hoj]
     | some oj =>
      obtain ⟨v', hv', hput⟩ := yieldsIn_of_qOp hoj hA
      obtain ⟨w1, w2⟩ := away_spec (F.aw i j k oi oj hij hi hoj hei hej he ⟨ok, hok⟩ nki nik hkj nji)
      have hsj := fun cs b => Region.noSelect_spec F.sel j oj cs b hoj
      exact YieldsIn.qOp hoj (hv'.of_same (execOp_put oj hsj a' oi.dst v w1).symm (wanted_put oj a' oi.dst v w1).symm) (put_cancel w2 hput)
    ·obtain ⟨v', hv', hput⟩ := yieldsIn_of_qOp hi (hag i List.mem_cons_self nki)
     have hs := self_spec (F.self i oi hi hei)
     have hy' : YieldsIn P ops (fun w'' => w'' = w') oi v' a' := hv'.of_same (execOp_put oi hsi a' oi.dst v hs).symm (wanted_put oi a' oi.dst v hs).symm
     rw [put_put] at hput
     refine ih _ pend a' w' v' hck (fun j hj => ⟨(hp j hj).1, ?_⟩) hrk hy' ?_
     ·exact getD_set_true (hp j hj).2
     ·rw [hput, Array.setIfInBounds_comm _ _ (Ne.symm (Ne.symm hki))]
      exact hx
   ·have h2 := qOp_put hok hap hsi hsk hy (h1.2 he)
    refine qOp_mono (fun a' ⟨hy', hx⟩ => ?_) h2
    refine ih _ (k :: pend) a' w v hck (fun j hj => ?_) hrk hy' ?_
    ·rcases List.mem_cons.1 hj with rfl | hj
     ·refine ⟨he, ?_⟩
      have hlt : j < L.size := by
       rcases Nat.lt_or_ge j L.size with h | h
       ·exact h
       ·rw [Array.getD_eq_getD_getElem?, Array.getElem?_eq_none h] at hkun; cases hkun
      simp [hlt]
     ·exact ⟨(hp j hj).1, getD_set_true (hp j hj).2⟩
    ·rw [Array.setIfInBounds_comm _ _ (Ne.symm (Ne.symm hki))]
     exact wpX_pend _ _ _ _ _ _ (fun j hj => by simp only [List.mem_cons] at hj ⊢; rcases hj with h | h | h <;> simp [h]) hx

theorem wpAny_of_wpX : ∀ (f : Nat) (L : Array Bool) (pend : List Nat) (a : Act) (w : World), wpX P ops Q anc eff f L pend a w → wpAny P .any ops Q f L a w := by
 intro f
 induction f with
 | zero => intro L pend a w h; exact h
 | succ f ih =>
  intro L pend a w h
  refine ⟨h.1, fun i hi => ?_⟩
  cases he : eff i with
  | true => exact wpOp_mono (fun a' w' h => ih _ _ _ _ h.2) ((h.2 i hi).1 he)
  | false => exact wpOp_of_qOp (C := fun w' => w' = w) rfl (fun a' w' hw h => by subst hw; exact ih _ _ _ _ h) ((h.2 i hi).2 he)

/-- The plan: each operation once, behind what it waits for; behind one that writes or calls come such alone as wait for it. -/
def Tidy (ops : Array Oper) (anc : Nat → Nat → Bool) (eff : Nat → Bool) (L : Array Bool) : List (Nat × Bool) → Prop
 | [] => ∀ j, j < ops.size → L.getD j true = true
 | (i, b) :: r => i ∈ Region.ready .any ops L ∧ eff i = b ∧ (b = true → ∀ k, k < ops.size → L.getD k true = false → k ≠ i → anc k i = true) ∧ Tidy ops anc eff (L.setIfInBounds i true) r

theorem wpX_of_plan (F : Fits ops anc eff) (hQ : ∀ c (a a' : Act) w, Q (.panic c) a w → Q (.panic c) a' w) : ∀ (plan : List (Nat × Bool)) (L : Array Bool) (pend : List Nat) (a : Act) (w : World), Closed anc L →
  (∀ j ∈ pend, eff j = false ∧ L.getD j false = true) → Tidy ops anc eff L plan → planF P ops Q anc plan pend a w → wpX P ops Q anc eff plan.length L pend a w := by
 intro plan
 induction plan with
 | nil =>
  intro L pend a w _ _ ht h
  refine ⟨?_, h⟩
  refine List.eq_nil_iff_forall_not_mem.2 fun k hk => ?_
  obtain ⟨hun, o, ho, _⟩ := mem_ready.1 hk
  rw [ht k (Array.getElem?_eq_some_iff.1 ho).1] at hun
  cases hun
 | cons x r ih =>
  obtain ⟨i, b⟩ := x
  intro L pend a w hc hp ht h
  obtain ⟨hr, hb, hlast, ht'⟩ := ht
  obtain ⟨hiun, oi, hi, _⟩ := mem_ready.1 hr
  have hlt : i < L.size := by
   rcases Nat.lt_or_ge i L.size with h | h
   ·exact h
   ·rw [Array.getD_eq_getD_getElem?, Array.getElem?_eq_none h] at hiun; cases hiun
  have keep : ∀ j, L.getD j false = true → (L.setIfInBounds i true).getD j false = true := fun j hj => getD_set_true hj
  cases b with
  | false =>
   obtain ⟨v, hy, hn⟩ := yieldsIn_of_qOp hi h
   refine wpX_first F hQ hi hb r.length L pend a w v hc hp hr hy ?_
   refine ih _ (i :: pend) _ w (closed_set F hc hr) (fun j hj => ?_) ht' hn
   rcases List.mem_cons.1 hj with rfl | hj
   ·exact ⟨hb, by simp [hlt]⟩
   ·exact ⟨(hp j hj).1, keep j (hp j hj).2⟩
  | true =>
   refine ⟨fun e => (by rw [e] at hr; cases hr), fun k hk => ?_⟩
   have hki : k = i := by
    refine Decidable.byContradiction fun hki => ?_
    obtain ⟨hkun, ok, hok, _⟩ := mem_ready.1 hk
    have h1 := ready_anc F hc hk (hlast rfl k (Array.getElem?_eq_some_iff.1 hok).1 hkun hki)
    rw [unl hiun] at h1
    cases h1
   subst hki
   refine ⟨fun _ => ?_, fun he => (by rw [hb] at he; cases he)⟩
   exact wpOp_mono (fun a' w' ⟨h1, h2⟩ => ⟨h1, ih _ pend a' w' (closed_set F hc hr) (fun j hj => ⟨(hp j hj).1, keep j (hp j hj).2⟩) ht' h2⟩) h
end

/-! The conditions as one Bool, for the kernel. -/
def bef (B : List Nat) (k m : Nat) : Bool := (B.getD k 0).testBit m
def effOf (E : List Nat) (i : Nat) : Bool := E.contains i
def edges (o : Oper) : List Nat := (o.after.toList.filter fun e => Region.binds .any e).map (·.on)
def pairsB (ops : Array Oper) (B : List Nat) : Bool :=
 (List.range ops.size).all fun i => (List.range ops.size).all fun j => i == j || bef B i j || bef B j i || (match ops[i]?, ops[j]? with | some oi, some oj => oi.apart ops oj | _, _ => true)
def awayB (ops : Array Oper) (B E : List Nat) : Bool :=
 E.all fun k => (List.range ops.size).all fun i => effOf E i || bef B k i || bef B i k || (List.range ops.size).all fun j => i == j || effOf E j || bef B k j || bef B j i || (match ops[i]?, ops[j]? with | some oi, some oj => away ops oi oj | _, _ => true)
def selfB (ops : Array Oper) (E : List Nat) : Bool :=
 (List.range ops.size).all fun i => effOf E i || (match ops[i]? with | some oi => selfAway ops oi | _ => true)
def upB (ops : Array Oper) (B : List Nat) : Bool :=
 B.length == ops.size && (List.range ops.size).all fun k => match ops[k]? with
  | some o => decide (B.getD k 0 = (edges o).foldl (fun s m => s ||| 2 ^ m ||| B.getD m 0) 0)
  | none => false
def fitsB (ops : Array Oper) (B E : List Nat) : Bool := Region.noSelect ops && upB ops B && pairsB ops B && awayB ops B E && selfB ops E

theorem foldl_bit (B : List Nat) (m : Nat) : ∀ (l : List Nat) (s : Nat), (l.foldl (fun s m => s ||| 2 ^ m ||| B.getD m 0) s).testBit m = true ↔ s.testBit m = true ∨ ∃ x ∈ l, x = m ∨ bef B x m = true := by
 intro l
 induction l with
 | nil => intro s; simp
 | cons x l ih =>
  intro s
  rw [List.foldl_cons, ih]
  simp only [Nat.testBit_or, Bool.or_eq_true, Nat.testBit_two_pow, decide_eq_true_eq, List.mem_cons, exists_eq_or_imp, bef, or_assoc]

theorem fits_of {ops : Array Oper} {B E : List Nat} (h : fitsB ops B E = true) : Fits ops (bef B) (effOf E) := by
 simp only [fitsB, Bool.and_eq_true] at h
 obtain ⟨⟨⟨⟨h1, h2⟩, h3⟩, h4⟩, h5⟩ := h
 simp only [upB, Bool.and_eq_true, beq_iff_eq, List.all_eq_true, List.mem_range] at h2
 obtain ⟨hl, h2⟩ := h2
 simp only [pairsB, List.all_eq_true, List.mem_range, Bool.or_eq_true, beq_iff_eq] at h3
 simp only [awayB, List.all_eq_true, List.mem_range, Bool.or_eq_true, beq_iff_eq] at h4
 simp only [selfB, List.all_eq_true, List.mem_range, Bool.or_eq_true] at h5
 have row : ∀ k o, ops[k]? = some o → B.getD k 0 = (edges o).foldl (fun s m => s ||| 2 ^ m ||| B.getD m 0) 0 := fun k o ho => by
  have := h2 k (Array.getElem?_eq_some_iff.1 ho).1
  rw [ho] at this
  exact of_decide_eq_true this
 refine ⟨h1, fun k m hkm => ?_, fun k o ho e he hb => ?_, fun i j oi oj hij hi hj n1 n2 => ?_, fun i j k oi oj hij hi hj e1 e2 e3 hk n1 n0 n2 n3 => ?_, fun i oi hi e1 => ?_⟩
 ·cases ho : ops[k]? with
  | none =>
   have : ops.size ≤ k := Nat.not_lt.1 fun hlt => by rw [Array.getElem?_eq_getElem hlt] at ho; cases ho
   simp [bef, List.getD_eq_getElem?_getD, List.getElem?_eq_none (by omega : B.length ≤ k)] at hkm
  | some o =>
   have hkm' : (B.getD k 0).testBit m = true := hkm
   rw [row k o ho, foldl_bit] at hkm'
   rcases hkm' with h | ⟨x, hx, h⟩
   ·simp at h
   ·simp only [edges, List.mem_map, List.mem_filter] at hx
    obtain ⟨e, ⟨he, hb⟩, rfl⟩ := hx
    exact ⟨o, rfl, e, by simpa using he, hb, h⟩
 ·show (B.getD k 0).testBit e.on = true
  rw [row k o ho, foldl_bit]
  exact .inr ⟨e.on, by simp only [edges, List.mem_map, List.mem_filter]; exact ⟨e, ⟨by simpa using he, hb⟩, rfl⟩, .inl rfl⟩
 ·have := h3 i (Array.getElem?_eq_some_iff.1 hi).1 j (Array.getElem?_eq_some_iff.1 hj).1
  simpa [hij, n1, n2, hi, hj] using this
 ·obtain ⟨ok, hk⟩ := hk
  have hkE : k ∈ E := by simpa [effOf] using e3
  have := h4 k hkE i (Array.getElem?_eq_some_iff.1 hi).1
  simp only [e1, n1, n0, Bool.false_eq_true, false_or] at this
  have := this j (Array.getElem?_eq_some_iff.1 hj).1
  simpa [hij, e2, n2, n3, hi, hj] using this
 ·have := h5 i (Array.getElem?_eq_some_iff.1 hi).1
  simpa [e1, hi] using this

def tidyB (ops : Array Oper) (B E : List Nat) : List (Nat × Bool) → Array Bool → Bool
 | [], L => (List.range ops.size).all fun j => L.getD j true
 | (i, b) :: r, L => (Region.ready .any ops L).contains i && effOf E i == b && (!b || (List.range ops.size).all fun k => L.getD k true || k == i || bef B k i) && tidyB ops B E r (L.setIfInBounds i true)

theorem tidy_of {ops : Array Oper} {B E : List Nat} : ∀ (plan : List (Nat × Bool)) (L : Array Bool), tidyB ops B E plan L = true → Tidy ops (bef B) (effOf E) L plan := by
 intro plan
 induction plan with
 | nil => intro L h j hj; exact List.all_eq_true.1 h j (List.mem_range.2 hj)
 | cons x r ih =>
  obtain ⟨i, b⟩ := x
  intro L h
  simp only [tidyB, Bool.and_eq_true, beq_iff_eq, Bool.or_eq_true, Bool.not_eq_true'] at h
  obtain ⟨⟨⟨h1, h2⟩, h3⟩, h4⟩ := h
  refine ⟨by simpa using h1, h2, fun hb k hk hun hne => ?_, ih _ h4⟩
  rcases h3 with h3 | h3
  ·rw [hb] at h3; cases h3
  ·have := List.all_eq_true.1 h3 k (List.mem_range.2 hk)
   simpa [hun, hne] using this

/-! The walk: a stretch of reads, an operation that writes or calls, those reads that are looked at again; and so on. -/
structure Seg where
 reads : List Nat
 act : Nat
 late : List Nat

def planOf : List Seg → List Nat → List (Nat × Bool)
 | [], last => last.map fun i => (i, false)
 | s :: r, last => s.reads.map (fun i => (i, false)) ++ (s.act, true) :: planOf r last

def pickAll (l : List Oper) : List Nat → List Oper
 | [] => []
 | i :: is => l.getD i default :: pickAll l is

/-- The operations of the stretches themselves. -/
inductive Way where
 | last (qs : List Oper)
 | seg (qs : List Oper) (e : Oper) (late : List Oper) (next : Way)

def wayOf (l : List Oper) : List Seg → List Nat → Way
 | [], last => .last (pickAll l last)
 | s :: r, last => .seg (pickAll l s.reads) (l.getD s.act default) (pickAll l s.late) (wayOf l r last)

/-- A second look, at the operation itself. -/
def Again (P : Program) (ops : Array Oper) (w : World) : List Oper → Act → Prop
 | [], _ => True
 | o :: r, a => (if Region.wanted o (yielded ops a.tmps) then o.quiet P a (fun w' => w' = w) (fun a' => a' = a) else a.put o.dst undef = a) ∧ Again P ops w r a

def wpWay (P : Program) (ops : Array Oper) (Q : Exit → Act → World → Prop) : Way → Act → World → Prop
 | .last qs, a, w => wpQuiet P ops (fun w' => w' = w) (fun a' => Q .normal a' w) qs a
 | .seg qs e late next, a, w => wpQuiet P ops (fun w' => w' = w) (fun a' =>
   if Region.wanted e (yielded ops a'.tmps) then e.wp P a' w (fun a'' w'' => Again P ops w'' late a'' ∧ wpWay P ops Q next a'' w'') Q ∨ (e.asks P a' w ∧ LetsOut Q)
   else Again P ops w late (a'.put e.dst undef) ∧ wpWay P ops Q next (a'.put e.dst undef) w) qs a

/-- What stands behind an operation that writes or calls. -/
def QW (P : Program) (ops : Array Oper) (Q : Exit → Act → World → Prop) (late : List Oper) (next : Way) : Exit → Act → World → Prop
 | .normal, a, w => Again P ops w late a ∧ wpWay P ops Q next a w
 | e, a, w => Q e a w

theorem wpWay_seg {P : Program} {ops : Array Oper} {Q : Exit → Act → World → Prop} {qs : List Oper} {e : Oper} {late : List Oper} {next : Way} {a : Act} {w : World}
  (h : wpQuiet P ops (fun w' => w' = w) (fun a' => wpWay P ops Q (.seg [] e late next) a' w) qs a) : wpWay P ops Q (.seg qs e late next) a w := h
theorem wpWay_last {P : Program} {ops : Array Oper} {Q : Exit → Act → World → Prop} {qs : List Oper} {a : Act} {w : World}
  (h : wpQuiet P ops (fun w' => w' = w) (fun a' => Q .normal a' w) qs a) : wpWay P ops Q (.last qs) a w := h
theorem wpWay_act {P : Program} {ops : Array Oper} {Q : Exit → Act → World → Prop} {e : Oper} {late : List Oper} {next : Way} {a : Act} {w : World}
  (h : wpList P ops (QW P ops Q late next) [e] a w) : wpWay P ops Q (.seg [] e late next) a w := by
 show wpQuiet P ops _ _ [] a
 refine wpQuiet_nil ?_
 unfold wpList at h
 split
 ·rename_i hw
  rw [if_pos hw] at h
  rcases h with h | ⟨h1, h2⟩
  ·refine .inl ?_
   unfold Oper.wp at *
   generalize (execOp a.eval e).run P w = r at *
   cases r with
   | ok n w' =>
    cases n <;> first
     | exact h
     | (refine Calls.mono h (fun e' w'' he => ?_); cases e' <;> exact he)
   | halt x w' => cases x <;> exact h
  ·exact .inr ⟨h1, h2⟩
 ·rename_i hw
  rw [if_neg hw] at h
  exact h
theorem again_nil {P : Program} {ops : Array Oper} {w : World} {a : Act} : Again P ops w [] a := trivial
theorem again_cons {P : Program} {ops : Array Oper} {w : World} {a : Act} {o : Oper} {r : List Oper} (h : wpQuiet P ops (fun w' => w' = w) (fun a' => a' = a) [o] a) (hr : Again P ops w r a) : Again P ops w (o :: r) a := ⟨h, hr⟩

def lateOk (B : List Nat) : List Seg → List Nat → Bool
 | [], _ => true
 | s :: r, pend => (s.reads ++ pend).all (fun j => bef B s.act j || s.late.contains j) && lateOk B r (s.reads ++ pend)

theorem qOp_of_pick {P : Program} {l : List Oper} {C : World → Prop} {i : Nat} {o : Oper} (hi : l.toArray[i]? = some o) {K : Act → Prop} {a : Act}
  (h : if Region.wanted o (yielded l.toArray a.tmps) then o.quiet P a C K else K (a.put o.dst undef)) : qOp P l.toArray C i K a := by
 unfold qOp
 simp only [hi]
 exact h

theorem plan_reads {P : Program} {l : List Oper} {Q : Exit → Act → World → Prop} {B : List Nat} {rest : List (Nat × Bool)} {w : World} {K : Act → Prop} : ∀ (is : List Nat) (pend : List Nat) (a : Act),
  (∀ i ∈ is, i < l.length) → (∀ a, K a → planF P l.toArray Q (bef B) rest (is.reverse ++ pend) a w) → wpQuiet P l.toArray (fun w' => w' = w) K (pickAll l is) a →
  planF P l.toArray Q (bef B) (is.map (fun i => (i, false)) ++ rest) pend a w := by
 intro is
 induction is with
 | nil => intro pend a _ hK h; exact hK a h
 | cons i is ih =>
  intro pend a hlt hK h
  have hil : i < l.length := hlt i List.mem_cons_self
  have hi : l[i]? = some l[i] := List.getElem?_eq_getElem hil
  simp only [pickAll, List.getD_eq_getElem?_getD, hi, Option.getD_some] at h
  refine qOp_of_pick (o := l[i]) (by simp) ?_
  have hn : ∀ a', wpQuiet P l.toArray (fun w' => w' = w) K (pickAll l is) a' → planF P l.toArray Q (bef B) (is.map (fun i => (i, false)) ++ rest) (i :: pend) a' w :=
   fun a' h' => ih (i :: pend) a' (fun j hj => hlt j (List.mem_cons_of_mem _ hj)) (fun a hk => by have := hK a hk; simpa using this) h'
  unfold wpQuiet at h
  split
  ·rename_i hw
   rw [if_pos hw] at h
   exact Oper.quiet_mono hn h
  ·rename_i hw
   rw [if_neg hw] at h
   exact hn _ h

theorem again_mem {P : Program} {l : List Oper} {w : World} {a : Act} : ∀ {is : List Nat}, Again P l.toArray w (pickAll l is) a → ∀ j ∈ is, j < l.length → Ag P l.toArray j a w := by
 intro is
 induction is with
 | nil => intro _ j hj; cases hj
 | cons i is ih =>
  intro h j hj hlt
  simp only [pickAll, Again] at h
  rcases List.mem_cons.1 hj with rfl | hj
  ·have hi : l[j]? = some l[j] := List.getElem?_eq_getElem hlt
   simp only [List.getD_eq_getElem?_getD, hi, Option.getD_some] at h
   exact qOp_of_pick (o := l[j]) (by simp) h.1
  ·exact ih h.2 j hj hlt

theorem plan_of_way {P : Program} {l : List Oper} {Q : Exit → Act → World → Prop} {B : List Nat} (last : List Nat) (hlast : ∀ i ∈ last, i < l.length) : ∀ (segs : List Seg) (pend : List Nat) (a : Act) (w : World),
  (∀ s ∈ segs, (∀ i ∈ s.reads, i < l.length) ∧ s.act < l.length) → (∀ j ∈ pend, j < l.length) → (∀ p : List Nat, (∀ j, j ∈ p ↔ j ∈ pend) → lateOk B segs p = true) →
  wpWay P l.toArray Q (wayOf l segs last) a w → planF P l.toArray Q (bef B) (planOf segs last) pend a w := by
 intro segs
 induction segs with
 | nil =>
  intro pend a w _ _ _ h
  have h' : wpQuiet P l.toArray (fun w' => w' = w) (fun a' => Q .normal a' w) (pickAll l last) a := h
  have := plan_reads (B := B) (rest := []) last pend a hlast (fun a hk => hk) h'
  simpa [planOf] using this
 | cons s r ih =>
  intro pend a w hs hp hlate h
  obtain ⟨hr, ha⟩ := hs s List.mem_cons_self
  have hL := hlate pend (fun _ => Iff.rfl)
  simp only [lateOk, Bool.and_eq_true, List.all_eq_true, Bool.or_eq_true] at hL
  have hi : l[s.act]? = some l[s.act] := List.getElem?_eq_getElem ha
  have hd : l.getD s.act default = l[s.act] := by simp [List.getD_eq_getElem?_getD, hi]
  refine plan_reads s.reads pend a hr (fun a' hk => ?_) h
  have next : ∀ a'' w'', (Again P l.toArray w'' (pickAll l s.late) a'' ∧ wpWay P l.toArray Q (wayOf l r last) a'' w'') →
    (∀ j ∈ s.reads.reverse ++ pend, bef B s.act j = false → Ag P l.toArray j a'' w'') ∧ planF P l.toArray Q (bef B) (planOf r last) (s.reads.reverse ++ pend) a'' w'' := fun a'' w'' ⟨h1, h2⟩ => by
   refine ⟨fun j hj hb => ?_, ih _ a'' w'' (fun s' hs' => hs s' (List.mem_cons_of_mem _ hs')) (fun j hj => ?_) (fun p hpp => ?_) h2⟩
   ·have hj' : j ∈ s.reads ++ pend := by simpa using hj
    have hjl : j < l.length := by
     rcases List.mem_append.1 hj' with h | h
     ·exact hr j h
     ·exact hp j h
    rcases hL.1 j hj' with h | h
    ·rw [h] at hb; cases hb
    ·exact again_mem h1 j (by simpa using h) hjl
   ·rcases List.mem_append.1 hj with h | h
    ·exact hr j (by simpa using h)
    ·exact hp j h
   ·have hAny : ∀ (q q' : List Nat), (∀ j, j ∈ q ↔ j ∈ q') → ∀ segs, lateOk B segs q = true → lateOk B segs q' = true := by
     intro q q' hq segs
     induction segs generalizing q q' with
     | nil => intro _; rfl
     | cons t ts iht =>
      intro ht
      simp only [lateOk, Bool.and_eq_true, List.all_eq_true] at ht ⊢
      exact ⟨fun j hj => ht.1 j (by simp only [List.mem_append] at hj ⊢; rcases hj with h | h; exact .inl h; exact .inr ((hq j).2 h)), iht _ _ (fun j => by simp only [List.mem_append, hq j]) ht.2⟩
    exact hAny (s.reads ++ pend) p (fun j => by rw [hpp j]; simp) r hL.2
  show wpOp P l.toArray Q s.act _ a' w
  unfold wpOp
  simp only [List.getElem?_toArray, hi]
  rw [hd] at hk
  split
  ·rename_i hw
   rw [if_pos hw] at hk
   exact hk.imp (Oper.wp_mono next) id
  ·rename_i hw
   rw [if_neg hw] at hk
   exact next _ _ hk

def okB (l : List Oper) (B : List Nat) (segs : List Seg) (last : List Nat) : Bool :=
 fitsB l.toArray B (segs.map (·.act)) && tidyB l.toArray B (segs.map (·.act)) (planOf segs last) (Array.replicate l.toArray.size false) && lateOk B segs [] &&
 last.all (fun i => decide (i < l.length)) && segs.all (fun s => s.reads.all (fun i => decide (i < l.length)) && decide (s.act < l.length)) && (planOf segs last).length == l.toArray.size

/-- A region of open order, by its plan. -/
theorem wp_region_plan {P : Program} {id : Nat} {Q : Exit → Act → World → Prop} {a : Act} {w : World} {l : List Oper} (B : List Nat) (segs : List Seg) (last : List Nat) (hm : P.follows .mixedOrders = true)
  (hB : okB l B segs last = true) (h : wpWay P l.toArray (NoPanic Q) (wayOf l segs last) a w.drew) : (Code.region id l.toArray true).wp P Q a w := by
 refine Code.wp_mono NoPanic.imp (wp_region_any hm ?_)
 simp only [okB, Bool.and_eq_true, beq_iff_eq] at hB
 obtain ⟨⟨⟨⟨⟨h1, h2⟩, h3⟩, h4⟩, h5⟩, h6⟩ := hB
 rw [← h6] at h2 ⊢
 refine wpAny_of_wpX (anc := bef B) (eff := effOf (segs.map (·.act))) _ _ [] _ _ ?_
 refine wpX_of_plan (fits_of h1) (fun c a a' w h => h) _ _ [] _ _ (fun j m hj _ => ?_) (fun j hj => by cases hj) (tidy_of _ _ h2) ?_
 ·rw [Array.getD_eq_getD_getElem?] at hj
  cases hx : (Array.replicate (planOf segs last).length false)[j]? with
  | none => rw [hx] at hj; cases hj
  | some b =>
   rw [hx] at hj
   have := Array.getElem?_eq_some_iff.1 hx
   obtain ⟨_, hb⟩ := this
   simp at hb
   subst hb
   cases hj
 ·refine plan_of_way last (fun i hi => by simpa using List.all_eq_true.1 h4 i hi) segs [] _ _ (fun s hs => ?_) (fun j hj => by cases hj) (fun p hp => ?_) h
  ·have := List.all_eq_true.1 h5 s hs
   simp only [Bool.and_eq_true, List.all_eq_true, decide_eq_true_eq] at this
   exact this
  ·have : p = [] := List.eq_nil_iff_forall_not_mem.2 fun j hj => by have := (hp j).1 hj; cases this
   rw [this]; exact h3
end Plan
end Go
