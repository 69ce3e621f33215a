/- append of one element, and of all of another slice, to a slice that the call made. -/
import Derived.Test.YtjajpdmmoiiojaaMem
import Derived.Deep.AppendLies
namespace Go.Mem
open Go.RowKit

theorem wpList_append_row {P : Program} {w : World} {ops : Array Oper} {rest : List Oper} {o : Oper} {a : Act} {Q : Exit → Act → World → Prop} (hgd : o.guard = none) (s x : Operand) (t : TypeId)
    (ho : o.op = .call { callee := .builtin .append, args := #[s, x], argTypes := #[t, t] })
    (e : TypeId) (i : TypeInfo) (z : Value) (bytes : Nat) (ht : P.underlying t = some (.slice e)) (hi : P.info? e = some i) (hz : i.zero = some z)
    (hsize : i.size = 1) (hby : i.bytes = bytes) (hzs : z.cells.size = 1) {α : Type} {enc : α → Value}
    (v : Value) (xs : List α) (hs : a.eval s = v) (hrow : Row w e enc v xs) (ad : Addr) (c : Nat) (y : α) (hx : a.eval x = .slice (some ad) 1 c) (hc : w.cell? ad = some (enc y)) (h1 : (enc y).oneCell' = true)
    (h63 : xs.length + 1 ≤ maxLen) (hbytes : (xs.length + 1) * bytes ≤ 140737488355328)
    (h : ∀ g cap w', Row w' e enc (.slice (some ⟨g, 0, none⟩) (xs.length + 1) cap) (xs ++ [y]) → Frm (fun b => v.ownBlock = some b) w w' → (v.ownBlock = some g ∨ g = w.heap.size) → g < w'.heap.size →
      wpList P ops Q rest (a.put o.dst (.slice (some ⟨g, 0, none⟩) (xs.length + 1) cap)) w') : wpList P ops Q (o :: rest) a w := by
  refine wpList_append_lies w hgd s x t ho 0 e i z 1 bytes ht hi hz hsize hby hzs (by decide) v xs.length (xs.map enc) hs hrow ad 1 c [enc y] hx rfl ?_ (by simpa using h1) (by decide) h63 hbytes (Nat.zero_le _) _ rfl ?_
  · intro j u hj
    cases j with
    | zero =>
      simp at hj
      subst hj
      have : ad.add 0 = ad := by cases ad; rfl
      rw [this]; exact hc
    | succ j => simp at hj
  · intro g cap w' h1 h2 h3 h4
    refine h g cap w' ?_ (Frm.of_grown h2) h3 h4
    show w'.ownsRow 0 e 1 _ (xs ++ [y]).length ((xs ++ [y]).map enc)
    rw [List.length_append, List.map_append]
    exact h1

theorem wpList_append_all {P : Program} {w : World} {ops : Array Oper} {rest : List Oper} {o : Oper} {a : Act} {Q : Exit → Act → World → Prop} (hgd : o.guard = none) (s x : Operand) (t : TypeId)
    (ho : o.op = .call { callee := .builtin .append, args := #[s, x], argTypes := #[t, t] })
    (e : TypeId) (i : TypeInfo) (z : Value) (bytes : Nat) (ht : P.underlying t = some (.slice e)) (hi : P.info? e = some i) (hz : i.zero = some z)
    (hsize : i.size = 1) (hby : i.bytes = bytes) (hzs : z.cells.size = 1) {α : Type} {enc : α → Value}
    (v : Value) (xs : List α) (hs : a.eval s = v) (hrow : Row w e enc v xs) (ad : Addr) (c : Nat) (ys : List α) (hx : a.eval x = .slice (some ad) ys.length c) (hc : ∀ j y, ys[j]? = some y → w.cell? (ad.add j) = some (enc y)) (h1 : ∀ y, (enc y).oneCell' = true)
    (hpos : 0 < ys.length) (h63 : xs.length + ys.length ≤ maxLen) (hbytes : (xs.length + ys.length) * bytes ≤ 140737488355328)
    (h : ∀ g cap w', Row w' e enc (.slice (some ⟨g, 0, none⟩) (xs.length + ys.length) cap) (xs ++ ys) → Frm (fun b => v.ownBlock = some b) w w' → (v.ownBlock = some g ∨ g = w.heap.size) → g < w'.heap.size →
      wpList P ops Q rest (a.put o.dst (.slice (some ⟨g, 0, none⟩) (xs.length + ys.length) cap)) w') : wpList P ops Q (o :: rest) a w := by
  refine wpList_append_lies w hgd s x t ho 0 e i z 1 bytes ht hi hz hsize hby hzs (by decide) v xs.length (xs.map enc) hs hrow ad ys.length c (ys.map enc) hx (by simp) ?_ ?_ hpos h63 hbytes (Nat.zero_le _) _ rfl ?_
  · intro j u hj
    rw [List.getElem?_map] at hj
    obtain ⟨y, hy, rfl⟩ := Option.map_eq_some_iff.1 hj
    exact hc j y hy
  · intro u hu
    obtain ⟨y, _, rfl⟩ := List.mem_map.1 hu
    exact h1 y
  · intro g cap w' h1 h2 h3 h4
    refine h g cap w' ?_ (Frm.of_grown h2) h3 h4
    show w'.ownsRow 0 e 1 _ (xs ++ ys).length ((xs ++ ys).map enc)
    rw [List.length_append, List.map_append]
    exact h1
end Go.Mem
