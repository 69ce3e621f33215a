/- Memory in this seat's own words: what a call may have written (Frm), rows of cells that read as lists, maps that read as lists of pairs. No program in sight. -/
import Derived.WalkKit
import Derived.WalkSpells
import Derived.WalkLawsBesides
import Derived.Deep.Draws
import Derived.Deep.AppendLies
import Derived.OneCell
import Derived.Laws.StructEq
import Derived.Maps.OwnOps
set_option linter.unusedSimpArgs false
set_option linter.unusedVariables false
namespace Go.Mem
open Go.RowKit

/-! ### What a call may have written -/
structure Frm (S : Nat → Prop) (w w' : World) : Prop where
 os : w'.os = w.os
 tape : w'.tape = w.tape
 output : w'.output = w.output
 size : w.heap.size ≤ w'.heap.size
 block : ∀ k, k < w.heap.size → ¬ S k → w'.heap[k]? = w.heap[k]?

theorem Frm.refl (S : Nat → Prop) (w : World) : Frm S w w := ⟨rfl, rfl, rfl, Nat.le_refl _, fun _ _ _ => rfl⟩
theorem Frm.trans {S T : Nat → Prop} {a b c : World} (h : Frm S a b) (k : Frm T b c) (hT : ∀ x, x < a.heap.size → T x → S x) : Frm S a c :=
 ⟨k.os.trans h.os, k.tape.trans h.tape, k.output.trans h.output, Nat.le_trans h.size k.size, fun x hx hS => (k.block x (Nat.lt_of_lt_of_le hx h.size) fun t => hS (hT x hx t)).trans (h.block x hx hS)⟩
theorem Frm.mono {S T : Nat → Prop} {a b : World} (h : Frm S a b) (hST : ∀ x, x < a.heap.size → S x → T x) : Frm T a b :=
 ⟨h.os, h.tape, h.output, h.size, fun x hx hT => h.block x hx fun s => hT (hST x hx s)⟩
theorem Frm.drew {S : Nat → Prop} {a w : World} (h : Frm S a w) : Frm S a w.drew := ⟨h.os, h.tape, h.output, h.size, h.block⟩
theorem Frm.drewN {S : Nat → Prop} {a w : World} (h : Frm S a w) (n : Nat) : Frm S a (w.drewN n) := ⟨h.os, h.tape, h.output, h.size, h.block⟩
theorem Frm.alloc {S : Nat → Prop} {a w : World} (h : Frm S a w) (o : Obj) : Frm S a (w.alloc o) :=
 ⟨h.os, h.tape, h.output, by have := h.size; simp; omega, fun x hx hS => (Below.heap_alloc w o x (by have := h.size; omega)).trans (h.block x hx hS)⟩
theorem Frm.set {S : Nat → Prop} {a w : World} (h : Frm S a w) {p : Addr} (hp : S p.block ∨ a.heap.size ≤ p.block) (v : Value) : Frm S a (w.setCell p v) :=
 ⟨h.os, h.tape, h.output, by have := h.size; simpa [World.setCell] using this, fun x hx hS => (Below.heap_setCell w p v x (fun e => by subst e; rcases hp with hp | hp; exact hS hp; omega)).trans (h.block x hx hS)⟩
theorem Frm.grown {S : Nat → Prop} {a w w' : World} {row : Option Nat} (h : Frm S a w) (hg : w.grownBy w' row) (hr : ∀ k, row = some k → S k ∨ a.heap.size ≤ k) : Frm S a w' :=
 ⟨hg.os.trans h.os, hg.tape.trans h.tape, hg.output.trans h.output, Nat.le_trans h.size hg.size, fun x hx hS => (hg.block x (Nat.lt_of_lt_of_le hx h.size) (fun e => by rcases hr x e.symm with h1 | h1; exact hS h1; omega)).trans (h.block x hx hS)⟩
theorem Frm.below {a w : World} (h : Frm (fun _ => False) a w) : Below a.heap.size a w := ⟨h.os, h.tape, h.output, h.size, fun k hk => h.block k hk id⟩
theorem Frm.of_below {S : Nat → Prop} {a w : World} (h : Below a.heap.size a w) : Frm S a w := ⟨h.os, h.tape, h.output, h.size, fun k hk _ => h.block k hk⟩
/-- Whose blocks they are may turn: what was not there before is free. -/
theorem Frm.of_grown {w w' : World} {row : Option Nat} (hg : w.grownBy w' row) : Frm (fun k => row = some k) w w' :=
 (Frm.refl _ w).grown hg fun _ e => .inl e

/-! ### Blocks, through a step of the world -/
section
variable {w : World} {b : Nat}
theorem blk_alloc {x : Obj} (h : w.heap[b]? = some x) (o : Obj) : (w.alloc o).heap[b]? = some x := (Below.heap_alloc w o b (lt_of_block h)).trans h
theorem blk_set_ne {x : Obj} (h : w.heap[b]? = some x) {p : Addr} (hp : b ≠ p.block) (v : Value) : (w.setCell p v).heap[b]? = some x := (Below.heap_setCell w p v b hp).trans h
theorem blk_set {cs cs' : Array Value} {t : TypeId} {z : Nat × Nat} (h : w.heap[b]? = some (.cells cs t z)) (i : Nat) (v : Value) (e : cs.setIfInBounds i v = cs') : (w.setCell ⟨b, i, none⟩ v).heap[b]? = some (.cells cs' t z) := by
 subst e
 simp [World.setCell, Array.getElem?_modify, h]
theorem blk_grown {w' : World} {row : Option Nat} {x : Obj} (h : w.heap[b]? = some x) (hg : w.grownBy w' row) (hr : row ≠ some b) : w'.heap[b]? = some x := (hg.block b (lt_of_block h) (Ne.symm hr)).trans h
theorem blk_frm {S : Nat → Prop} {w' : World} {x : Obj} (h : w.heap[b]? = some x) (hf : Frm S w w') (hS : ¬ S b) : w'.heap[b]? = some x := (hf.block b (lt_of_block h) hS).trans h
theorem blk_new (o : Obj) : (w.alloc o).heap[w.heap.size]? = some o := heap_alloc_new w o
theorem blk_new_at {n : Nat} (o : Obj) (hn : n = w.heap.size) : (w.alloc o).heap[n]? = some o := by subst hn; exact heap_alloc_new w o
theorem blk_cell {cs : Array Value} {t : TypeId} {z : Nat × Nat} (h : w.heap[b]? = some (.cells cs t z)) (i : Nat) : w.cell? ⟨b, i, none⟩ = cs[i]? := by simp [World.cell?, h]
theorem blk_free {cs : Array Value} {t : TypeId} (h : w.heap[b]? = some (.cells cs t (0, 0))) (i : Nat) : w.frozen? ⟨b, i, none⟩ = false := by simp [World.frozen?, h]
end

/-! ### A row of cells of the program's own: a slice that begins at the head of a block -/
theorem own_of_block {w w' : World} {base : Nat} {e : TypeId} {size : Nat} {v : Value} {n : Nat} {xs : List Value} (h : w.ownsRow base e size v n xs) (hb : ∀ g, v.ownBlock = some g → w'.heap[g]? = w.heap[g]?) : w'.ownsRow base e size v n xs := by
 obtain ⟨h1, h2 | ⟨g, cap, cur, rfl, hbg, hg, r⟩⟩ := h
 ·exact ⟨h1, .inl h2⟩
 ·exact ⟨h1, .inr ⟨g, cap, cur, rfl, hbg, (hb g rfl).trans hg, r⟩⟩
theorem own_drew {w : World} {base : Nat} {e : TypeId} {size : Nat} {v : Value} {n : Nat} {xs : List Value} (h : w.ownsRow base e size v n xs) : w.drew.ownsRow base e size v n xs := h
theorem own_drewN {w : World} {base : Nat} {e : TypeId} {size : Nat} {v : Value} {n : Nat} {xs : List Value} (h : w.ownsRow base e size v n xs) (k : Nat) : (w.drewN k).ownsRow base e size v n xs := h
theorem own_frm {S : Nat → Prop} {w w' : World} {base : Nat} {e : TypeId} {size : Nat} {v : Value} {n : Nat} {xs : List Value} (h : w.ownsRow base e size v n xs) (hf : Frm S w w') (hS : ∀ g, v.ownBlock = some g → ¬ S g) : w'.ownsRow base e size v n xs :=
 own_of_block h fun g hg => hf.block g (h.lt g hg).2 (hS g hg)
theorem own_set_ne {w : World} {base : Nat} {e : TypeId} {size : Nat} {v : Value} {n : Nat} {xs : List Value} (h : w.ownsRow base e size v n xs) {p : Addr} (hp : v.ownBlock ≠ some p.block) (u : Value) : (w.setCell p u).ownsRow base e size v n xs :=
 ownsRow_setCell_other h hp u
theorem own_base {w : World} {base : Nat} {e : TypeId} {size : Nat} {v : Value} {n : Nat} {xs : List Value} (h : w.ownsRow base e size v n xs) : w.ownsRow 0 e size v n xs := by
 obtain ⟨h1, h2 | ⟨g, cap, cur, rfl, hbg, r⟩⟩ := h
 ·exact ⟨h1, .inl h2⟩
 ·exact ⟨h1, .inr ⟨g, cap, cur, rfl, Nat.zero_le _, r⟩⟩
theorem own_elem {w : World} {base : Nat} {e : TypeId} {size : Nat} {v : Value} {n : Nat} {xs : List Value} {g : Nat} (h : w.ownsRow base e size v n xs) (hg : v.ownBlock = some g) : ∃ cur, w.heap[g]? = some (.cells cur e (0, 0)) := by
 obtain ⟨h1, ⟨rfl, _⟩ | ⟨g', cap, cur, rfl, hbg, r, _⟩⟩ := h
 ·cases hg
 ·cases hg; exact ⟨cur, r⟩

/-- A slice of one-cell elements that is the program's own: it reads as xs. -/
def Row {α : Type} (w : World) (e : TypeId) (enc : α → Value) (v : Value) (xs : List α) : Prop := w.ownsRow 0 e 1 v xs.length (xs.map enc)
section
variable {α : Type} {w w' : World} {e : TypeId} {enc : α → Value} {v : Value} {xs : List α}
theorem Row.shape (h : Row w e enc v xs) : (v = .slice none 0 0 ∧ xs = []) ∨ ∃ g cap, v = .slice (some ⟨g, 0, none⟩) xs.length cap ∧ v.ownBlock = some g ∧ xs.length ≤ cap ∧ cap ≤ maxLen ∧ (∀ i x, xs[i]? = some x → w.cell? ⟨g, i, none⟩ = some (enc x)) ∧ ∀ i, w.frozen? ⟨g, i, none⟩ = false := by
 obtain ⟨h1, ⟨rfl, h2⟩ | ⟨g, cap, cur, rfl, hbg, hg, hn, hm, _, htake⟩⟩ := h
 ·exact .inl ⟨rfl, List.eq_nil_of_length_eq_zero h2⟩
 ·refine .inr ⟨g, cap, rfl, rfl, hn, hm, fun i x hx => ?_, fun i => blk_free hg i⟩
  have hi : i < xs.length := (List.getElem?_eq_some_iff.1 hx).1
  have e1 : (xs.map enc)[i]? = some (enc x) := by rw [List.getElem?_map, hx]; rfl
  rw [← htake, List.getElem?_take_of_lt (by omega)] at e1
  rw [blk_cell hg i]
  simpa using e1
theorem Row.frm {S : Nat → Prop} (h : Row w e enc v xs) (hf : Frm S w w') (hS : ∀ g, v.ownBlock = some g → ¬ S g) : Row w' e enc v xs := own_frm h hf hS
theorem Row.lt (h : Row w e enc v xs) : ∀ g, v.ownBlock = some g → g < w.heap.size := fun g hg => (World.ownsRow.lt h g hg).2
end

theorem made_list (z : Value) (hz : z.cells = #[z]) (n : Nat) : (madeCells z.cells (n * 1)).toList = List.replicate n z := by
 rw [hz]
 apply List.ext_getElem
 ·simp [madeCells]
 ·intro i h1 h2
  simp [madeCells, Nat.mod_one]
theorem row_made {α : Type} {w : World} {base : Nat} {e : TypeId} {enc : α → Value} {v : Value} {n : Nat} {x : α} (h : w.ownsRow base e 1 v n (madeCells (enc x).cells (n * 1)).toList) (hz : (enc x).cells = #[enc x]) : Row w e enc v (List.replicate n x) := by
 rw [made_list _ hz] at h
 unfold Row
 rw [List.length_replicate, List.map_replicate]
 exact own_base h
theorem row_set {α : Type} {w : World} {e : TypeId} {enc : α → Value} {g n c : Nat} {xs : List α} (h : Row w e enc (.slice (some ⟨g, 0, none⟩) n c) xs) (i : Nat) (hi : i < xs.length) (x : α) : Row (w.setCell ⟨g, i, none⟩ (enc x)) e enc (.slice (some ⟨g, 0, none⟩) n c) (xs.set i x) := by
 obtain ⟨h1, ⟨h2, _⟩ | ⟨g', cap, cur, e1, hb, hg, hn, hm, hs, ht⟩⟩ := h
 ·cases h2
 ·cases e1
  refine ⟨by simp, .inr ⟨g, c, cur.setIfInBounds i (enc x), by simp, Nat.zero_le _, blk_set hg i _ rfl, by simpa using hn, hm, by simpa using hs, ?_⟩⟩
  rw [List.length_set, Array.toList_setIfInBounds, List.map_set, ← ht, Nat.mul_one]
  apply List.ext_getElem?
  intro j
  by_cases hj : j < xs.length
  ·rw [List.getElem?_take_of_lt hj]
   by_cases hij : i = j
   ·subst hij
    have hl : i < cur.toList.length := by simp; omega
    rw [List.getElem?_set_self hl, List.getElem?_set_self (by simp; omega)]
   ·rw [List.getElem?_set_ne hij, List.getElem?_set_ne hij, List.getElem?_take_of_lt hj]
  ·rw [List.getElem?_eq_none (by simp; omega), List.getElem?_eq_none (by simp; omega)]
theorem Row.nil {α : Type} (w : World) (e : TypeId) (enc : α → Value) : Row w e enc (.slice none 0 0) ([] : List α) := ⟨by simp, .inl ⟨rfl, rfl⟩⟩
theorem Row.frm0 {α : Type} {w w' : World} {e : TypeId} {enc : α → Value} {v : Value} {xs : List α} (h : Row w e enc v xs) (hf : Frm (fun _ => False) w w') : Row w' e enc v xs := h.frm hf fun _ _ => id

/-! ### A slice that reads as a list, whosever it is -/
def Sees {α : Type} (w : World) (enc : α → Value) (v : Value) (xs : List α) : Prop :=
 (v = .slice none 0 0 ∧ xs = []) ∨ ∃ g o cap, v = .slice (some ⟨g, o, none⟩) xs.length cap ∧ xs.length ≤ cap ∧ cap ≤ maxLen ∧ ∀ i x, xs[i]? = some x → w.cell? ⟨g, o + i, none⟩ = some (enc x)
theorem Row.sees {α : Type} {w : World} {e : TypeId} {enc : α → Value} {v : Value} {xs : List α} (h : Row w e enc v xs) : Sees w enc v xs := by
 rcases h.shape with h | ⟨g, cap, h1, _, h2, h3, h4, _⟩
 ·exact .inl h
 ·exact .inr ⟨g, 0, cap, h1, h2, h3, fun i x hx => by simpa using h4 i x hx⟩
theorem Sees.len {α : Type} {w : World} {enc : α → Value} {v : Value} {xs : List α} (h : Sees w enc v xs) : xs.length ≤ maxLen := by
 rcases h with ⟨_, rfl⟩ | ⟨g, o, cap, _, h1, h2, _⟩
 ·exact Nat.zero_le _
 ·omega
theorem Sees.of_cells {α : Type} {w w' : World} {enc : α → Value} {v : Value} {xs : List α} (h : Sees w enc v xs) (hc : ∀ g o n c, v = .slice (some ⟨g, o, none⟩) n c → xs ≠ [] → w'.heap[g]? = w.heap[g]?) : Sees w' enc v xs := by
 rcases h with h | ⟨g, o, cap, h1, h2, h3, h4⟩
 ·exact .inl h
 ·refine .inr ⟨g, o, cap, h1, h2, h3, fun i x hx => ?_⟩
  rw [World.cell?_of_block (w := w) (hc g o _ _ h1 (fun e => by subst e; cases hx))]
  exact h4 i x hx

theorem sees_of_blk {α : Type} {w : World} {enc : α → Value} {b n : Nat} {cs : Array Value} {t : TypeId} {z : Nat × Nat} {xs : List α} (h : w.heap[b]? = some (.cells cs t z)) (hx : cs.toList = xs.map enc) (hn : n = xs.length) (hm : n ≤ maxLen) :
  Sees w enc (.slice (some ⟨b, 0, none⟩) n n) xs := by
 subst hn
 refine .inr ⟨b, 0, xs.length, rfl, Nat.le_refl _, hm, fun i x hi => ?_⟩
 rw [Nat.zero_add, blk_cell h i, ← Array.getElem?_toList, hx, List.getElem?_map, hi]
 rfl
theorem Sees.frm {α : Type} {S : Nat → Prop} {w w' : World} {enc : α → Value} {v : Value} {xs : List α} (h : Sees w enc v xs) (hf : Frm S w w') (hS : ∀ g, (∃ o n c, v = .slice (some ⟨g, o, none⟩) n c) → g < w.heap.size → ¬ S g) : Sees w' enc v xs := by
 rcases h with h | ⟨g, o, cap, h1, h2, h3, h4⟩
 ·exact .inl h
 ·refine .inr ⟨g, o, cap, h1, h2, h3, fun i x hx => ?_⟩
  have hc := h4 i x hx
  have hlt : g < w.heap.size := World.block_lt_of_cell? _ _ hc
  rw [World.cell?_of_block (w := w) (hf.block g hlt (hS g ⟨_, _, _, h1⟩ hlt))]
  exact hc

theorem heap_lt {w w' : World} {b : Nat} (h : w'.heap[b]? = w.heap[b]?) (hb : b < w.heap.size) : b < w'.heap.size := by
 rcases Nat.lt_or_ge b w'.heap.size with h1 | h1
 ·exact h1
 ·rw [Array.getElem?_eq_none h1, Array.getElem?_eq_getElem hb] at h; cases h

/-- Which blocks a slice lies in. -/
def InBlk (v : Value) (g : Nat) : Prop := ∃ o n c, v = .slice (some ⟨g, o, none⟩) n c
theorem Sees.heap {α : Type} {w w' : World} {enc : α → Value} {v : Value} {xs : List α} (h : Sees w enc v xs) (hb : ∀ g, InBlk v g → xs ≠ [] → g < w.heap.size → w'.heap[g]? = w.heap[g]?) : Sees w' enc v xs := by
 rcases h with h | ⟨g, o, cap, h1, h2, h3, h4⟩
 ·exact .inl h
 ·refine .inr ⟨g, o, cap, h1, h2, h3, fun i x hx => ?_⟩
  have hc := h4 i x hx
  have hlt : g < w.heap.size := World.block_lt_of_cell? _ _ hc
  rw [World.cell?_of_block (w := w) (hb g ⟨_, _, _, h1⟩ (fun e => by subst e; cases hx) hlt)]
  exact hc
theorem Sees.inlt {α : Type} {w : World} {enc : α → Value} {v : Value} {xs : List α} (h : Sees w enc v xs) {g : Nat} (hg : InBlk v g) (hx : xs ≠ []) : g < w.heap.size := by
 rcases h with ⟨_, e⟩ | ⟨g', o, c, e, _, _, hc⟩
 ·exact absurd e hx
 ·obtain ⟨o', n', c', e'⟩ := hg
  rw [e] at e'
  cases e'
  cases xs with
  | nil => exact absurd rfl hx
  | cons x xs => exact World.block_lt_of_cell? _ _ (hc 0 x rfl)

/-! ### Maps that read as lists of pairs -/
def mget {K V : Type} [DecidableEq K] : List (K × V) → K → Option V
 | [], _ => none
 | (a, v) :: r, k => if a = k then some v else mget r k
def mput {K V : Type} [DecidableEq K] : List (K × V) → K → V → List (K × V)
 | [], k, v => [(k, v)]
 | (a, u) :: r, k, v => if a = k then (k, v) :: r else (a, u) :: mput r k v
theorem mget_mput {K V : Type} [DecidableEq K] (k k' : K) (v : V) : ∀ m : List (K × V), mget (mput m k v) k' = if k = k' then some v else mget m k'
 | [] => by simp [mput, mget]
 | (a, u) :: r => by
  unfold mput
  split
  ·rename_i h; subst h
   by_cases h : a = k' <;> simp [mget, h]
  ·rename_i h
   simp only [mget, mget_mput k k' v r]
   by_cases h1 : a = k'
   ·subst h1; simp [Ne.symm h]
   ·simp [h1]

def MapAt {K V : Type} (w : World) (r : Nat) (enc : K → Value) (ev : V → Value) (m : List (K × V)) : Prop :=
 ∃ es c, w.heap[r]? = some (.map es c) ∧ es.toList.map (fun e => (e.key, e.val)) = m.map (fun p => (enc p.1, ev p.2)) ∧ (∀ e ∈ es.toList, e.born < c) ∧ (es.toList.map (·.born)).Nodup
theorem mapAt_of_block {K V : Type} {w w' : World} {r : Nat} {enc : K → Value} {ev : V → Value} {m : List (K × V)} (h : MapAt w r enc ev m) (hb : w'.heap[r]? = w.heap[r]?) : MapAt w' r enc ev m := by
 obtain ⟨es, c, h1, h2⟩ := h
 exact ⟨es, c, hb.trans h1, h2⟩
theorem MapAt.lt {K V : Type} {w : World} {r : Nat} {enc : K → Value} {ev : V → Value} {m : List (K × V)} (h : MapAt w r enc ev m) : r < w.heap.size := by
 obtain ⟨es, c, h1, h2⟩ := h
 exact lt_of_block h1
theorem mapAt_new {K V : Type} (w : World) (enc : K → Value) (ev : V → Value) : MapAt (w.alloc (.map #[] 0)) w.heap.size enc ev [] := ⟨#[], 0, heap_alloc_new w _, rfl, by simp, by simp⟩
theorem MapAt.frm {K V : Type} {S : Nat → Prop} {w w' : World} {r : Nat} {enc : K → Value} {ev : V → Value} {m : List (K × V)} (h : MapAt w r enc ev m) (hf : Frm S w w') (hS : ¬ S r) : MapAt w' r enc ev m :=
 mapAt_of_block h (hf.block r h.lt hS)

def findIx {K : Type} [DecidableEq K] (k : K) : List K → List MapEntry → Nat → Option (Nat × Value)
 | a :: ks, e :: es, i => if a = k then some (i, e.val) else findIx k ks es (i + 1)
 | _, _, _ => none

structure KeyEnc (P : Program) (kt : TypeId) {K : Type} [DecidableEq K] (enc : K → Value) : Prop where
 check : ∀ (w : World) (k : K) (b : Bool), (Instr.checkKey b 10000 kt (enc k)).run P w = .ok () w
 find : ∀ (w : World) (k : K) (es : List MapEntry) (ks : List K), es.map (·.key) = ks.map enc → (Instr.findKey kt (enc k) es).run P w = .ok (findIx k ks es 0) w
 stay : ∀ k, Instr.sameBits 10000 (enc k) (enc k) = true

theorem findAsking_run {P : Program} {kt : TypeId} {K : Type} [DecidableEq K] {enc : K → Value} (heq : ∀ (a b : K) (w : World), (Op.equal kt (enc a) (enc b)).run P w = .ok (decide (a = b)) w) (w : World) (k : K) :
  ∀ (es : List MapEntry) (ks : List K) (i : Nat), es.map (·.key) = ks.map enc → (Instr.findAsking kt (enc k) es i).run P w = .ok (findIx k ks es i) w
 | [], [], i, _ => by simp [Instr.findAsking, findIx]
 | [], a :: ks, i, h => by simp at h
 | e :: es, [], i, h => by simp at h
 | e :: es, a :: ks, i, h => by
  simp only [List.map_cons, List.cons.injEq] at h
  simp only [Instr.findAsking, h.1, Sem.run_bind, heq, Result.andThen_ok, findIx]
  by_cases hak : k = a
  ·subst hak; simp
  ·simp only [hak, decide_false, Bool.false_eq_true, if_false, Ne.symm hak]
   exact findAsking_run heq w k es ks (i + 1) h.2

theorem findNow_run {kind : TypeDesc} {K : Type} [DecidableEq K] {enc : K → Value} (hs : ∀ a b : K, Instr.sameNow kind (enc a) (enc b) = some (decide (a = b))) (k : K) :
  ∀ (es : List MapEntry) (ks : List K) (i : Nat), es.map (·.key) = ks.map enc → Instr.findNow kind (enc k) es i = some (findIx k ks es i)
 | [], [], i, _ => by simp [Instr.findNow, findIx]
 | [], a :: ks, i, h => by simp at h
 | e :: es, [], i, h => by simp at h
 | e :: es, a :: ks, i, h => by
  simp only [List.map_cons, List.cons.injEq] at h
  simp only [Instr.findNow, h.1, hs, findIx]
  by_cases hak : k = a
  ·subst hak; simp
  ·simp only [hak, decide_false, Ne.symm hak, if_false]
   exact findNow_run hs k es ks (i + 1) h.2

theorem keyEnc_asked {P : Program} {kt : TypeId} {kind : TypeDesc} {K : Type} [DecidableEq K] {enc : K → Value} (hu : P.underlying kt = some kind) (check : ∀ (w : World) (k : K) (b : Bool), (Instr.checkKey b 10000 kt (enc k)).run P w = .ok () w)
  (hn : ∀ a b : K, Instr.sameNow kind (enc a) (enc b) = none) (heq : ∀ (a b : K) (w : World), (Op.equal kt (enc a) (enc b)).run P w = .ok (decide (a = b)) w) (stay : ∀ k, Instr.sameBits 10000 (enc k) (enc k) = true) : KeyEnc P kt enc := by
 refine ⟨check, fun w k es ks h => ?_, stay⟩
 simp only [Instr.findKey, Sem.run_bind, run_underlying hu, Result.andThen_ok]
 cases es with
 | nil =>
  cases ks with
  | nil => simp [Instr.findNow, findIx]
  | cons a ks => simp at h
 | cons e es =>
  cases ks with
  | nil => simp at h
  | cons a ks =>
   have h' := h
   simp only [List.map_cons, List.cons.injEq] at h'
   simp only [Instr.findNow, h'.1, hn]
   exact findAsking_run heq w k _ _ 0 h

theorem keyEnc_now {P : Program} {kt : TypeId} {kind : TypeDesc} {K : Type} [DecidableEq K] {enc : K → Value} (hu : P.underlying kt = some kind) (check : ∀ (w : World) (k : K) (b : Bool), (Instr.checkKey b 10000 kt (enc k)).run P w = .ok () w)
  (hs : ∀ a b : K, Instr.sameNow kind (enc a) (enc b) = some (decide (a = b))) (stay : ∀ k, Instr.sameBits 10000 (enc k) (enc k) = true) : KeyEnc P kt enc := by
 refine ⟨check, fun w k es ks h => ?_, stay⟩
 simp only [Instr.findKey, Sem.run_bind, run_underlying hu, Result.andThen_ok, findNow_run hs k es ks 0 h]
 simp

theorem checkKey_int {P : Program} {t : TypeId} {q : IntKind} (hu : P.underlying t = some (.int q)) (b : Bool) (n : Nat) (k : Int) (w : World) : (Instr.checkKey b (n + 1) t (.int q k)).run P w = .ok () w := by
 rw [Instr.checkKey]
 simp [run_underlying hu]
theorem keyEnc_int {P : Program} {kt : TypeId} {q : IntKind} (hu : P.underlying kt = some (.int q)) : KeyEnc P kt (Value.int q) :=
 keyEnc_now hu (fun w k b => checkKey_int hu b 9999 k w) (fun a b => by simp [Instr.sameNow]; exact (Bool.beq_eq_decide_eq a b)) (fun k => by simp [Instr.sameBits])

theorem findIx_get {K V : Type} [DecidableEq K] {ev : V → Value} (k : K) : ∀ (m : List (K × V)) (es : List MapEntry) (i : Nat), es.map (·.val) = m.map (fun p => ev p.2) →
  (findIx k (m.map (·.1)) es i).map (·.2) = (mget m k).map ev
 | [], _, i, _ => by simp [findIx, mget]
 | (a, v) :: m, [], i, h => by simp at h
 | (a, v) :: m, e :: es, i, h => by
  simp only [List.map_cons, List.cons.injEq] at h
  simp only [List.map_cons, findIx, mget]
  by_cases hak : a = k
  ·simp [hak, h.1]
  ·simp only [hak, if_false]
   exact findIx_get k m es (i + 1) h.2

/-- What a look-up hands back: the element, or the zero. -/
def mval {K V : Type} [DecidableEq K] (z : Value) (ev : V → Value) (m : List (K × V)) (k : K) : Value := ((mget m k).map ev).getD z

theorem lookup_run {P : Program} {t kt et : TypeId} {K V : Type} [DecidableEq K] {enc : K → Value} {ev : V → Value} {z : Value} {w : World} {r : Nat} {m : List (K × V)} (hk : KeyEnc P kt enc) (hT : P.underlying t = some (.map kt et))
  (hz : ∀ w, (zeroValue et).run P w = .ok z w) (h : MapAt w r enc ev m) (k : K) (c : Bool) :
  (Instr.lookup t (.map (some r)) (enc k) c).run P w = .ok (if c then .tuple #[mval z ev m k, .bool (mget m k).isSome] else mval z ev m k) w := by
 obtain ⟨es, cl, h1, h2, _⟩ := h
 have e1 : es.toList.map (·.key) = (m.map (·.1)).map enc := by
  have := congrArg (List.map Prod.fst) h2
  simpa [Function.comp_def] using this
 have e2 : es.toList.map (·.val) = m.map (fun p => ev p.2) := by
  have := congrArg (List.map Prod.snd) h2
  simpa [Function.comp_def] using this
 have e3 := findIx_get k m es.toList 0 e2
 simp only [Instr.lookup, Sem.run_bind, run_underlying hT, Result.andThen_ok]
 have e4 : (getObj r).run P w = .ok (.map es cl) w := by simp [getObj, Sem.run, h1]
 simp only [e4, Result.andThen_ok, Sem.run_bind, Sem.run_pure, hk.check, hk.find w k es.toList _ e1]
 cases hf : findIx k (m.map (·.1)) es.toList 0 with
 | none =>
  rw [hf] at e3
  have e5 : mget m k = none := by cases hh : mget m k <;> simp_all
  simp only [hz, Sem.run_bind, Result.andThen_ok, Sem.run_pure, mval, e5]
  cases c <;> simp
 | some p =>
  obtain ⟨i, v⟩ := p
  rw [hf] at e3
  cases hh : mget m k with
  | none => simp [hh] at e3
  | some x =>
   simp only [hh, Option.map_some, Option.some.injEq] at e3
   subst e3
   simp only [Result.andThen_ok, Sem.run_pure, mval, hh]
   cases c <;> simp

theorem findIx_none_put {K V : Type} [DecidableEq K] (k : K) (v : V) : ∀ (m : List (K × V)) (es : List MapEntry) (i : Nat), es.length = m.length → findIx k (m.map (·.1)) es i = none → mput m k v = m ++ [(k, v)]
 | [], _, _, _, _ => rfl
 | (a, u) :: m, [], _, h, _ => by simp at h
 | (a, u) :: m, e :: es, i, hl, h => by
  simp only [List.map_cons, findIx] at h
  by_cases hak : a = k
  ·simp [hak] at h
  ·simp only [hak, if_false] at h
   simp only [mput, hak, if_false, List.cons_append, findIx_none_put k v m es (i + 1) (by simpa using hl) h]

theorem findIx_some_put {K V : Type} [DecidableEq K] {enc : K → Value} {ev : V → Value} (k : K) (v : V) : ∀ (m : List (K × V)) (es : List MapEntry) (i j : Nat) (x : Value), es.map (fun e => (e.key, e.val)) = m.map (fun p => (enc p.1, ev p.2)) →
  findIx k (m.map (·.1)) es i = some (j, x) → i ≤ j ∧ j - i < es.length ∧ (es.modify (j - i) fun e => { e with key := enc k, val := ev v }).map (fun e => (e.key, e.val)) = (mput m k v).map (fun p => (enc p.1, ev p.2))
   ∧ (es[j - i]?).map (·.key) = some (enc k)
 | [], _, i, j, x, _, h => by simp [findIx] at h
 | (a, u) :: m, [], i, j, x, h, _ => by simp at h
 | (a, u) :: m, e :: es, i, j, x, hm, h => by
  simp only [List.map_cons, List.cons.injEq, Prod.mk.injEq] at hm
  simp only [List.map_cons, findIx] at h
  by_cases hak : a = k
  ·subst hak
   simp only [if_true, Option.some.injEq, Prod.mk.injEq] at h
   obtain ⟨rfl, _⟩ := h
   refine ⟨Nat.le_refl _, by simp, ?_, by simp [hm.1.1]⟩
   simp only [Nat.sub_self, List.modify_zero_cons, List.map_cons, mput, if_true, hm.2]
  ·simp only [hak, if_false] at h
   obtain ⟨h1, h2, h3, h4⟩ := findIx_some_put k v m es (i + 1) j x hm.2 h
   refine ⟨by omega, by simp only [List.length_cons]; omega, ?_, ?_⟩
   ·rw [show j - i = (j - (i + 1)) + 1 from by omega, List.modify_succ_cons]
    simp only [List.map_cons, mput, hak, if_false, h3, hm.1.1, hm.1.2]
   ·rw [show j - i = (j - (i + 1)) + 1 from by omega, List.getElem?_cons_succ]
    exact h4

theorem update_run {P : Program} {t kt et : TypeId} {K V : Type} [DecidableEq K] {enc : K → Value} {ev : V → Value} {w : World} {r : Nat} {m : List (K × V)} (hk : KeyEnc P kt enc) (hT : P.underlying t = some (.map kt et))
  (h : MapAt w r enc ev m) (k : K) (v : V) :
  ∃ w', (Instr.mapUpdate t (.map (some r)) (enc k) (ev v)).run P w = .ok () w' ∧ MapAt w' r enc ev (mput m k v) ∧ w.grownBy w' (some r) := by
 obtain ⟨es, cl, h1, h2, h5, h6⟩ := h
 have hr := lt_of_block h1
 have e1 : es.toList.map (·.key) = (m.map (·.1)).map enc := by
  have := congrArg (List.map Prod.fst) h2
  simpa [Function.comp_def] using this
 have e4 : (getObj r).run P w = .ok (.map es cl) w := by simp [getObj, Sem.run, h1]
 have e5 : ∀ o, (setObj r o).run P w = .ok () { w with heap := w.heap.setIfInBounds r o } := fun o => by simp [setObj, Sem.run, h1]
 have hgrow : ∀ o, w.grownBy { w with heap := w.heap.setIfInBounds r o } (some r) := fun o => ⟨rfl, rfl, rfl, by simp, fun k _ hne => by
  have : r ≠ k := fun e => hne (by rw [e])
  simp [Array.getElem?_setIfInBounds_ne this]⟩
 have hat : ∀ o : Obj, ({ w with heap := w.heap.setIfInBounds r o } : World).heap[r]? = some o := fun o => by simp [hr]
 simp only [Instr.mapUpdate, Sem.run_bind, run_underlying hT, Result.andThen_ok, e4, hk.check, hk.find w k es.toList _ e1]
 cases hf : findIx k (m.map (·.1)) es.toList 0 with
 | none =>
  refine ⟨_, e5 _, ⟨_, _, hat _, ?_, ?_, ?_⟩, hgrow _⟩
  case refine_2 =>
   intro e he
   simp only [Array.toList_push, List.mem_append, List.mem_singleton] at he
   rcases he with he | rfl
   ·exact Nat.lt_succ_of_lt (h5 e he)
   ·exact Nat.lt_succ_self _
  case refine_3 =>
   simp only [Array.toList_push, List.map_append, List.map_cons, List.map_nil]
   refine List.nodup_append.2 ⟨h6, by simp, ?_⟩
   intro a ha b hb
   obtain ⟨e, he, rfl⟩ := List.mem_map.1 ha
   rw [List.mem_singleton] at hb
   have := h5 e he
   omega
  have hl : es.toList.length = m.length := by simpa using congrArg List.length h2
  rw [findIx_none_put k v m es.toList 0 hl hf]
  simp [h2]
 | some p =>
  obtain ⟨j, x⟩ := p
  obtain ⟨_, hj, h3, h4⟩ := findIx_some_put (enc := enc) (ev := ev) k v m es.toList 0 j x h2 hf
  simp only [Nat.sub_zero] at hj h3 h4
  have e6 : ((es[j]?).map (·.key)).getD (enc k) = enc k := by
   have : es[j]? = es.toList[j]? := by simp
   rw [this, h4]; rfl
  refine ⟨_, ?_, ⟨_, _, hat (.map (es.modify j fun e => { e with key := enc k, val := ev v }) cl), ?_, ?_, ?_⟩, hgrow _⟩
  case refine_3 =>
   intro e he
   obtain ⟨i, hi, rfl⟩ := List.mem_iff_getElem.1 he
   have hb : (es.modify j fun e => { e with key := enc k, val := ev v }).toList[i].born = (es.toList[i]'(by simpa using hi)).born := by simp only [Array.getElem_toList, Array.getElem_modify]; split <;> rfl
   rw [hb]
   exact h5 _ (List.getElem_mem _)
  case refine_4 =>
   have hb : (es.modify j fun e => { e with key := enc k, val := ev v }).toList.map (·.born) = es.toList.map (·.born) := by
    apply List.ext_getElem
    ·simp
    ·intro i h1 h2
     simp only [List.getElem_map, Array.getElem_toList, Array.getElem_modify]; split <;> rfl
   rw [hb]; exact h6
  ·simp only [e6, Instr.keyThatStays, hk.stay k, if_true, Sem.run_pure, Result.andThen_ok, Sem.run_bind, e5]
  ·rw [← h3]; simp

/-- 'm[k] = v' at the operation. -/
theorem wpList_update {P : Program} {w : World} {ops : Array Oper} {rest : List Oper} {o : Oper} {a : Act} {Q : Exit → Act → World → Prop}
  (hg : o.guard = none) (mo x vo : Operand) (t : TypeId) (hop : o.op = Op.mapUpdate t mo x vo) {kt et : TypeId} {K V : Type} [DecidableEq K] {enc : K → Value} {ev : V → Value} {r : Nat} {m : List (K × V)} (hk : KeyEnc P kt enc) (hT : P.underlying t = some (.map kt et))
  (k : K) (v : V) (hm : a.eval mo = .map (some r)) (hx : a.eval x = enc k) (hv : a.eval vo = ev v) (h : MapAt w r enc ev m)
  (hK : ∀ w', MapAt w' r enc ev (mput m k v) → w.grownBy w' (some r) → wpList P ops Q rest (a.put o.dst undef) w') : wpList P ops Q (o :: rest) a w := by
 refine wpList_plain hg fun K' hK' => ?_
 obtain ⟨w', hrun, r1, r2⟩ := update_run hk hT h k v
 unfold Oper.wp
 simp [execOp, hop, hm, hx, hv, hrun, Result.andThen]
 exact hK' _ _ (hK w' r1 r2)

/-! ### Keys that are structs of two or three whole numbers -/
abbrev T3 := Int × Int × Int
abbrev T2 := Int × Int
def encT3 (x : T3) : Value := .agg #[.int .i64 x.1, .int .i64 x.2.1, .int .i64 x.2.2]
def encT2 (x : T2) : Value := .agg #[.int .i64 x.1, .int .i64 x.2]
def i64 (n : Int) : Value := .int .i64 n

theorem keyEnc_T3 {P : Program} {kt ti : TypeId} {n0 n1 n2 : String} {fs : Array Field} {f0 f1 f2 : Field} (hu : P.underlying kt = some (.struct fs)) (hfs : fs = #[f0, f1, f2]) (hi : P.underlying ti = some (.int .i64)) (hs : P.stoodInHeld kt = false)
  (h0 : f0.name = n0 ∧ f0.type = ti ∧ f0.offset = 0) (h1 : f1.name = n1 ∧ f1.type = ti ∧ f1.offset = 1) (h2 : f2.name = n2 ∧ f2.type = ti ∧ f2.offset = 2) (hn : n0 ≠ "_" ∧ n1 ≠ "_" ∧ n2 ≠ "_") : KeyEnc P kt encT3 := by
 obtain ⟨a0, a1, a2⟩ := h0
 obtain ⟨b0, b1, b2⟩ := h1
 obtain ⟨c0, c1, c2⟩ := h2
 have hag : ∀ w, (isAgg ti).run P w = .ok false w := fun w => by simp [isAgg, run_underlying hi]
 have hpart : ∀ (w : World) (cs : Array Value) (i : Nat) (v : Value), cs[i]? = some v → (part ti cs i).run P w = .ok v w := fun w cs i v h => by simp [part, hag, h]
 subst hfs
 refine keyEnc_asked hu (fun w k b => ?_) (fun a b => rfl) (fun a b w => ?_) (fun k => ?_)
 ·have hck : ∀ v : Int, (Instr.checkKey b 9999 ti (.int .i64 v)).run P w = .ok () w := fun v => checkKey_int hi b 9998 v w
  rw [show (10000 : Nat) = 9999 + 1 from rfl, Instr.checkKey]
  simp only [encT3, Sem.run_bind, run_underlying hu, Result.andThen_ok]
  rw [← Array.forIn_toList]
  simp only [List.forIn_cons, List.forIn_nil, a0, a1, a2, b0, b1, b2, c0, c1, c2, ne_eq, hn.1, hn.2.1, hn.2.2, not_false_eq_true, if_true, Sem.run_bind]
  rw [hpart w _ 0 (.int .i64 k.1) rfl]
  simp only [Result.andThen_ok, hck, Sem.run_bind, Sem.run_pure]
  rw [hpart w _ 1 (.int .i64 k.2.1) rfl]
  simp only [Result.andThen_ok, hck, Sem.run_bind, Sem.run_pure]
  rw [hpart w _ 2 (.int .i64 k.2.2) rfl]
  simp only [Result.andThen_ok, hck, Sem.run_bind, Sem.run_pure]
 ·have hf : P.fieldsOf kt = #[f0, f1, f2] := by simp [Program.fieldsOf, hu]
  have he := run_equalIn_struct (P := P) w 9999 kt #[.int .i64 a.1, .int .i64 a.2.1, .int .i64 a.2.2] #[.int .i64 b.1, .int .i64 b.2.1, .int .i64 b.2.2] (by rw [hf]; exact hu) hs
  show (Op.equalIn 10000 kt _ _).run P w = _
  rw [show encT3 a = .agg #[.int .i64 a.1, .int .i64 a.2.1, .int .i64 a.2.2] from rfl, show encT3 b = .agg #[.int .i64 b.1, .int .i64 b.2.1, .int .i64 b.2.2] from rfl, he, hf]
  obtain ⟨x, y, z⟩ := a
  obtain ⟨x', y', z'⟩ := b
  simp only [Op.eqFields, a0, a1, a2, b0, b1, b2, c0, c1, c2, ne_eq, hn.1, hn.2.1, hn.2.2, not_false_eq_true, if_true, Sem.run_bind]
  rw [hpart w _ 0 (.int .i64 x) rfl, Result.andThen_ok, hpart w _ 0 (.int .i64 x') rfl, Result.andThen_ok, run_equalIn_int w _ ti .i64 .i64 _ _ hi, Result.andThen_ok]
  by_cases e1 : x = x'
  ·subst e1
   simp only [beq_self_eq_true, Bool.not_true, Bool.false_eq_true, if_false, Sem.run_bind]
   rw [hpart w _ 1 (.int .i64 y) rfl, Result.andThen_ok, hpart w _ 1 (.int .i64 y') rfl, Result.andThen_ok, run_equalIn_int w _ ti .i64 .i64 _ _ hi, Result.andThen_ok]
   by_cases e2 : y = y'
   ·subst e2
    simp only [beq_self_eq_true, Bool.not_true, Bool.false_eq_true, if_false, Sem.run_bind]
    rw [hpart w _ 2 (.int .i64 z) rfl, Result.andThen_ok, hpart w _ 2 (.int .i64 z') rfl, Result.andThen_ok, run_equalIn_int w _ ti .i64 .i64 _ _ hi, Result.andThen_ok]
    by_cases e3 : z = z'
    ·subst e3; simp
    ·simp [e3, beq_eq_false_iff_ne.2 e3]
   ·simp [e2, beq_eq_false_iff_ne.2 e2]
  ·simp [e1, beq_eq_false_iff_ne.2 e1]
 ·simp [encT3, Instr.sameBits]

theorem call_enter {P : Program} {f : FuncId} {fn : Func} {c : Code} (hf : P.funcs[f]? = some fn) (hname : (fn.name == "runtime.NumGoroutine") = false) (hb : fn.body = some c) (args : Array Value) (w : World) :
  (callFunc f args).run P w = .ok (.enter f args) w := by
 have hn : ¬ fn.name = "runtime.NumGoroutine" := by simpa using hname
 simp [callFunc, hf, hn, hb]

/-! ### Who owns which blocks -/
def Moves (own : Nat → Prop) (w : World) (own' : Nat → Prop) (w' : World) : Prop := Frm own w w' ∧ ∀ b, own' b → own b ∨ w.heap.size ≤ b
theorem Moves.refl (own : Nat → Prop) (w : World) : Moves own w own w := ⟨Frm.refl _ _, fun _ h => .inl h⟩
theorem Moves.trans {o1 o2 o3 : Nat → Prop} {w1 w2 w3 : World} (h : Moves o1 w1 o2 w2) (k : Moves o2 w2 o3 w3) : Moves o1 w1 o3 w3 :=
 ⟨h.1.trans k.1 fun x hx hk => by rcases h.2 x hk with h1 | h1; exact h1; omega, fun b hb => by
  rcases k.2 b hb with h1 | h1
  ·exact h.2 b h1
  ·exact .inr (Nat.le_trans h.1.size h1)⟩
theorem Moves.of_frm {own own' : Nat → Prop} {w w' : World} (h : Frm own w w') (ho : ∀ b, own' b → own b ∨ w.heap.size ≤ b) : Moves own w own' w' := ⟨h, ho⟩
theorem Moves.keep {own own' : Nat → Prop} {w w' : World} (h : Moves own w own' w') {b : Nat} {x : Obj} (hb : w.heap[b]? = some x) (ho : ¬ own b) : w'.heap[b]? = some x ∧ ¬ own' b := by
 refine ⟨blk_frm hb h.1 ho, fun h1 => ?_⟩
 rcases h.2 b h1 with h2 | h2
 ·exact ho h2
 ·have := lt_of_block hb; omega

end Go.Mem
/- Package sat as plain functions: what each one computes of a solver that is data. No program in sight. -/
namespace Go.Sat
open Go.Mem
/-- A variable's: which literal is true, at what level, because of which clause. -/
structure Fact where
  lit : Int
  level : Int
  reason : Option Nat
  score : Int
  phase : Int
structure Cl where
  lits : List Int
  learnt : Bool
  score : Int
structure St where
  vars : List Fact
  heap : List Int
  place : List Int
  watches : List (Int × List Nat)
  cls : List Cl
  learnt : List Nat
  trail : List Int
  limits : List Int
  head : Int
  conflicts : Int
  added : Int
  bump : Int
  broken : Bool
def noFact : Fact := ⟨0, 0, none, 0, 0⟩
def new : St := ⟨[noFact], [], [-1], [], [], [], [], [], 0, 0, 0, 1, false⟩
def nth {α : Type} (l : List α) (i : Int) : Option α := if 0 ≤ i then l[i.toNat]? else none
def setN {α : Type} (l : List α) (i : Int) (v : α) : Option (List α) := if 0 ≤ i ∧ i.toNat < l.length then some (l.set i.toNat v) else none
def ofF (n : Int) : Int := if n < -n then -n else n
def rightF (n : Int) : Bool := decide (n ≠ 0 ∧ -1048576 ≤ n ∧ n ≤ 1048576)
def checkF (l : List Int) : Bool := l.all rightF
def watched (s : St) (n : Int) : List Nat := (mget s.watches n).getD []
/-- A literal's size. -/
def smlB (n : Int) : Bool := decide (-1048576 ≤ n ∧ n ≤ 1048576)
/-- What no row may come to. -/
def roomB (n : Nat) : Bool := decide (n ≤ 1099511627776)
def aheadF (s : St) (v w : Int) : Option Bool :=
  match nth s.vars v, nth s.vars w with
  | some a, some b => some (if a.score = b.score then decide (v < w) else decide (b.score < a.score))
  | _, _ => none
def layF (s : St) (v i : Int) : Option St :=
  match setN s.heap i v, setN s.place v i with
  | some h, some p => some { s with heap := h, place := p }
  | _, _ => none
def upL : Nat → St → Int → Int → Option St
  | 0, _, _, _ => none
  | k + 1, s, v, i =>
    if 0 < i then
      match nth s.heap ((i - 1) / 2) with
      | none => none
      | some p =>
        match aheadF s v p with
        | none => none
        | some false => layF s v i
        | some true => (layF s p i).bind fun s' => upL k s' v ((i - 1) / 2)
    else layF s v i
def upF (s : St) (i : Int) : Option St := (nth s.heap i).bind fun v => upL (s.heap.length + 1) s v i
/-- The greater one of a place's two below. -/
def lowF (s : St) (k : Int) : Option Int :=
  if k + 1 < (s.heap.length : Int) then
    match nth s.heap (k + 1), nth s.heap k with
    | some x, some y => (aheadF s x y).map fun b => if b then k + 1 else k
    | _, _ => none
  else some k
def downL : Nat → St → Int → Int → Option St
  | 0, _, _, _ => none
  | f + 1, s, v, i =>
    if 2 * i + 1 < (s.heap.length : Int) then
      match lowF s (2 * i + 1) with
      | none => none
      | some k =>
        match nth s.heap k with
        | none => none
        | some x =>
          match aheadF s x v with
          | none => none
          | some false => layF s v i
          | some true => (layF s x i).bind fun s' => downL f s' v k
    else layF s v i
def downF (s : St) (i : Int) : Option St := (nth s.heap i).bind fun v => downL (s.heap.length + 1) s v i
def pushF0 (s : St) (v : Int) : Option St :=
  match nth s.place v with
  | none => none
  | some p => if p < 0 then (layF { s with heap := s.heap ++ [v] } v s.heap.length).bind fun s' => upF s' s.heap.length else some s
def pushF (s : St) (v : Int) : Option St := if roomB s.heap.length then pushF0 s v else none
def popF0 (s : St) : Option (Int × St) :=
  match s.heap.head?, s.heap.getLast? with
  | some v, some last =>
    (setN s.place v (-1)).bind fun p =>
      if s.heap.length = 1 then some (v, { s with heap := [], place := p }) else
      (layF { s with heap := s.heap.dropLast, place := p } last 0).bind fun s' => (downF s' 0).map fun s2 => (v, s2)
  | _, _ => none
def popF (s : St) : Option (Int × St) := if roomB s.heap.length then popF0 s else none
def growF : Nat → St → Int → Option St
  | 0, _, _ => none
  | k + 1, s, n => if (smlB n && roomB s.vars.length && roomB s.place.length) = false then none else if (s.vars.length : Int) ≤ ofF n then (pushF { s with vars := s.vars ++ [noFact], place := s.place ++ [-1] } s.vars.length).bind fun s' => growF k s' n else some s
def growsF (s : St) : List Int → Option St
  | [] => some s
  | n :: r => (growF ((ofF n).toNat + 2) s n).bind fun s' => growsF s' r
def valueF0 (s : St) (n : Int) : Option Int := (nth s.vars (ofF n)).map fun v => if v.lit = 0 then 0 else if v.lit = n then 1 else -1
def valueF (s : St) (n : Int) : Option Int := if smlB n then valueF0 s n else none
def levelF (s : St) : Int := s.limits.length
def setF0 (s : St) (n : Int) (why : Option Nat) : Option St :=
  match nth s.vars (ofF n) with
  | none => none
  | some v => (setN s.vars (ofF n) { v with lit := n, level := levelF s, reason := why, phase := n }).map fun vs => { s with vars := vs, trail := s.trail ++ [n] }
def setF (s : St) (n : Int) (why : Option Nat) : Option St := if smlB n && roomB s.trail.length then setF0 s n why else none
def unsetL (s : St) : List Int → Option St
  | [] => some s
  | n :: r =>
    if smlB n = false then none else
    match nth s.vars (ofF n) with
    | none => none
    | some v => (setN s.vars (ofF n) { v with lit := 0 }).bind fun vs => (pushF { s with vars := vs } (ofF n)).bind fun s' => unsetL s' r
def backF (s : St) (level : Int) : Option St :=
  if levelF s ≤ level then some s else
  match nth s.limits level with
  | none => none
  | some lim => if lim < 0 ∨ (s.trail.length : Int) < lim ∨ s.trail.length = 0 then none else (unsetL s (s.trail.drop lim.toNat)).map fun s' => { s' with trail := s'.trail.take lim.toNat, limits := s'.limits.take level.toNat, head := lim }
/-- One more that watches. -/
def putW (s : St) (k : Int) (c : Nat) : Option St := if smlB k && roomB (watched s k).length then some { s with watches := mput s.watches k (watched s k ++ [c]) } else none
def watchF (s : St) (c : Nat) : Option St :=
  match (s.cls[c]?).map (·.lits) with
  | some (a :: b :: _) => (putW s (-a) c).bind fun s1 => putW s1 (-b) c
  | _ => none
def swapF (l : List Int) (i j : Nat) : Option (List Int) :=
  match l[i]?, l[j]? with
  | some x, some y => some ((l.set i y).set j x)
  | _, _ => none
/-- The first one from a place on that is not false. -/
def seekF (s : St) : List Int → Nat → Option (Option Nat)
  | [], _ => some none
  | n :: r, k =>
    match valueF s n with
    | none => none
    | some v => if v = -1 then seekF s r (k + 1) else some (some k)
def litsF (s : St) (c : Nat) (l : List Int) : St := { s with cls := s.cls.modify c fun x => { x with lits := l } }
def movedF (s : St) (c : Nat) (n : Int) : Option (Bool × St) :=
  if smlB n = false then none else
  match (s.cls[c]?).map (·.lits) with
  | some (a :: b :: r) =>
    let s1 := if a = -n then litsF s c (b :: a :: r) else s
    let x := if a = -n then b else a
    let y := if a = -n then a else b
    match valueF s1 x with
    | none => none
    | some v =>
      if v = 1 then some (false, s1) else
      match seekF s1 r 2 with
      | none => none
      | some none => some (false, s1)
      | some (some k) =>
        match swapF (x :: y :: r) 1 k with
        | some (x' :: z :: r') => if z = -n then none else (putW (litsF s1 c (x' :: z :: r')) (-z) c).map fun s2 => (true, s2)
        | _ => none
  | _ => none
/-- The clauses that a literal's falling wakes, one by one. -/
def wakeF (n : Int) (s : St) (left : List Nat) : List Nat → Option (Option Nat × St)
  | [] => some (none, { s with watches := mput s.watches n left })
  | c :: r =>
    if roomB (left.length + r.length) = false then none else
    match movedF s c n with
    | none => none
    | some (true, s1) => wakeF n s1 left r
    | some (false, s1) =>
      match ((s1.cls[c]?).bind fun x => x.lits.head?) with
      | none => none
      | some f =>
        match valueF s1 f with
        | none => none
        | some v =>
          if v = 1 then wakeF n s1 (left ++ [c]) r
          else if v = -1 then some (some c, { s1 with watches := mput s1.watches n (left ++ [c] ++ r) })
          else (setF s1 f (some c)).bind fun s2 => wakeF n s2 (left ++ [c]) r
def spreadF : Nat → St → Option (Option Nat × St)
  | 0, _ => none
  | k + 1, s =>
    if s.head < (s.trail.length : Int) then
      match nth s.trail s.head with
      | none => none
      | some n =>
        match wakeF n { s with head := s.head + 1 } [] (watched s n) with
        | none => none
        | some (some c, s') => some (some c, s')
        | some (none, s') => spreadF k s'
    else some (none, s)
def usedF (s : St) (v : Int) : Option St :=
  match nth s.vars v with
  | none => none
  | some a =>
    if (decide (0 ≤ a.score ∧ 0 ≤ s.bump ∧ a.score + s.bump ≤ 4611686018427387904)) = false then none else
    (setN s.vars v { a with score := a.score + s.bump }).bind fun vs =>
      let s1 := { s with vars := vs }
      match nth s1.place v with
      | none => none
      | some p => (if 0 ≤ p then upF s1 p else some s1).bind fun s2 =>
        match nth s2.vars v with
        | none => none
        | some b => some (if 1099511627776 < b.score then { s2 with vars := s2.vars.map fun x => { x with score := x.score / 1048576 }, bump := if s2.bump / 1048576 < 1 then 1 else s2.bump / 1048576 } else s2)
/-- A clause's literals, looked at: what is seen, how many of the last level, what is of lower ones. -/
def scanF (n : Int) (s : St) (seen : List Int) (count : Int) (out : List Int) : List Int → Option (St × List Int × Int × List Int)
  | [] => some (s, seen, count, out)
  | m :: r =>
    if (smlB m && decide (0 ≤ count ∧ count ≤ 1099511627776) && roomB out.length) = false then none else
    if m = n ∨ ofF m ∈ seen then scanF n s seen count out r else
    match nth s.vars (ofF m) with
    | none => none
    | some a =>
      if a.level = 0 then scanF n s seen count out r else
      match usedF s (ofF m) with
      | none => none
      | some s' =>
        match nth s'.vars (ofF m) with
        | none => none
        | some a' => if a'.level = levelF s' then scanF n s' (ofF m :: seen) (count + 1) out r else scanF n s' (ofF m :: seen) count (out ++ [m]) r
def lastSeen (s : St) (seen : List Int) : Nat → Int → Option (Int × Int)
  | 0, _ => none
  | k + 1, i =>
    match nth s.trail i with
    | none => none
    | some n => if smlB n = false then none else if ofF n ∈ seen then some (n, i) else lastSeen s seen k (i - 1)
def learnL : Nat → St → Nat → Int → List Int → Int → Int → List Int → Option (St × Int × List Int)
  | 0, _, _, _, _, _, _, _ => none
  | k + 1, s, c, n, seen, count, i, out =>
    match s.cls[c]? with
    | none => none
    | some x =>
      match scanF n { s with cls := s.cls.modify c fun x => { x with score := s.conflicts } } seen count out x.lits with
      | none => none
      | some (s1, seen1, count1, out1) =>
        match lastSeen s1 seen1 (s1.trail.length + 1) i with
        | none => none
        | some (m, j) =>
          if (decide (0 ≤ count1 ∧ count1 ≤ 1099511627777) && smlB m) = false then none else
          if count1 - 1 = 0 then some (s1, m, out1) else
          match (nth s1.vars (ofF m)).bind (·.reason) with
          | none => none
          | some d => learnL k s1 d m seen1 (count1 - 1) (j - 1) out1
/-- The level to go back to; the literal of that level second. -/
def sortF (s : St) (back : Int) (out : List Int) : Nat → Nat → Option (List Int × Int)
  | 0, _ => some (out, back)
  | k + 1, i =>
    match out[i]? with
    | none => none
    | some m =>
      if smlB m = false then none else
      match nth s.vars (ofF m) with
      | none => none
      | some a => if back < a.level then (swapF out 1 i).bind fun o => sortF s a.level o k (i + 1) else sortF s back out k (i + 1)
def learnF (s : St) (c : Nat) : Option ((List Int × Int) × St) :=
  match learnL (s.vars.length + 1) s c 0 [] 0 ((s.trail.length : Int) - 1) [0] with
  | none => none
  | some (s1, n, out) => if (decide (0 < out.length) && roomB out.length) = false then none else (sortF s1 0 (out.set 0 (-n)) (out.length - 1) 1).map fun r => (r, s1)
def takeF (s : St) (lits : List Int) (back : Int) : Option St :=
  match backF s back with
  | none => none
  | some s1 =>
    match lits with
    | [] => none
    | [n] => setF s1 n none
    | n :: _ => if roomB s1.learnt.length = false then none else (watchF { s1 with cls := s1.cls ++ [⟨lits, true, s1.conflicts⟩], learnt := s1.learnt ++ [s1.cls.length] } s1.cls.length).bind fun s2 => setF s2 n (some s1.cls.length)
def chooseF : Nat → St → Option (Int × St)
  | 0, _ => none
  | k + 1, s =>
    if s.heap.length = 0 then some (0, s) else
    match popF s with
    | none => none
    | some (v, s') =>
      match nth s'.vars v with
      | none => none
      | some a => if a.lit = 0 then some (v, s') else chooseF k s'
def insertF (x : Int) : List Int → List Int
  | [] => [x]
  | y :: r => if x < y then x :: y :: r else if x = y then y :: r else y :: insertF x r
/-- Rising, each once. -/
def sortedF : List Int → List Int
  | [] => []
  | x :: r => insertF x (sortedF r)
/-- Down along the trail: which of the assumed ones let it be. -/
def coreL (s : St) (assume : List Int) (why : List Int) (out : List Int) : List Int → Option (List Int)
  | [] => some out
  | m :: r =>
    if (smlB m && roomB out.length) = false then none else
    if ofF m ∈ why then
      match nth s.vars (ofF m) with
      | none => none
      | some a =>
        match a.reason with
        | some c =>
          match s.cls[c]? with
          | none => none
          | some x => if x.lits.all smlB then coreL s assume ((x.lits.map ofF).reverse ++ why) out r else none
        | none => coreL s assume why (if m ∈ assume then out ++ [m] else out) r
    else coreL s assume why out r
def coreF (s : St) (n : Int) (assume : List Int) : Option (List Int) :=
  if smlB n = false then none else
  match s.limits.head? with
  | none => some (sortedF [n])
  | some b => if b < 0 then none else (coreL s assume [ofF n] [n] ((s.trail.drop b.toNat).reverse)).bind fun o => if roomB o.length then some (sortedF o) else none
def decideL : Nat → St → List Int → Option ((Int × Bool) × St)
  | 0, _, _ => none
  | k + 1, s, assume =>
    if levelF s < (assume.length : Int) then
      match assume[s.limits.length]? with
      | none => none
      | some n =>
        match valueF s n with
        | none => none
        | some v => if v = -1 then some ((n, false), s) else if v = 0 then some ((n, true), s) else if roomB s.limits.length = false then none else decideL k { s with limits := s.limits ++ [(s.trail.length : Int)] } assume
    else
      match chooseF (s.heap.length + 1) s with
      | none => none
      | some (v, s') =>
        if 0 < v then
          match nth s'.vars v with
          | none => none
          | some a => if smlB v = false then none else some ((if a.phase = v then v else -v, true), s')
        else some ((v, true), s')
/-- An answer: can they hold, how, why not. -/
structure Ans where
  sat : Bool
  model : List Int
  core : List Int
def noAns : Ans := ⟨false, [], []⟩
def modelF (s : St) : List Int := (s.vars.drop 1).map (·.lit)
def clashF : List Int → List Int → Bool
  | [], _ => false
  | n :: r, c => decide (n ≠ -n ∧ -n ∈ c) || clashF r c
def cleanF (l : List Int) : Option (List Int) := if clashF (sortedF l) (sortedF l) then none else some (sortedF l)
def knownF (s : St) (l : List Int) : Bool := l.all fun n => (valueF s n).isSome
def litF (s : St) (v : Int) (n : Int) : Bool := decide (valueF s n = some v)
/-- One clause more, all of whose literals may be. -/
def addF (fuel : Nat) (s : St) (lits : List Int) : Option St :=
  if (decide (0 ≤ s.added ∧ s.added ≤ 1099511627776)) = false then none else
  match backF { s with added := s.added + 1 } 0 with
  | none => none
  | some s1 =>
    match growsF s1 lits with
    | none => none
    | some s2 =>
      match cleanF lits with
      | none => some s2
      | some c =>
        if knownF s2 c = false then none else
        if c.any (litF s2 1) then some s2 else
        match c.filter fun n => !litF s2 (-1) n with
        | [] => some { s2 with broken := true }
        | [n] =>
          match setF s2 n none with
          | none => none
          | some s3 => if s3.broken then some s3 else (spreadF fuel s3).map fun r => { r.2 with broken := r.1.isSome }
        | o => watchF { s2 with cls := s2.cls ++ [⟨o, false, 0⟩] } s2.cls.length
/-- A conflict: what is learnt of it. -/
def conflictF (s : St) (c : Nat) : Option St :=
  match learnF s c with
  | none => none
  | some (r, s1) => (takeF s1 r.1 r.2).bind fun s2 => if (decide (0 ≤ s2.bump ∧ s2.bump ≤ 1152921504606846976)) = false then none else some { s2 with bump := s2.bump + (1 + s2.bump / 16) }
/-- The search; none: it ran out of fuel, or would forget. -/
def searchF (fuel : Nat) (limit : Int) (assume : List Int) : Nat → St → Int → Option ((Ans × Int) × St)
  | 0, _, _ => none
  | k + 1, s, count =>
    if s.broken then some ((noAns, 0), s) else
    match spreadF fuel s with
    | none => none
    | some (some c, s1) =>
      if (decide (0 ≤ s1.conflicts ∧ s1.conflicts ≤ 1099511627776 ∧ 0 ≤ count ∧ count ≤ 1099511627776)) = false then none else
      let s2 := { s1 with conflicts := s1.conflicts + 1 }
      if levelF s2 = 0 then some ((noAns, 0), { s2 with broken := true }) else
      match conflictF s2 c with
      | none => none
      | some s3 =>
        if 0 < limit ∧ limit ≤ count + 1 then (backF s3 0).map fun s4 => ((noAns, 70), s4) else
        (if (count + 1) % 64 = 0 then backF s3 0 else some s3).bind fun s4 => if s4.broken then none else searchF fuel limit assume k s4 (count + 1)
    | some (none, s1) =>
      if (decide (0 ≤ s1.added ∧ s1.added ≤ 1099511627776)) = false then none else
      if 2000 + s1.added / 2 < (s1.learnt.length : Int) then none else
      match decideL (assume.length + 2) s1 assume with
      | none => none
      | some ((n, false), s2) => (coreF s2 n assume).map fun l => ((⟨false, [], l⟩, 0), s2)
      | some ((n, true), s2) =>
        if n = 0 then (if roomB s2.vars.length then some ((⟨true, modelF s2, []⟩, 0), s2) else none) else
        if roomB s2.limits.length = false then none else
        (setF { s2 with limits := s2.limits ++ [(s2.trail.length : Int)] } n none).bind fun s3 => searchF fuel limit assume k s3 count
def solveF (fuel : Nat) (s : St) (limit : Int) (assume : List Int) : Option ((Ans × Int) × St) :=
  match backF s 0 with
  | none => none
  | some s1 => (growsF s1 assume).bind fun s2 => searchF fuel limit assume fuel s2 0
/-- Clauses, one by one. -/
def addsF (fuel : Nat) (s : St) : List (List Int) → Option St
  | [] => some s
  | c :: r => (addF fuel s c).bind fun s' => addsF fuel s' r
end Go.Sat
/- Rows of structs (k cells an element) that the program made. -/
namespace Go.Mem
open Go.RowKit
section
variable {α : Type}
/-- How an element lies in its cells. -/
structure Enc (α : Type) (k : Nat) where
  cells : α → List Value
  len : ∀ x, (cells x).length = k
  one : ∀ x, ∀ u ∈ cells x, u.oneCell' = true
def SRow {k : Nat} (w : World) (e : TypeId) (E : Enc α k) (v : Value) (xs : List α) : Prop := w.ownsRow 0 e k v xs.length (xs.flatMap E.cells)
theorem Enc.get {k : Nat} (E : Enc α k) : ∀ (l : List α) (i : Nat) (x : α), l[i]? = some x → ∀ j u, (E.cells x)[j]? = some u → (l.flatMap E.cells)[i * k + j]? = some u
  | [], i, x, h, _, _, _ => by simp at h
  | y :: l, 0, x, h, j, u, hu => by
    simp only [List.getElem?_cons_zero, Option.some.injEq] at h
    subst h
    have hj := (List.getElem?_eq_some_iff.1 hu).1
    simp only [List.flatMap_cons]
    rw [Nat.zero_mul, Nat.zero_add, List.getElem?_append_left hj]
    exact hu
  | y :: l, i + 1, x, h, j, u, hu => by
    have ih := E.get l i x (by simpa using h) j u hu
    have hl := E.len y
    simp only [List.flatMap_cons]
    rw [List.getElem?_append_right (by rw [hl, Nat.succ_mul]; omega), hl, show (i + 1) * k + j - k = i * k + j by rw [Nat.succ_mul]; omega]
    exact ih
theorem SRow.nil {k : Nat} (w : World) (e : TypeId) (E : Enc α k) : SRow w e E (.slice none 0 0) ([] : List α) := ⟨by simp, .inl ⟨rfl, rfl⟩⟩
theorem SRow.frm {k : Nat} {S : Nat → Prop} {w w' : World} {e : TypeId} {E : Enc α k} {v : Value} {xs : List α} (h : SRow w e E v xs) (hf : Frm S w w') (hS : ∀ g, v.ownBlock = some g → ¬ S g) : SRow w' e E v xs := own_frm h hf hS
theorem SRow.frm0 {k : Nat} {w w' : World} {e : TypeId} {E : Enc α k} {v : Value} {xs : List α} (h : SRow w e E v xs) (hf : Frm (fun _ => False) w w') : SRow w' e E v xs := h.frm hf fun _ _ => id
/-- An empty slice of the program's own. -/
theorem SRow.empty {k : Nat} {w : World} {e : TypeId} {E : Enc α k} {g : Nat} (h : w.heap[g]? = some (.cells #[] e (0, 0))) : SRow w e E (.slice (some ⟨g, 0, none⟩) 0 0) ([] : List α) := ⟨by simp, .inr ⟨g, 0, #[], rfl, Nat.zero_le _, h, Nat.zero_le _, Nat.zero_le _, by simp, by simp⟩⟩
theorem SRow.shape {k : Nat} {w : World} {e : TypeId} {E : Enc α k} {v : Value} {xs : List α} (h : SRow w e E v xs) : (v = .slice none 0 0 ∧ xs = []) ∨ ∃ g cap, v = .slice (some ⟨g, 0, none⟩) xs.length cap ∧ v.ownBlock = some g ∧ g < w.heap.size ∧ xs.length ≤ cap ∧ cap ≤ maxLen ∧ (∀ i x j u, xs[i]? = some x → (E.cells x)[j]? = some u → w.cell? ⟨g, i * k + j, none⟩ = some u) ∧ ∀ i, w.frozen? ⟨g, i, none⟩ = false := by
  have hlt := World.ownsRow.lt h
  have hc := fun g => World.ownsRow.cells h (g := g)
  obtain ⟨h1, ⟨rfl, h2⟩ | ⟨g, cap, cur, rfl, hbg, hg, hn, hm, _⟩⟩ := h
  · exact .inl ⟨rfl, List.eq_nil_of_length_eq_zero h2⟩
  · refine .inr ⟨g, cap, rfl, rfl, (hlt g rfl).2, hn, hm, fun i x j u hx hu => ?_, fun i => blk_free hg i⟩
    have k' := hc g rfl _ _ (E.get xs i x hx j u hu)
    simp only [Addr.add] at k'
    by_cases hz : i * k + j = 0
    · rw [if_pos hz] at k'; rw [hz]; exact k'
    · rw [if_neg hz] at k'; simpa using k'
theorem SRow.slice {k : Nat} {w : World} {e : TypeId} {E : Enc α k} {v : Value} {xs : List α} (h : SRow w e E v xs) : ∃ A c, v = .slice A xs.length c ∧ ∀ i x, xs[i]? = some x → ∃ g, A = some ⟨g, 0, none⟩ ∧ g < w.heap.size ∧ ∀ j u, (E.cells x)[j]? = some u → w.cell? ⟨g, i * k + j, none⟩ = some u := by
  rcases h.shape with ⟨rfl, rfl⟩ | ⟨g, cap, rfl, _, hg, _, _, hc, _⟩
  · exact ⟨none, 0, rfl, fun i x h => by simp at h⟩
  · exact ⟨some ⟨g, 0, none⟩, cap, rfl, fun i x hx => ⟨g, rfl, hg, fun j u hu => hc i x j u hx hu⟩⟩
theorem SRow.len {k : Nat} {w : World} {e : TypeId} {E : Enc α k} {v : Value} {xs : List α} (h : SRow w e E v xs) : xs.length ≤ maxLen := by
  rcases h.shape with ⟨_, rfl⟩ | ⟨_, _, _, _, _, h1, h2, _⟩
  · exact Nat.zero_le _
  · omega
theorem SRow.lt {k : Nat} {w : World} {e : TypeId} {E : Enc α k} {v : Value} {xs : List α} (h : SRow w e E v xs) : ∀ g, v.ownBlock = some g → g < w.heap.size := fun g hg => (World.ownsRow.lt h g hg).2
/-- append of one element. -/
theorem wpList_append_srow {P : Program} {w : World} {ops : Array Oper} {rest : List Oper} {o : Oper} {a : Act} {Q : Exit → Act → World → Prop} (hgd : o.guard = none) (s x : Operand) (t : TypeId)
    (ho : o.op = .call { callee := .builtin .append, args := #[s, x], argTypes := #[t, t] })
    (e : TypeId) (i : TypeInfo) (z : Value) (bytes : Nat) {k : Nat} (ht : P.underlying t = some (.slice e)) (hi : P.info? e = some i) (hz : i.zero = some z)
    (hsize : i.size = k) (hby : i.bytes = bytes) (hzs : z.cells.size = k) (hk : 0 < k) {E : Enc α k}
    (v : Value) (xs : List α) (hs : a.eval s = v) (hrow : SRow w e E v xs) (ad : Addr) (c : Nat) (y : α) (hx : a.eval x = .slice (some ad) 1 c) (hc : ∀ j u, (E.cells y)[j]? = some u → w.cell? (ad.add j) = some u)
    (h63 : xs.length + 1 ≤ maxLen) (hbytes : (xs.length + 1) * bytes ≤ 140737488355328)
    (h : ∀ g cap w', SRow w' e E (.slice (some ⟨g, 0, none⟩) (xs.length + 1) cap) (xs ++ [y]) → Frm (fun b => v.ownBlock = some b) w w' → (v.ownBlock = some g ∨ g = w.heap.size) → g < w'.heap.size →
      wpList P ops Q rest (a.put o.dst (.slice (some ⟨g, 0, none⟩) (xs.length + 1) cap)) w') : wpList P ops Q (o :: rest) a w := by
  refine wpList_append_lies w hgd s x t ho 0 e i z k bytes ht hi hz hsize hby hzs hk v xs.length (xs.flatMap E.cells) hs hrow ad 1 c (E.cells y) hx (by rw [E.len]; omega) hc (E.one y) (by decide) h63 hbytes (Nat.zero_le _) _ rfl ?_
  intro g cap w' h1 h2 h3 h4
  refine h g cap w' ?_ (Frm.of_grown h2) h3 h4
  show w'.ownsRow 0 e k _ (xs ++ [y]).length ((xs ++ [y]).flatMap E.cells)
  rw [List.length_append, List.flatMap_append]
  simpa using h1
end
end Go.Mem
