/- Memory in this seat's own words: what a call may have written (Frm), rows of cells that read as lists, maps that read as lists of pairs. No program in sight. -/
import Derived.WalkKit
import Derived.WalkSpells
import Derived.WalkLawsBesides
import Derived.Deep.Draws
import Derived.Deep.AppendLies
import Derived.OneCell
import Derived.Laws.StructEq
import Derived.Maps.OwnOps
set_option linter.unusedSimpArgs false
set_option linter.unusedVariables false
namespace Go.Mem
open Go.RowKit

/-! ### What a call may have written -/
structure Frm (S : Nat → Prop) (w w' : World) : Prop where
 os : w'.os = w.os
 tape : w'.tape = w.tape
 output : w'.output = w.output
 size : w.heap.size ≤ w'.heap.size
 block : ∀ k, k < w.heap.size → ¬ S k → w'.heap[k]? = w.heap[k]?

theorem Frm.refl (S : Nat → Prop) (w : World) : Frm S w w := ⟨rfl, rfl, rfl, Nat.le_refl _, fun _ _ _ => rfl⟩
theorem Frm.trans {S T : Nat → Prop} {a b c : World} (h : Frm S a b) (k : Frm T b c) (hT : ∀ x, x < a.heap.size → T x → S x) : Frm S a c :=
 ⟨k.os.trans h.os, k.tape.trans h.tape, k.output.trans h.output, Nat.le_trans h.size k.size, fun x hx hS => (k.block x (Nat.lt_of_lt_of_le hx h.size) fun t => hS (hT x hx t)).trans (h.block x hx hS)⟩
theorem Frm.mono {S T : Nat → Prop} {a b : World} (h : Frm S a b) (hST : ∀ x, x < a.heap.size → S x → T x) : Frm T a b :=
 ⟨h.os, h.tape, h.output, h.size, fun x hx hT => h.block x hx fun s => hT (hST x hx s)⟩
theorem Frm.drew {S : Nat → Prop} {a w : World} (h : Frm S a w) : Frm S a w.drew := ⟨h.os, h.tape, h.output, h.size, h.block⟩
theorem Frm.drewN {S : Nat → Prop} {a w : World} (h : Frm S a w) (n : Nat) : Frm S a (w.drewN n) := ⟨h.os, h.tape, h.output, h.size, h.block⟩
theorem Frm.alloc {S : Nat → Prop} {a w : World} (h : Frm S a w) (o : Obj) : Frm S a (w.alloc o) :=
 ⟨h.os, h.tape, h.output, by have := h.size; simp; omega, fun x hx hS => (Below.heap_alloc w o x (by have := h.size; omega)).trans (h.block x hx hS)⟩
theorem Frm.set {S : Nat → Prop} {a w : World} (h : Frm S a w) {p : Addr} (hp : S p.block ∨ a.heap.size ≤ p.block) (v : Value) : Frm S a (w.setCell p v) :=
 ⟨h.os, h.tape, h.output, by have := h.size; simpa [World.setCell] using this, fun x hx hS => (Below.heap_setCell w p v x (fun e => by subst e; rcases hp with hp | hp; exact hS hp; omega)).trans (h.block x hx hS)⟩
theorem Frm.grown {S : Nat → Prop} {a w w' : World} {row : Option Nat} (h : Frm S a w) (hg : w.grownBy w' row) (hr : ∀ k, row = some k → S k ∨ a.heap.size ≤ k) : Frm S a w' :=
 ⟨hg.os.trans h.os, hg.tape.trans h.tape, hg.output.trans h.output, Nat.le_trans h.size hg.size, fun x hx hS => (hg.block x (Nat.lt_of_lt_of_le hx h.size) (fun e => by rcases hr x e.symm with h1 | h1; exact hS h1; omega)).trans (h.block x hx hS)⟩
theorem Frm.below {a w : World} (h : Frm (fun _ => False) a w) : Below a.heap.size a w := ⟨h.os, h.tape, h.output, h.size, fun k hk => h.block k hk id⟩
theorem Frm.of_below {S : Nat → Prop} {a w : World} (h : Below a.heap.size a w) : Frm S a w := ⟨h.os, h.tape, h.output, h.size, fun k hk _ => h.block k hk⟩
/-- Whose blocks they are may turn: what was not there before is free. -/
theorem Frm.of_grown {w w' : World} {row : Option Nat} (hg : w.grownBy w' row) : Frm (fun k => row = some k) w w' :=
 (Frm.refl _ w).grown hg fun _ e => .inl e

/-! ### Blocks, through a step of the world -/
section
variable {w : World} {b : Nat}
theorem blk_alloc {x : Obj} (h : w.heap[b]? = some x) (o : Obj) : (w.alloc o).heap[b]? = some x := (Below.heap_alloc w o b (lt_of_block h)).trans h
theorem blk_set_ne {x : Obj} (h : w.heap[b]? = some x) {p : Addr} (hp : b ≠ p.block) (v : Value) : (w.setCell p v).heap[b]? = some x := (Below.heap_setCell w p v b hp).trans h
theorem blk_set {cs cs' : Array Value} {t : TypeId} {z : Nat × Nat} (h : w.heap[b]? = some (.cells cs t z)) (i : Nat) (v : Value) (e : cs.setIfInBounds i v = cs') : (w.setCell ⟨b, i, none⟩ v).heap[b]? = some (.cells cs' t z) := by
 subst e
 simp [World.setCell, Array.getElem?_modify, h]
theorem blk_grown {w' : World} {row : Option Nat} {x : Obj} (h : w.heap[b]? = some x) (hg : w.grownBy w' row) (hr : row ≠ some b) : w'.heap[b]? = some x := (hg.block b (lt_of_block h) (Ne.symm hr)).trans h
theorem blk_frm {S : Nat → Prop} {w' : World} {x : Obj} (h : w.heap[b]? = some x) (hf : Frm S w w') (hS : ¬ S b) : w'.heap[b]? = some x := (hf.block b (lt_of_block h) hS).trans h
theorem blk_new (o : Obj) : (w.alloc o).heap[w.heap.size]? = some o := heap_alloc_new w o
theorem blk_new_at {n : Nat} (o : Obj) (hn : n = w.heap.size) : (w.alloc o).heap[n]? = some o := by subst hn; exact heap_alloc_new w o
theorem blk_cell {cs : Array Value} {t : TypeId} {z : Nat × Nat} (h : w.heap[b]? = some (.cells cs t z)) (i : Nat) : w.cell? ⟨b, i, none⟩ = cs[i]? := by simp [World.cell?, h]
theorem blk_free {cs : Array Value} {t : TypeId} (h : w.heap[b]? = some (.cells cs t (0, 0))) (i : Nat) : w.frozen? ⟨b, i, none⟩ = false := by simp [World.frozen?, h]
end

/-! ### A row of cells of the program's own: a slice that begins at the head of a block -/
theorem own_of_block {w w' : World} {base : Nat} {e : TypeId} {size : Nat} {v : Value} {n : Nat} {xs : List Value} (h : w.ownsRow base e size v n xs) (hb : ∀ g, v.ownBlock = some g → w'.heap[g]? = w.heap[g]?) : w'.ownsRow base e size v n xs := by
 obtain ⟨h1, h2 | ⟨g, cap, cur, rfl, hbg, hg, r⟩⟩ := h
 ·exact ⟨h1, .inl h2⟩
 ·exact ⟨h1, .inr ⟨g, cap, cur, rfl, hbg, (hb g rfl).trans hg, r⟩⟩
theorem own_drew {w : World} {base : Nat} {e : TypeId} {size : Nat} {v : Value} {n : Nat} {xs : List Value} (h : w.ownsRow base e size v n xs) : w.drew.ownsRow base e size v n xs := h
theorem own_drewN {w : World} {base : Nat} {e : TypeId} {size : Nat} {v : Value} {n : Nat} {xs : List Value} (h : w.ownsRow base e size v n xs) (k : Nat) : (w.drewN k).ownsRow base e size v n xs := h
theorem own_frm {S : Nat → Prop} {w w' : World} {base : Nat} {e : TypeId} {size : Nat} {v : Value} {n : Nat} {xs : List Value} (h : w.ownsRow base e size v n xs) (hf : Frm S w w') (hS : ∀ g, v.ownBlock = some g → ¬ S g) : w'.ownsRow base e size v n xs :=
 own_of_block h fun g hg => hf.block g (h.lt g hg).2 (hS g hg)
theorem own_set_ne {w : World} {base : Nat} {e : TypeId} {size : Nat} {v : Value} {n : Nat} {xs : List Value} (h : w.ownsRow base e size v n xs) {p : Addr} (hp : v.ownBlock ≠ some p.block) (u : Value) : (w.setCell p u).ownsRow base e size v n xs :=
 ownsRow_setCell_other h hp u
theorem own_base {w : World} {base : Nat} {e : TypeId} {size : Nat} {v : Value} {n : Nat} {xs : List Value} (h : w.ownsRow base e size v n xs) : w.ownsRow 0 e size v n xs := by
 obtain ⟨h1, h2 | ⟨g, cap, cur, rfl, hbg, r⟩⟩ := h
 ·exact ⟨h1, .inl h2⟩
 ·exact ⟨h1, .inr ⟨g, cap, cur, rfl, Nat.zero_le _, r⟩⟩
theorem own_elem {w : World} {base : Nat} {e : TypeId} {size : Nat} {v : Value} {n : Nat} {xs : List Value} {g : Nat} (h : w.ownsRow base e size v n xs) (hg : v.ownBlock = some g) : ∃ cur, w.heap[g]? = some (.cells cur e (0, 0)) := by
 obtain ⟨h1, ⟨rfl, _⟩ | ⟨g', cap, cur, rfl, hbg, r, _⟩⟩ := h
 ·cases hg
 ·cases hg; exact ⟨cur, r⟩

/-- A slice of one-cell elements that is the program's own: it reads as xs. -/
def Row {α : Type} (w : World) (e : TypeId) (enc : α → Value) (v : Value) (xs : List α) : Prop := w.ownsRow 0 e 1 v xs.length (xs.map enc)
section
variable {α : Type} {w w' : World} {e : TypeId} {enc : α → Value} {v : Value} {xs : List α}
theorem Row.shape (h : Row w e enc v xs) : (v = .slice none 0 0 ∧ xs = []) ∨ ∃ g cap, v = .slice (some ⟨g, 0, none⟩) xs.length cap ∧ v.ownBlock = some g ∧ xs.length ≤ cap ∧ cap ≤ maxLen ∧ (∀ i x, xs[i]? = some x → w.cell? ⟨g, i, none⟩ = some (enc x)) ∧ ∀ i, w.frozen? ⟨g, i, none⟩ = false := by
 obtain ⟨h1, ⟨rfl, h2⟩ | ⟨g, cap, cur, rfl, hbg, hg, hn, hm, _, htake⟩⟩ := h
 ·exact .inl ⟨rfl, List.eq_nil_of_length_eq_zero h2⟩
 ·refine .inr ⟨g, cap, rfl, rfl, hn, hm, fun i x hx => ?_, fun i => blk_free hg i⟩
  have hi : i < xs.length := (List.getElem?_eq_some_iff.1 hx).1
  have e1 : (xs.map enc)[i]? = some (enc x) := by rw [List.getElem?_map, hx]; rfl
  rw [← htake, List.getElem?_take_of_lt (by omega)] at e1
  rw [blk_cell hg i]
  simpa using e1
theorem Row.frm {S : Nat → Prop} (h : Row w e enc v xs) (hf : Frm S w w') (hS : ∀ g, v.ownBlock = some g → ¬ S g) : Row w' e enc v xs := own_frm h hf hS
theorem Row.lt (h : Row w e enc v xs) : ∀ g, v.ownBlock = some g → g < w.heap.size := fun g hg => (World.ownsRow.lt h g hg).2
end

theorem made_list (z : Value) (hz : z.cells = #[z]) (n : Nat) : (madeCells z.cells (n * 1)).toList = List.replicate n z := by
 rw [hz]
 apply List.ext_getElem
 ·simp [madeCells]
 ·intro i h1 h2
  simp [madeCells, Nat.mod_one]
theorem row_made {α : Type} {w : World} {base : Nat} {e : TypeId} {enc : α → Value} {v : Value} {n : Nat} {x : α} (h : w.ownsRow base e 1 v n (madeCells (enc x).cells (n * 1)).toList) (hz : (enc x).cells = #[enc x]) : Row w e enc v (List.replicate n x) := by
 rw [made_list _ hz] at h
 unfold Row
 rw [List.length_replicate, List.map_replicate]
 exact own_base h
theorem row_set {α : Type} {w : World} {e : TypeId} {enc : α → Value} {g n c : Nat} {xs : List α} (h : Row w e enc (.slice (some ⟨g, 0, none⟩) n c) xs) (i : Nat) (hi : i < xs.length) (x : α) : Row (w.setCell ⟨g, i, none⟩ (enc x)) e enc (.slice (some ⟨g, 0, none⟩) n c) (xs.set i x) := by
 obtain ⟨h1, ⟨h2, _⟩ | ⟨g', cap, cur, e1, hb, hg, hn, hm, hs, ht⟩⟩ := h
 ·cases h2
 ·cases e1
  refine ⟨by simp, .inr ⟨g, c, cur.setIfInBounds i (enc x), by simp, Nat.zero_le _, blk_set hg i _ rfl, by simpa using hn, hm, by simpa using hs, ?_⟩⟩
  rw [List.length_set, Array.toList_setIfInBounds, List.map_set, ← ht, Nat.mul_one]
  apply List.ext_getElem?
  intro j
  by_cases hj : j < xs.length
  ·rw [List.getElem?_take_of_lt hj]
   by_cases hij : i = j
   ·subst hij
    have hl : i < cur.toList.length := by simp; omega
    rw [List.getElem?_set_self hl, List.getElem?_set_self (by simp; omega)]
   ·rw [List.getElem?_set_ne hij, List.getElem?_set_ne hij, List.getElem?_take_of_lt hj]
  ·rw [List.getElem?_eq_none (by simp; omega), List.getElem?_eq_none (by simp; omega)]
theorem Row.nil {α : Type} (w : World) (e : TypeId) (enc : α → Value) : Row w e enc (.slice none 0 0) ([] : List α) := ⟨by simp, .inl ⟨rfl, rfl⟩⟩
theorem Row.frm0 {α : Type} {w w' : World} {e : TypeId} {enc : α → Value} {v : Value} {xs : List α} (h : Row w e enc v xs) (hf : Frm (fun _ => False) w w') : Row w' e enc v xs := h.frm hf fun _ _ => id

/-! ### A slice that reads as a list, whosever it is -/
def Sees {α : Type} (w : World) (enc : α → Value) (v : Value) (xs : List α) : Prop :=
 (v = .slice none 0 0 ∧ xs = []) ∨ ∃ g o cap, v = .slice (some ⟨g, o, none⟩) xs.length cap ∧ xs.length ≤ cap ∧ cap ≤ maxLen ∧ ∀ i x, xs[i]? = some x → w.cell? ⟨g, o + i, none⟩ = some (enc x)
theorem Row.sees {α : Type} {w : World} {e : TypeId} {enc : α → Value} {v : Value} {xs : List α} (h : Row w e enc v xs) : Sees w enc v xs := by
 rcases h.shape with h | ⟨g, cap, h1, _, h2, h3, h4, _⟩
 ·exact .inl h
 ·exact .inr ⟨g, 0, cap, h1, h2, h3, fun i x hx => by simpa using h4 i x hx⟩
theorem Sees.len {α : Type} {w : World} {enc : α → Value} {v : Value} {xs : List α} (h : Sees w enc v xs) : xs.length ≤ maxLen := by
 rcases h with ⟨_, rfl⟩ | ⟨g, o, cap, _, h1, h2, _⟩
 ·exact Nat.zero_le _
 ·omega
theorem Sees.of_cells {α : Type} {w w' : World} {enc : α → Value} {v : Value} {xs : List α} (h : Sees w enc v xs) (hc : ∀ g o n c, v = .slice (some ⟨g, o, none⟩) n c → xs ≠ [] → w'.heap[g]? = w.heap[g]?) : Sees w' enc v xs := by
 rcases h with h | ⟨g, o, cap, h1, h2, h3, h4⟩
 ·exact .inl h
 ·refine .inr ⟨g, o, cap, h1, h2, h3, fun i x hx => ?_⟩
  rw [World.cell?_of_block (w := w) (hc g o _ _ h1 (fun e => by subst e; cases hx))]
  exact h4 i x hx

theorem sees_of_blk {α : Type} {w : World} {enc : α → Value} {b n : Nat} {cs : Array Value} {t : TypeId} {z : Nat × Nat} {xs : List α} (h : w.heap[b]? = some (.cells cs t z)) (hx : cs.toList = xs.map enc) (hn : n = xs.length) (hm : n ≤ maxLen) :
  Sees w enc (.slice (some ⟨b, 0, none⟩) n n) xs := by
 subst hn
 refine .inr ⟨b, 0, xs.length, rfl, Nat.le_refl _, hm, fun i x hi => ?_⟩
 rw [Nat.zero_add, blk_cell h i, ← Array.getElem?_toList, hx, List.getElem?_map, hi]
 rfl
theorem Sees.frm {α : Type} {S : Nat → Prop} {w w' : World} {enc : α → Value} {v : Value} {xs : List α} (h : Sees w enc v xs) (hf : Frm S w w') (hS : ∀ g, (∃ o n c, v = .slice (some ⟨g, o, none⟩) n c) → g < w.heap.size → ¬ S g) : Sees w' enc v xs := by
 rcases h with h | ⟨g, o, cap, h1, h2, h3, h4⟩
 ·exact .inl h
 ·refine .inr ⟨g, o, cap, h1, h2, h3, fun i x hx => ?_⟩
  have hc := h4 i x hx
  have hlt : g < w.heap.size := World.block_lt_of_cell? _ _ hc
  rw [World.cell?_of_block (w := w) (hf.block g hlt (hS g ⟨_, _, _, h1⟩ hlt))]
  exact hc

theorem heap_lt {w w' : World} {b : Nat} (h : w'.heap[b]? = w.heap[b]?) (hb : b < w.heap.size) : b < w'.heap.size := by
 rcases Nat.lt_or_ge b w'.heap.size with h1 | h1
 ·exact h1
 ·rw [Array.getElem?_eq_none h1, Array.getElem?_eq_getElem hb] at h; cases h

/-- Which blocks a slice lies in. -/
def InBlk (v : Value) (g : Nat) : Prop := ∃ o n c, v = .slice (some ⟨g, o, none⟩) n c
theorem Sees.heap {α : Type} {w w' : World} {enc : α → Value} {v : Value} {xs : List α} (h : Sees w enc v xs) (hb : ∀ g, InBlk v g → xs ≠ [] → g < w.heap.size → w'.heap[g]? = w.heap[g]?) : Sees w' enc v xs := by
 rcases h with h | ⟨g, o, cap, h1, h2, h3, h4⟩
 ·exact .inl h
 ·refine .inr ⟨g, o, cap, h1, h2, h3, fun i x hx => ?_⟩
  have hc := h4 i x hx
  have hlt : g < w.heap.size := World.block_lt_of_cell? _ _ hc
  rw [World.cell?_of_block (w := w) (hb g ⟨_, _, _, h1⟩ (fun e => by subst e; cases hx) hlt)]
  exact hc
theorem Sees.inlt {α : Type} {w : World} {enc : α → Value} {v : Value} {xs : List α} (h : Sees w enc v xs) {g : Nat} (hg : InBlk v g) (hx : xs ≠ []) : g < w.heap.size := by
 rcases h with ⟨_, e⟩ | ⟨g', o, c, e, _, _, hc⟩
 ·exact absurd e hx
 ·obtain ⟨o', n', c', e'⟩ := hg
  rw [e] at e'
  cases e'
  cases xs with
  | nil => exact absurd rfl hx
  | cons x xs => exact World.block_lt_of_cell? _ _ (hc 0 x rfl)

/-! ### Maps that read as lists of pairs -/
def mget {K V : Type} [DecidableEq K] : List (K × V) → K → Option V
 | [], _ => none
 | (a, v) :: r, k => if a = k then some v else mget r k
def mput {K V : Type} [DecidableEq K] : List (K × V) → K → V → List (K × V)
 | [], k, v => [(k, v)]
 | (a, u) :: r, k, v => if a = k then (k, v) :: r else (a, u) :: mput r k v
theorem mget_mput {K V : Type} [DecidableEq K] (k k' : K) (v : V) : ∀ m : List (K × V), mget (mput m k v) k' = if k = k' then some v else mget m k'
 | [] => by simp [mput, mget]
 | (a, u) :: r => by
  unfold mput
  split
  ·rename_i h; subst h
   by_cases h : a = k' <;> simp [mget, h]
  ·rename_i h
   simp only [mget, mget_mput k k' v r]
   by_cases h1 : a = k'
   ·subst h1; simp [Ne.symm h]
   ·simp [h1]

def MapAt {K V : Type} (w : World) (r : Nat) (enc : K → Value) (ev : V → Value) (m : List (K × V)) : Prop :=
 ∃ es c, w.heap[r]? = some (.map es c) ∧ es.toList.map (fun e => (e.key, e.val)) = m.map (fun p => (enc p.1, ev p.2)) ∧ (∀ e ∈ es.toList, e.born < c) ∧ (es.toList.map (·.born)).Nodup
theorem mapAt_of_block {K V : Type} {w w' : World} {r : Nat} {enc : K → Value} {ev : V → Value} {m : List (K × V)} (h : MapAt w r enc ev m) (hb : w'.heap[r]? = w.heap[r]?) : MapAt w' r enc ev m := by
 obtain ⟨es, c, h1, h2⟩ := h
 exact ⟨es, c, hb.trans h1, h2⟩
theorem MapAt.lt {K V : Type} {w : World} {r : Nat} {enc : K → Value} {ev : V → Value} {m : List (K × V)} (h : MapAt w r enc ev m) : r < w.heap.size := by
 obtain ⟨es, c, h1, h2⟩ := h
 exact lt_of_block h1
theorem mapAt_new {K V : Type} (w : World) (enc : K → Value) (ev : V → Value) : MapAt (w.alloc (.map #[] 0)) w.heap.size enc ev [] := ⟨#[], 0, heap_alloc_new w _, rfl, by simp, by simp⟩
theorem MapAt.frm {K V : Type} {S : Nat → Prop} {w w' : World} {r : Nat} {enc : K → Value} {ev : V → Value} {m : List (K × V)} (h : MapAt w r enc ev m) (hf : Frm S w w') (hS : ¬ S r) : MapAt w' r enc ev m :=
 mapAt_of_block h (hf.block r h.lt hS)

def findIx {K : Type} [DecidableEq K] (k : K) : List K → List MapEntry → Nat → Option (Nat × Value)
 | a :: ks, e :: es, i => if a = k then some (i, e.val) else findIx k ks es (i + 1)
 | _, _, _ => none

structure KeyEnc (P : Program) (kt : TypeId) {K : Type} [DecidableEq K] (enc : K → Value) : Prop where
 check : ∀ (w : World) (k : K) (b : Bool), (Instr.checkKey b 10000 kt (enc k)).run P w = .ok () w
 find : ∀ (w : World) (k : K) (es : List MapEntry) (ks : List K), es.map (·.key) = ks.map enc → (Instr.findKey kt (enc k) es).run P w = .ok (findIx k ks es 0) w
 stay : ∀ k, Instr.sameBits 10000 (enc k) (enc k) = true

theorem findAsking_run {P : Program} {kt : TypeId} {K : Type} [DecidableEq K] {enc : K → Value} (heq : ∀ (a b : K) (w : World), (Op.equal kt (enc a) (enc b)).run P w = .ok (decide (a = b)) w) (w : World) (k : K) :
  ∀ (es : List MapEntry) (ks : List K) (i : Nat), es.map (·.key) = ks.map enc → (Instr.findAsking kt (enc k) es i).run P w = .ok (findIx k ks es i) w
 | [], [], i, _ => by simp [Instr.findAsking, findIx]
 | [], a :: ks, i, h => by simp at h
 | e :: es, [], i, h => by simp at h
 | e :: es, a :: ks, i, h => by
  simp only [List.map_cons, List.cons.injEq] at h
  simp only [Instr.findAsking, h.1, Sem.run_bind, heq, Result.andThen_ok, findIx]
  by_cases hak : k = a
  ·subst hak; simp
  ·simp only [hak, decide_false, Bool.false_eq_true, if_false, Ne.symm hak]
   exact findAsking_run heq w k es ks (i + 1) h.2

theorem findNow_run {kind : TypeDesc} {K : Type} [DecidableEq K] {enc : K → Value} (hs : ∀ a b : K, Instr.sameNow kind (enc a) (enc b) = some (decide (a = b))) (k : K) :
  ∀ (es : List MapEntry) (ks : List K) (i : Nat), es.map (·.key) = ks.map enc → Instr.findNow kind (enc k) es i = some (findIx k ks es i)
 | [], [], i, _ => by simp [Instr.findNow, findIx]
 | [], a :: ks, i, h => by simp at h
 | e :: es, [], i, h => by simp at h
 | e :: es, a :: ks, i, h => by
  simp only [List.map_cons, List.cons.injEq] at h
  simp only [Instr.findNow, h.1, hs, findIx]
  by_cases hak : k = a
  ·subst hak; simp
  ·simp only [hak, decide_false, Ne.symm hak, if_false]
   exact findNow_run hs k es ks (i + 1) h.2

theorem keyEnc_asked {P : Program} {kt : TypeId} {kind : TypeDesc} {K : Type} [DecidableEq K] {enc : K → Value} (hu : P.underlying kt = some kind) (check : ∀ (w : World) (k : K) (b : Bool), (Instr.checkKey b 10000 kt (enc k)).run P w = .ok () w)
  (hn : ∀ a b : K, Instr.sameNow kind (enc a) (enc b) = none) (heq : ∀ (a b : K) (w : World), (Op.equal kt (enc a) (enc b)).run P w = .ok (decide (a = b)) w) (stay : ∀ k, Instr.sameBits 10000 (enc k) (enc k) = true) : KeyEnc P kt enc := by
 refine ⟨check, fun w k es ks h => ?_, stay⟩
 simp only [Instr.findKey, Sem.run_bind, run_underlying hu, Result.andThen_ok]
 cases es with
 | nil =>
  cases ks with
  | nil => simp [Instr.findNow, findIx]
  | cons a ks => simp at h
 | cons e es =>
  cases ks with
  | nil => simp at h
  | cons a ks =>
   have h' := h
   simp only [List.map_cons, List.cons.injEq] at h'
   simp only [Instr.findNow, h'.1, hn]
   exact findAsking_run heq w k _ _ 0 h

theorem keyEnc_now {P : Program} {kt : TypeId} {kind : TypeDesc} {K : Type} [DecidableEq K] {enc : K → Value} (hu : P.underlying kt = some kind) (check : ∀ (w : World) (k : K) (b : Bool), (Instr.checkKey b 10000 kt (enc k)).run P w = .ok () w)
  (hs : ∀ a b : K, Instr.sameNow kind (enc a) (enc b) = some (decide (a = b))) (stay : ∀ k, Instr.sameBits 10000 (enc k) (enc k) = true) : KeyEnc P kt enc := by
 refine ⟨check, fun w k es ks h => ?_, stay⟩
 simp only [Instr.findKey, Sem.run_bind, run_underlying hu, Result.andThen_ok, findNow_run hs k es ks 0 h]
 simp

theorem checkKey_int {P : Program} {t : TypeId} {q : IntKind} (hu : P.underlying t = some (.int q)) (b : Bool) (n : Nat) (k : Int) (w : World) : (Instr.checkKey b (n + 1) t (.int q k)).run P w = .ok () w := by
 rw [Instr.checkKey]
 simp [run_underlying hu]
theorem keyEnc_int {P : Program} {kt : TypeId} {q : IntKind} (hu : P.underlying kt = some (.int q)) : KeyEnc P kt (Value.int q) :=
 keyEnc_now hu (fun w k b => checkKey_int hu b 9999 k w) (fun a b => by simp [Instr.sameNow]; exact (Bool.beq_eq_decide_eq a b)) (fun k => by simp [Instr.sameBits])

theorem findIx_get {K V : Type} [DecidableEq K] {ev : V → Value} (k : K) : ∀ (m : List (K × V)) (es : List MapEntry) (i : Nat), es.map (·.val) = m.map (fun p => ev p.2) →
  (findIx k (m.map (·.1)) es i).map (·.2) = (mget m k).map ev
 | [], _, i, _ => by simp [findIx, mget]
 | (a, v) :: m, [], i, h => by simp at h
 | (a, v) :: m, e :: es, i, h => by
  simp only [List.map_cons, List.cons.injEq] at h
  simp only [List.map_cons, findIx, mget]
  by_cases hak : a = k
  ·simp [hak, h.1]
  ·simp only [hak, if_false]
   exact findIx_get k m es (i + 1) h.2

/-- What a look-up hands back: the element, or the zero. -/
def mval {K V : Type} [DecidableEq K] (z : Value) (ev : V → Value) (m : List (K × V)) (k : K) : Value := ((mget m k).map ev).getD z

theorem lookup_run {P : Program} {t kt et : TypeId} {K V : Type} [DecidableEq K] {enc : K → Value} {ev : V → Value} {z : Value} {w : World} {r : Nat} {m : List (K × V)} (hk : KeyEnc P kt enc) (hT : P.underlying t = some (.map kt et))
  (hz : ∀ w, (zeroValue et).run P w = .ok z w) (h : MapAt w r enc ev m) (k : K) (c : Bool) :
  (Instr.lookup t (.map (some r)) (enc k) c).run P w = .ok (if c then .tuple #[mval z ev m k, .bool (mget m k).isSome] else mval z ev m k) w := by
 obtain ⟨es, cl, h1, h2, _⟩ := h
 have e1 : es.toList.map (·.key) = (m.map (·.1)).map enc := by
  have := congrArg (List.map Prod.fst) h2
  simpa [Function.comp_def] using this
 have e2 : es.toList.map (·.val) = m.map (fun p => ev p.2) := by
  have := congrArg (List.map Prod.snd) h2
  simpa [Function.comp_def] using this
 have e3 := findIx_get k m es.toList 0 e2
 simp only [Instr.lookup, Sem.run_bind, run_underlying hT, Result.andThen_ok]
 have e4 : (getObj r).run P w = .ok (.map es cl) w := by simp [getObj, Sem.run, h1]
 simp only [e4, Result.andThen_ok, Sem.run_bind, Sem.run_pure, hk.check, hk.find w k es.toList _ e1]
 cases hf : findIx k (m.map (·.1)) es.toList 0 with
 | none =>
  rw [hf] at e3
  have e5 : mget m k = none := by cases hh : mget m k <;> simp_all
  simp only [hz, Sem.run_bind, Result.andThen_ok, Sem.run_pure, mval, e5]
  cases c <;> simp
 | some p =>
  obtain ⟨i, v⟩ := p
  rw [hf] at e3
  cases hh : mget m k with
  | none => simp [hh] at e3
  | some x =>
   simp only [hh, Option.map_some, Option.some.injEq] at e3
   subst e3
   simp only [Result.andThen_ok, Sem.run_pure, mval, hh]
   cases c <;> simp

theorem findIx_none_put {K V : Type} [DecidableEq K] (k : K) (v : V) : ∀ (m : List (K × V)) (es : List MapEntry) (i : Nat), es.length = m.length → findIx k (m.map (·.1)) es i = none → mput m k v = m ++ [(k, v)]
 | [], _, _, _, _ => rfl
 | (a, u) :: m, [], _, h, _ => by simp at h
 | (a, u) :: m, e :: es, i, hl, h => by
  simp only [List.map_cons, findIx] at h
  by_cases hak : a = k
  ·simp [hak] at h
  ·simp only [hak, if_false] at h
   simp only [mput, hak, if_false, List.cons_append, findIx_none_put k v m es (i + 1) (by simpa using hl) h]

theorem findIx_some_put {K V : Type} [DecidableEq K] {enc : K → Value} {ev : V → Value} (k : K) (v : V) : ∀ (m : List (K × V)) (es : List MapEntry) (i j : Nat) (x : Value), es.map (fun e => (e.key, e.val)) = m.map (fun p => (enc p.1, ev p.2)) →
  findIx k (m.map (·.1)) es i = some (j, x) → i ≤ j ∧ j - i < es.length ∧ (es.modify (j - i) fun e => { e with key := enc k, val := ev v }).map (fun e => (e.key, e.val)) = (mput m k v).map (fun p => (enc p.1, ev p.2))
   ∧ (es[j - i]?).map (·.key) = some (enc k)
 | [], _, i, j, x, _, h => by simp [findIx] at h
 | (a, u) :: m, [], i, j, x, h, _ => by simp at h
 | (a, u) :: m, e :: es, i, j, x, hm, h => by
  simp only [List.map_cons, List.cons.injEq, Prod.mk.injEq] at hm
  simp only [List.map_cons, findIx] at h
  by_cases hak : a = k
  ·subst hak
   simp only [if_true, Option.some.injEq, Prod.mk.injEq] at h
   obtain ⟨rfl, _⟩ := h
   refine ⟨Nat.le_refl _, by simp, ?_, by simp [hm.1.1]⟩
   simp only [Nat.sub_self, List.modify_zero_cons, List.map_cons, mput, if_true, hm.2]
  ·simp only [hak, if_false] at h
   obtain ⟨h1, h2, h3, h4⟩ := findIx_some_put k v m es (i + 1) j x hm.2 h
   refine ⟨by omega, by simp only [List.length_cons]; omega, ?_, ?_⟩
   ·rw [show j - i = (j - (i + 1)) + 1 from by omega, List.modify_succ_cons]
    simp only [List.map_cons, mput, hak, if_false, h3, hm.1.1, hm.1.2]
   ·rw [show j - i = (j - (i + 1)) + 1 from by omega, List.getElem?_cons_succ]
    exact h4

theorem update_run {P : Program} {t kt et : TypeId} {K V : Type} [DecidableEq K] {enc : K → Value} {ev : V → Value} {w : World} {r : Nat} {m : List (K × V)} (hk : KeyEnc P kt enc) (hT : P.underlying t = some (.map kt et))
  (h : MapAt w r enc ev m) (k : K) (v : V) :
  ∃ w', (Instr.mapUpdate t (.map (some r)) (enc k) (ev v)).run P w = .ok () w' ∧ MapAt w' r enc ev (mput m k v) ∧ w.grownBy w' (some r) := by
 obtain ⟨es, cl, h1, h2, h5, h6⟩ := h
 have hr := lt_of_block h1
 have e1 : es.toList.map (·.key) = (m.map (·.1)).map enc := by
  have := congrArg (List.map Prod.fst) h2
  simpa [Function.comp_def] using this
 have e4 : (getObj r).run P w = .ok (.map es cl) w := by simp [getObj, Sem.run, h1]
 have e5 : ∀ o, (setObj r o).run P w = .ok () { w with heap := w.heap.setIfInBounds r o } := fun o => by simp [setObj, Sem.run, h1]
 have hgrow : ∀ o, w.grownBy { w with heap := w.heap.setIfInBounds r o } (some r) := fun o => ⟨rfl, rfl, rfl, by simp, fun k _ hne => by
  have : r ≠ k := fun e => hne (by rw [e])
  simp [Array.getElem?_setIfInBounds_ne this]⟩
 have hat : ∀ o : Obj, ({ w with heap := w.heap.setIfInBounds r o } : World).heap[r]? = some o := fun o => by simp [hr]
 simp only [Instr.mapUpdate, Sem.run_bind, run_underlying hT, Result.andThen_ok, e4, hk.check, hk.find w k es.toList _ e1]
 cases hf : findIx k (m.map (·.1)) es.toList 0 with
 | none =>
  refine ⟨_, e5 _, ⟨_, _, hat _, ?_, ?_, ?_⟩, hgrow _⟩
  case refine_2 =>
   intro e he
   simp only [Array.toList_push, List.mem_append, List.mem_singleton] at he
   rcases he with he | rfl
   ·exact Nat.lt_succ_of_lt (h5 e he)
   ·exact Nat.lt_succ_self _
  case refine_3 =>
   simp only [Array.toList_push, List.map_append, List.map_cons, List.map_nil]
   refine List.nodup_append.2 ⟨h6, by simp, ?_⟩
   intro a ha b hb
   obtain ⟨e, he, rfl⟩ := List.mem_map.1 ha
   rw [List.mem_singleton] at hb
   have := h5 e he
   omega
  have hl : es.toList.length = m.length := by simpa using congrArg List.length h2
  rw [findIx_none_put k v m es.toList 0 hl hf]
  simp [h2]
 | some p =>
  obtain ⟨j, x⟩ := p
  obtain ⟨_, hj, h3, h4⟩ := findIx_some_put (enc := enc) (ev := ev) k v m es.toList 0 j x h2 hf
  simp only [Nat.sub_zero] at hj h3 h4
  have e6 : ((es[j]?).map (·.key)).getD (enc k) = enc k := by
   have : es[j]? = es.toList[j]? := by simp
   rw [this, h4]; rfl
  refine ⟨_, ?_, ⟨_, _, hat (.map (es.modify j fun e => { e with key := enc k, val := ev v }) cl), ?_, ?_, ?_⟩, hgrow _⟩
  case refine_3 =>
   intro e he
   obtain ⟨i, hi, rfl⟩ := List.mem_iff_getElem.1 he
   have hb : (es.modify j fun e => { e with key := enc k, val := ev v }).toList[i].born = (es.toList[i]'(by simpa using hi)).born := by simp only [Array.getElem_toList, Array.getElem_modify]; split <;> rfl
   rw [hb]
   exact h5 _ (List.getElem_mem _)
  case refine_4 =>
   have hb : (es.modify j fun e => { e with key := enc k, val := ev v }).toList.map (·.born) = es.toList.map (·.born) := by
    apply List.ext_getElem
    ·simp
    ·intro i h1 h2
     simp only [List.getElem_map, Array.getElem_toList, Array.getElem_modify]; split <;> rfl
   rw [hb]; exact h6
  ·simp only [e6, Instr.keyThatStays, hk.stay k, if_true, Sem.run_pure, Result.andThen_ok, Sem.run_bind, e5]
  ·rw [← h3]; simp

/-- 'm[k] = v' at the operation. -/
theorem wpList_update {P : Program} {w : World} {ops : Array Oper} {rest : List Oper} {o : Oper} {a : Act} {Q : Exit → Act → World → Prop}
  (hg : o.guard = none) (mo x vo : Operand) (t : TypeId) (hop : o.op = Op.mapUpdate t mo x vo) {kt et : TypeId} {K V : Type} [DecidableEq K] {enc : K → Value} {ev : V → Value} {r : Nat} {m : List (K × V)} (hk : KeyEnc P kt enc) (hT : P.underlying t = some (.map kt et))
  (k : K) (v : V) (hm : a.eval mo = .map (some r)) (hx : a.eval x = enc k) (hv : a.eval vo = ev v) (h : MapAt w r enc ev m)
  (hK : ∀ w', MapAt w' r enc ev (mput m k v) → w.grownBy w' (some r) → wpList P ops Q rest (a.put o.dst undef) w') : wpList P ops Q (o :: rest) a w := by
 refine wpList_plain hg fun K' hK' => ?_
 obtain ⟨w', hrun, r1, r2⟩ := update_run hk hT h k v
 unfold Oper.wp
 simp [execOp, hop, hm, hx, hv, hrun, Result.andThen]
 exact hK' _ _ (hK w' r1 r2)

/-! ### Keys that are structs of two or three whole numbers -/
abbrev T3 := Int × Int × Int
abbrev T2 := Int × Int
def encT3 (x : T3) : Value := .agg #[.int .i64 x.1, .int .i64 x.2.1, .int .i64 x.2.2]
def encT2 (x : T2) : Value := .agg #[.int .i64 x.1, .int .i64 x.2]
def i64 (n : Int) : Value := .int .i64 n

theorem keyEnc_T3 {P : Program} {kt ti : TypeId} {n0 n1 n2 : String} {fs : Array Field} {f0 f1 f2 : Field} (hu : P.underlying kt = some (.struct fs)) (hfs : fs = #[f0, f1, f2]) (hi : P.underlying ti = some (.int .i64)) (hs : P.stoodInHeld kt = false)
  (h0 : f0.name = n0 ∧ f0.type = ti ∧ f0.offset = 0) (h1 : f1.name = n1 ∧ f1.type = ti ∧ f1.offset = 1) (h2 : f2.name = n2 ∧ f2.type = ti ∧ f2.offset = 2) (hn : n0 ≠ "_" ∧ n1 ≠ "_" ∧ n2 ≠ "_") : KeyEnc P kt encT3 := by
 obtain ⟨a0, a1, a2⟩ := h0
 obtain ⟨b0, b1, b2⟩ := h1
 obtain ⟨c0, c1, c2⟩ := h2
 have hag : ∀ w, (isAgg ti).run P w = .ok false w := fun w => by simp [isAgg, run_underlying hi]
 have hpart : ∀ (w : World) (cs : Array Value) (i : Nat) (v : Value), cs[i]? = some v → (part ti cs i).run P w = .ok v w := fun w cs i v h => by simp [part, hag, h]
 subst hfs
 refine keyEnc_asked hu (fun w k b => ?_) (fun a b => rfl) (fun a b w => ?_) (fun k => ?_)
 ·have hck : ∀ v : Int, (Instr.checkKey b 9999 ti (.int .i64 v)).run P w = .ok () w := fun v => checkKey_int hi b 9998 v w
  rw [show (10000 : Nat) = 9999 + 1 from rfl, Instr.checkKey]
  simp only [encT3, Sem.run_bind, run_underlying hu, Result.andThen_ok]
  rw [← Array.forIn_toList]
  simp only [List.forIn_cons, List.forIn_nil, a0, a1, a2, b0, b1, b2, c0, c1, c2, ne_eq, hn.1, hn.2.1, hn.2.2, not_false_eq_true, if_true, Sem.run_bind]
  rw [hpart w _ 0 (.int .i64 k.1) rfl]
  simp only [Result.andThen_ok, hck, Sem.run_bind, Sem.run_pure]
  rw [hpart w _ 1 (.int .i64 k.2.1) rfl]
  simp only [Result.andThen_ok, hck, Sem.run_bind, Sem.run_pure]
  rw [hpart w _ 2 (.int .i64 k.2.2) rfl]
  simp only [Result.andThen_ok, hck, Sem.run_bind, Sem.run_pure]
 ·have hf : P.fieldsOf kt = #[f0, f1, f2] := by simp [Program.fieldsOf, hu]
  have he := run_equalIn_struct (P := P) w 9999 kt #[.int .i64 a.1, .int .i64 a.2.1, .int .i64 a.2.2] #[.int .i64 b.1, .int .i64 b.2.1, .int .i64 b.2.2] (by rw [hf]; exact hu) hs
  show (Op.equalIn 10000 kt _ _).run P w = _
  rw [show encT3 a = .agg #[.int .i64 a.1, .int .i64 a.2.1, .int .i64 a.2.2] from rfl, show encT3 b = .agg #[.int .i64 b.1, .int .i64 b.2.1, .int .i64 b.2.2] from rfl, he, hf]
  obtain ⟨x, y, z⟩ := a
  obtain ⟨x', y', z'⟩ := b
  simp only [Op.eqFields, a0, a1, a2, b0, b1, b2, c0, c1, c2, ne_eq, hn.1, hn.2.1, hn.2.2, not_false_eq_true, if_true, Sem.run_bind]
  rw [hpart w _ 0 (.int .i64 x) rfl, Result.andThen_ok, hpart w _ 0 (.int .i64 x') rfl, Result.andThen_ok, run_equalIn_int w _ ti .i64 .i64 _ _ hi, Result.andThen_ok]
  by_cases e1 : x = x'
  ·subst e1
   simp only [beq_self_eq_true, Bool.not_true, Bool.false_eq_true, if_false, Sem.run_bind]
   rw [hpart w _ 1 (.int .i64 y) rfl, Result.andThen_ok, hpart w _ 1 (.int .i64 y') rfl, Result.andThen_ok, run_equalIn_int w _ ti .i64 .i64 _ _ hi, Result.andThen_ok]
   by_cases e2 : y = y'
   ·subst e2
    simp only [beq_self_eq_true, Bool.not_true, Bool.false_eq_true, if_false, Sem.run_bind]
    rw [hpart w _ 2 (.int .i64 z) rfl, Result.andThen_ok, hpart w _ 2 (.int .i64 z') rfl, Result.andThen_ok, run_equalIn_int w _ ti .i64 .i64 _ _ hi, Result.andThen_ok]
    by_cases e3 : z = z'
    ·subst e3; simp
    ·simp [e3, beq_eq_false_iff_ne.2 e3]
   ·simp [e2, beq_eq_false_iff_ne.2 e2]
  ·simp [e1, beq_eq_false_iff_ne.2 e1]
 ·simp [encT3, Instr.sameBits]

theorem call_enter {P : Program} {f : FuncId} {fn : Func} {c : Code} (hf : P.funcs[f]? = some fn) (hname : (fn.name == "runtime.NumGoroutine") = false) (hb : fn.body = some c) (args : Array Value) (w : World) :
  (callFunc f args).run P w = .ok (.enter f args) w := by
 have hn : ¬ fn.name = "runtime.NumGoroutine" := by simpa using hname
 simp [callFunc, hf, hn, hb]

/-! ### Who owns which blocks -/
def Moves (own : Nat → Prop) (w : World) (own' : Nat → Prop) (w' : World) : Prop := Frm own w w' ∧ ∀ b, own' b → own b ∨ w.heap.size ≤ b
theorem Moves.refl (own : Nat → Prop) (w : World) : Moves own w own w := ⟨Frm.refl _ _, fun _ h => .inl h⟩
theorem Moves.trans {o1 o2 o3 : Nat → Prop} {w1 w2 w3 : World} (h : Moves o1 w1 o2 w2) (k : Moves o2 w2 o3 w3) : Moves o1 w1 o3 w3 :=
 ⟨h.1.trans k.1 fun x hx hk => by rcases h.2 x hk with h1 | h1; exact h1; omega, fun b hb => by
  rcases k.2 b hb with h1 | h1
  ·exact h.2 b h1
  ·exact .inr (Nat.le_trans h.1.size h1)⟩
theorem Moves.of_frm {own own' : Nat → Prop} {w w' : World} (h : Frm own w w') (ho : ∀ b, own' b → own b ∨ w.heap.size ≤ b) : Moves own w own' w' := ⟨h, ho⟩
theorem Moves.keep {own own' : Nat → Prop} {w w' : World} (h : Moves own w own' w') {b : Nat} {x : Obj} (hb : w.heap[b]? = some x) (ho : ¬ own b) : w'.heap[b]? = some x ∧ ¬ own' b := by
 refine ⟨blk_frm hb h.1 ho, fun h1 => ?_⟩
 rcases h.2 b h1 with h2 | h2
 ·exact ho h2
 ·have := lt_of_block hb; omega

end Go.Mem
