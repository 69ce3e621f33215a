/- The pool in memory. -/
import Derived.Test.YtbbajekecppioaaGreatDoorGa08
import Derived.Test.YtbbajekecppioaaGreatDoorGa04
set_option linter.unusedSimpArgs false
set_option linter.unusedVariables false
namespace Go.Proofs.YtbbajekecppioaaGreatDoor
open Go.RowKit Go.Mem Go.Wd Go.Tp
namespace TmW
def encTy (t : Ty) : Value := .agg #[.int .i64 t.1, .bool t.2]
theorem info_node : (Tryz.prog.info? 76).map (fun i => (i.zero, i.size, i.bytes)) = some (some (.agg #[.string ⟨#[]⟩, .int .i64 0, .bool false, .int .u64 0, .int .i64 0, .slice none 0 0]), 6, 72) := by kernel_rfl
theorem keyInt : KeyEnc Tryz.prog 3 (Value.int .i64) := keyEnc_int Tryz.underlying3
theorem zeroInt (w : World) : (zeroValue 3).run Tryz.prog w = .ok (.int .i64 0) w := by kernel_rfl
theorem zeroTy (w : World) : (zeroValue 23).run Tryz.prog w = .ok (.agg #[.int .i64 0, .bool false]) w := by kernel_rfl
def ncell (n : TNode) (kv : Value) : List Value := [.string n.op, .int .i64 n.t.1, .bool n.t.2, .int .u64 n.num, .int .i64 n.v, kv]
def ncells : List TNode → List Value → List Value
  | n :: l, kv :: ks => ncell n kv ++ ncells l ks
  | _, _ => []
theorem ncells_snoc : ∀ (l : List TNode) (ks : List Value) (n : TNode) (kv : Value), ks.length = l.length → ncells (l ++ [n]) (ks ++ [kv]) = ncells l ks ++ ncell n kv
  | [], [], n, kv, _ => by simp [ncells]
  | [], _ :: _, _, _, h => by simp at h
  | _ :: _, [], _, _, h => by simp at h
  | m :: l, k :: ks, n, kv, h => by simp only [List.cons_append, ncells, ncells_snoc l ks n kv (by simpa using h), List.append_assoc]
theorem ncells_get : ∀ (l : List TNode) (ks : List Value) (i : Nat) (n : TNode) (kv : Value), ks.length = l.length → l[i]? = some n → ks[i]? = some kv → ∀ j x, (ncell n kv)[j]? = some x → (ncells l ks)[i * 6 + j]? = some x
  | [], _, i, n, kv, _, h, _, _, _, _ => by simp at h
  | _ :: _, [], _, _, _, h, _, _, _, _, _ => by simp at h
  | m :: l, k :: ks, 0, n, kv, _, h1, h2, j, x, h3 => by
    simp only [List.getElem?_cons_zero, Option.some.injEq] at h1 h2
    subst h1; subst h2
    have hj : j < 6 := by have := (List.getElem?_eq_some_iff.1 h3).1; simpa [ncell] using this
    rw [ncells, Nat.zero_mul, Nat.zero_add, List.getElem?_append_left (by simpa [ncell] using hj)]
    exact h3
  | m :: l, k :: ks, i + 1, n, kv, h, h1, h2, j, x, h3 => by
    have ih := ncells_get l ks i n kv (by simpa using h) (by simpa using h1) (by simpa using h2) j x h3
    rw [ncells, List.getElem?_append_right (by simp [ncell]; omega)]
    rw [show (i + 1) * 6 + j - (ncell m k).length = i * 6 + j by simp [ncell]; omega]
    exact ih
theorem ncells_len : ∀ (l : List TNode) (ks : List Value), ks.length = l.length → (ncells l ks).length = l.length * 6
  | [], _, _ => by simp [ncells]
  | _ :: _, [], h => by simp at h
  | m :: l, k :: ks, h => by
    have := ncells_len l ks (by simpa using h)
    simp only [ncells, List.length_append, this, List.length_cons, ncell, List.length_nil]
    omega

structure PParts (w : World) (own : Nat → Prop) (p : Nat) (s : TPool) (lv : Value) (bf bt : Nat) (kvs : List Value) : Prop where
  blk : w.heap[p]? = some (.cells #[lv, .map (some bf), .map (some bt)] 58 (0, 0))
  row : w.ownsRow 0 76 6 lv s.l.length (ncells s.l kvs)
  kvl : kvs.length = s.l.length
  kids : ∀ (i : Nat) (n : TNode), s.l[i]? = some n → ∃ kv, kvs[i]? = some kv ∧ Row w 3 (Value.int .i64) kv n.kids ∧ ∀ g, kv.ownBlock = some g → own g
  rowOwn : ∀ g, lv.ownBlock = some g → own g
  ne : bf ≠ bt
  ownf : own bf
  ownt : own bt
  find : MapAt w bf Value.string (Value.int .i64) s.find
  types : MapAt w bt (Value.int .i64) encTy s.types
  me : own p
  lt : ∀ b, own b → b < w.heap.size
  lo : ∀ b, own b → 2 ≤ b
def PoolAt (w : World) (own : Nat → Prop) (p : Nat) (s : TPool) : Prop := ∃ lv bf bt kvs, PParts w own p s lv bf bt kvs
theorem PParts.frm {S : Nat → Prop} {w w' : World} {own : Nat → Prop} {p : Nat} {s : TPool} {lv : Value} {bf bt : Nat} {kvs : List Value} (H : PParts w own p s lv bf bt kvs) (hf : Frm S w w') (hS : ∀ b, own b → ¬ S b) : PParts w' own p s lv bf bt kvs :=
  ⟨blk_frm H.blk hf (hS p H.me), own_frm H.row hf fun g hg => hS g (H.rowOwn g hg), H.kvl, fun i n hn => by
    obtain ⟨kv, a, b, c⟩ := H.kids i n hn
    exact ⟨kv, a, b.frm hf fun g hg => hS g (c g hg), c⟩, H.rowOwn, H.ne, H.ownf, H.ownt, H.find.frm hf (hS _ H.ownf), H.types.frm hf (hS _ H.ownt), H.me, fun b hb => Nat.lt_of_lt_of_le (H.lt b hb) hf.size, H.lo⟩
theorem PoolAt.frm {S : Nat → Prop} {w w' : World} {own : Nat → Prop} {p : Nat} {s : TPool} (h : PoolAt w own p s) (hf : Frm S w w') (hS : ∀ b, own b → ¬ S b) : PoolAt w' own p s := by
  obtain ⟨lv, bf, bt, kvs, H⟩ := h
  exact ⟨lv, bf, bt, kvs, H.frm hf hS⟩
theorem PoolAt.frm0 {w w' : World} {own : Nat → Prop} {p : Nat} {s : TPool} (h : PoolAt w own p s) (hf : Frm (fun _ => False) w w') : PoolAt w' own p s := h.frm hf fun _ _ => id
theorem PoolAt.alloc {w : World} {own : Nat → Prop} {p : Nat} {s : TPool} (h : PoolAt w own p s) (o : Obj) : PoolAt (w.alloc o) own p s := h.frm0 (frm_alloc _ _)
theorem PoolAt.drew {w : World} {own : Nat → Prop} {p : Nat} {s : TPool} (h : PoolAt w own p s) : PoolAt w.drew own p s := h.frm0 (Frm.refl _ _).drew
theorem PoolAt.drewN {w : World} {own : Nat → Prop} {p : Nat} {s : TPool} (h : PoolAt w own p s) (n : Nat) : PoolAt (w.drewN n) own p s := h.frm0 ((Frm.refl _ _).drewN n)
/-- More blocks may be counted as the pool's. -/
theorem PoolAt.more {w : World} {own own' : Nat → Prop} {p : Nat} {s : TPool} (h : PoolAt w own p s) (hm : ∀ b, own b → own' b) (hl : ∀ b, own' b → own b ∨ (b < w.heap.size ∧ 2 ≤ b)) : PoolAt w own' p s := by
  obtain ⟨lv, bf, bt, kvs, H⟩ := h
  exact ⟨lv, bf, bt, kvs, H.blk, H.row, H.kvl, fun i n hn => by
    obtain ⟨kv, a, b, c⟩ := H.kids i n hn
    exact ⟨kv, a, b, fun g hg => hm g (c g hg)⟩, fun g hg => hm g (H.rowOwn g hg), H.ne, hm _ H.ownf, hm _ H.ownt, H.find, H.types, hm _ H.me, fun b hb => by
    rcases hl b hb with h | h
    · exact H.lt b h
    · exact h.1, fun b hb => by
    rcases hl b hb with h | h
    · exact H.lo b h
    · exact h.2⟩
theorem PoolAt.lt {w : World} {own : Nat → Prop} {p : Nat} {s : TPool} (h : PoolAt w own p s) : ∀ b, own b → b < w.heap.size := by obtain ⟨_, _, _, _, H⟩ := h; exact H.lt
theorem PoolAt.lo {w : World} {own : Nat → Prop} {p : Nat} {s : TPool} (h : PoolAt w own p s) : ∀ b, own b → 2 ≤ b := by obtain ⟨_, _, _, _, H⟩ := h; exact H.lo
theorem PoolAt.me {w : World} {own : Nat → Prop} {p : Nat} {s : TPool} (h : PoolAt w own p s) : own p := by obtain ⟨_, _, _, _, H⟩ := h; exact H.me
/-- Rows of whole numbers stay as they are. -/
def IntKept (w w' : World) : Prop := ∀ (b : Nat) (cs : Array Value), w.heap[b]? = some (.cells cs 3 (0, 0)) → w'.heap[b]? = some (.cells cs 3 (0, 0))
def PMoves (own : Nat → Prop) (w : World) (own' : Nat → Prop) (w' : World) : Prop := Frm own w w' ∧ (∀ b, own' b → own b ∨ w.heap.size ≤ b) ∧ IntKept w w'
theorem kept_frm0 {w w' : World} (hf : Frm (fun _ => False) w w') : IntKept w w' := fun b _ h => blk_frm h hf id
theorem PMoves.of0 {own : Nat → Prop} {w w' : World} (hf : Frm (fun _ => False) w w') : PMoves own w own w' := ⟨hf.mono fun _ _ h => h.elim, fun _ h => .inl h, kept_frm0 hf⟩
theorem PMoves.trans {o1 o2 o3 : Nat → Prop} {w1 w2 w3 : World} (h : PMoves o1 w1 o2 w2) (k : PMoves o2 w2 o3 w3) : PMoves o1 w1 o3 w3 :=
  ⟨(Moves.trans ⟨h.1, h.2.1⟩ ⟨k.1, k.2.1⟩).1, (Moves.trans ⟨h.1, h.2.1⟩ ⟨k.1, k.2.1⟩).2, fun b cs hb => k.2.2 b cs (h.2.2 b cs hb)⟩
theorem Row.kept {w w' : World} {v : Value} {l : List Int} (h : Row w 3 (Value.int .i64) v l) (hk : IntKept w w') : Row w' 3 (Value.int .i64) v l :=
  own_of_block h fun g hg => by
    obtain ⟨cur, hc⟩ := own_elem (show w.ownsRow 0 3 1 v l.length (l.map (Value.int .i64)) from h) hg
    rw [hc, hk g cur hc]
theorem Env.moves {own own' : Nat → Prop} {w w' : World} (h : Env w) (hm : PMoves own w own' w') (hl : ∀ b, own b → 2 ≤ b) : Env w' :=
  h.frm hm.1 (fun e => by have := hl _ e; omega) (fun e => by have := hl _ e; omega)
theorem PParts.cells {w : World} {own : Nat → Prop} {p : Nat} {s : TPool} {lv : Value} {bf bt : Nat} {kvs : List Value} (H : PParts w own p s lv bf bt kvs) :
    w.cell? ⟨p, 0, none⟩ = some lv ∧ w.cell? ⟨p, 1, none⟩ = some (.map (some bf)) ∧ w.cell? ⟨p, 2, none⟩ = some (.map (some bt)) ∧ ∀ i, w.frozen? ⟨p, i, none⟩ = false :=
  ⟨blk_cell H.blk 0, blk_cell H.blk 1, blk_cell H.blk 2, fun i => blk_free H.blk i⟩
/-- The list of nodes, as it is read. -/
def RowIs (w : World) (own : Nat → Prop) (l : List TNode) (kvs : List Value) (A : Option Addr) : Prop :=
  ∀ (f : Int) (n : TNode), nth l f = some n → ∃ g kv, A = some ⟨g, 0, none⟩ ∧ own g ∧ g < w.heap.size ∧ kvs[f.toNat]? = some kv ∧ Row w 3 (Value.int .i64) kv n.kids ∧ (∀ b, kv.ownBlock = some b → own b) ∧
    w.cell? ⟨g, f.toNat * 6, none⟩ = some (.string n.op) ∧ w.cell? ⟨g, f.toNat * 6 + 1, none⟩ = some (.int .i64 n.t.1) ∧ w.cell? ⟨g, f.toNat * 6 + 2, none⟩ = some (.bool n.t.2) ∧ w.cell? ⟨g, f.toNat * 6 + 3, none⟩ = some (.int .u64 n.num) ∧ w.cell? ⟨g, f.toNat * 6 + 4, none⟩ = some (.int .i64 n.v) ∧ w.cell? ⟨g, f.toNat * 6 + 5, none⟩ = some kv
theorem PParts.slice {w : World} {own : Nat → Prop} {p : Nat} {s : TPool} {lv : Value} {bf bt : Nat} {kvs : List Value} (H : PParts w own p s lv bf bt kvs) : ∃ A cap, lv = .slice A s.l.length cap ∧ RowIs w own s.l kvs A := by
  have hc := fun g => World.ownsRow.cells H.row (g := g)
  have hrow := H.row
  obtain ⟨h1, ⟨h2, h3⟩ | ⟨g, cap, cur, e, hb, hg, r⟩⟩ := hrow
  · refine ⟨none, 0, by rw [h2]; simp [h3], fun f n hn => ?_⟩
    have : s.l = [] := List.eq_nil_of_length_eq_zero h3
    rw [this] at hn
    unfold nth at hn
    split at hn <;> simp at hn
  · have hg' : lv.ownBlock = some g := by rw [e]; rfl
    refine ⟨some ⟨g, 0, none⟩, cap, e, fun f n hn => ?_⟩
    unfold nth at hn
    split at hn
    · obtain ⟨kv, k1, k2, k3⟩ := H.kids _ n hn
      have hget := ncells_get s.l kvs f.toNat n kv H.kvl hn k1
      have hcell : ∀ j x, (ncell n kv)[j]? = some x → w.cell? ⟨g, f.toNat * 6 + j, none⟩ = some x := fun j x hx => by
        have k := hc g hg' _ _ (hget j x hx)
        simp only [Addr.add] at k
        by_cases hz : f.toNat * 6 + j = 0
        · rw [if_pos hz] at k; rw [hz]; exact k
        · rw [if_neg hz] at k; simpa using k
      refine ⟨g, kv, rfl, H.rowOwn g hg', H.lt g (H.rowOwn g hg'), k1, k2, k3, ?_, ?_, ?_, ?_, ?_, ?_⟩
      · simpa using hcell 0 _ rfl
      · exact hcell 1 _ rfl
      · exact hcell 2 _ rfl
      · exact hcell 3 _ rfl
      · exact hcell 4 _ rfl
      · exact hcell 5 _ rfl
    · cases hn
/-- Its blocks lie apart. -/
theorem PParts.apart {w : World} {own : Nat → Prop} {p : Nat} {s : TPool} {lv : Value} {bf bt : Nat} {kvs : List Value} (H : PParts w own p s lv bf bt kvs) :
    bf ≠ p ∧ bt ≠ p ∧ (∀ g, lv.ownBlock = some g → g ≠ p ∧ g ≠ bf ∧ g ≠ bt) ∧ ∀ (v : Value) (l : List Int) g, Row w 3 (Value.int .i64) v l → v.ownBlock = some g → g ≠ p ∧ g ≠ bf ∧ g ≠ bt ∧ lv.ownBlock ≠ some g := by
  obtain ⟨es, c, hm, _⟩ := H.find
  obtain ⟨es', c', hm', _⟩ := H.types
  have hp := H.blk
  refine ⟨fun e => ?_, fun e => ?_, fun g hg => ?_, fun v l g hv hg => ?_⟩
  · subst e; rw [hm] at hp; cases hp
  · subst e; rw [hm'] at hp; cases hp
  · obtain ⟨cur, hc⟩ := own_elem H.row hg
    refine ⟨fun e => ?_, fun e => ?_, fun e => ?_⟩
    · subst e; rw [hc] at hp; simp at hp
    · subst e; rw [hc] at hm; simp at hm
    · subst e; rw [hc] at hm'; simp at hm'
  · obtain ⟨cur, hc⟩ := own_elem (show w.ownsRow 0 3 1 v l.length (l.map (Value.int .i64)) from hv) hg
    refine ⟨fun e => ?_, fun e => ?_, fun e => ?_, fun e => ?_⟩
    · subst e; rw [hc] at hp; simp at hp
    · subst e; rw [hc] at hm; simp at hm
    · subst e; rw [hc] at hm'; simp at hm'
    · obtain ⟨cur', hc'⟩ := own_elem H.row e
      rw [hc] at hc'; simp at hc'
/-- What a call on the pool leaves. -/
def TPost (own : Nat → Prop) (w : World) (p : Nat) (ret : Value) (s' : TPool) (e : Ending) (w' : World) : Prop := e = .returned ret ∧ ∃ own', PoolAt w' own' p s' ∧ PMoves own w own' w'
end TmW
end Go.Proofs.YtbbajekecppioaaGreatDoor
/- The pool's readings walked: New, has, Type, Const, isNum. -/
namespace Go.Proofs.YtbbajekecppioaaGreatDoor
open Go.RowKit Go.Mem Go.Wd Go.Tp
namespace TmW
theorem PoolAt.len {w : World} {own : Nat → Prop} {p : Nat} {s : TPool} (h : PoolAt w own p s) : ∃ A cap, w.cell? ⟨p, 0, none⟩ = some (.slice A s.l.length cap) := by
  obtain ⟨lv, bf, bt, kvs, H⟩ := h
  obtain ⟨A, cap, rfl, _⟩ := H.slice
  exact ⟨A, cap, H.cells.1⟩
/-- Reading one node. -/
theorem PoolAt.node {w : World} {own : Nat → Prop} {p : Nat} {s : TPool} (h : PoolAt w own p s) {f : Int} {n : TNode} (hn : nth s.l f = some n) : ∃ g cap kv, w.cell? ⟨p, 0, none⟩ = some (.slice (some ⟨g, 0, none⟩) s.l.length cap) ∧
    own g ∧ Row w 3 (Value.int .i64) kv n.kids ∧ (∀ b, kv.ownBlock = some b → own b) ∧
    w.cell? ⟨g, f.toNat * 6, none⟩ = some (.string n.op) ∧ w.cell? ⟨g, f.toNat * 6 + 1, none⟩ = some (.int .i64 n.t.1) ∧ w.cell? ⟨g, f.toNat * 6 + 2, none⟩ = some (.bool n.t.2) ∧ w.cell? ⟨g, f.toNat * 6 + 3, none⟩ = some (.int .u64 n.num) ∧ w.cell? ⟨g, f.toNat * 6 + 4, none⟩ = some (.int .i64 n.v) ∧ w.cell? ⟨g, f.toNat * 6 + 5, none⟩ = some kv := by
  obtain ⟨lv, bf, bt, kvs, H⟩ := h
  obtain ⟨A, cap, rfl, hR⟩ := H.slice
  obtain ⟨g, kv, rfl, h1, h2, h3, h4, h5, h6⟩ := hR f n hn
  exact ⟨g, cap, kv, H.cells.1, h1, h4, h5, h6⟩
theorem nth_lt {l : List TNode} {f : Int} {n : TNode} (h : nth l f = some n) : 0 ≤ f ∧ f < l.length := by
  unfold nth at h
  split at h
  · have := (List.getElem?_eq_some_iff.1 h).1; omega
  · cases h
theorem nth_some {l : List TNode} {f : Int} (h : 0 ≤ f ∧ f < l.length) : ∃ n, nth l f = some n := by
  unfold nth
  rw [if_pos h.1]
  exact ⟨_, List.getElem?_eq_getElem (by omega)⟩
def inP (s : TPool) (x : Int) : Bool := decide (0 ≤ x ∧ x < s.l.length)
set_option maxHeartbeats 1000000 in
theorem New_calls (w : World) (hE : Env w) :
    Calls Tryz.prog 6 #[] w fun e w' => ∃ own p, e = .returned (.pointer (some ⟨p, 0, none⟩)) ∧ PoolAt w' own p empty ∧ (∀ b, own b → w.heap.size ≤ b) ∧ Frm (fun _ => False) w w' := by
  have h2 := tabIs_lt hE.pow
  have hmm := @run_makeMap Tryz.prog
  clear hE
  go_enter Tryz.func6, Tryz.ntmps6
  go_wp2
  go_ret
  refine ⟨fun b => w.heap.size ≤ b ∧ b < w.heap.size + 3, w.heap.size + 2, rfl, ⟨.slice none 0 0, w.heap.size, w.heap.size + 1, [], ?_⟩, fun b hb => hb.1, (((Frm.refl _ w).alloc _).alloc _).alloc _⟩
  refine ⟨?_, ⟨?_, .inl ⟨rfl, rfl⟩⟩, rfl, fun i n h => by simp [empty] at h, fun g hg => (by cases hg), by omega, ⟨by omega, by omega⟩, ⟨by omega, by omega⟩, ?_, ?_, ⟨by omega, by omega⟩, fun b hb => ?_, fun b hb => by omega⟩
  · exact blk_new_at _ (by simp)
  · simp [empty, ncells]
  · exact (((mapAt_new w Value.string (Value.int .i64)).frm (frm_alloc _ _) id).frm (frm_alloc _ _) id)
  · have := (mapAt_new (w.alloc (.map #[] 0)) (Value.int .i64) encTy).frm (frm_alloc _ (.cells #[.slice none 0 0, .map (some w.heap.size), .map (some (w.heap.size + 1))] 58)) id
    simpa [empty] using this
  · have := hb.2
    simp
    omega
set_option maxHeartbeats 1000000 in
theorem has1_calls {w : World} {own : Nat → Prop} {p pl : Nat} {s : TPool} (h : PoolAt w own p s) (hl : w.heap[pl]? = some (.cells #[.pointer (some ⟨p, 0, none⟩)] 32)) (x : Int) :
    Calls Tryz.prog 54 (#[.int .i64 x] ++ #[.pointer (some ⟨pl, 0, none⟩)]) w fun e w' => e = .returned (.bool (!inP s x)) ∧ w = w' := by
  show Calls Tryz.prog 54 #[.int .i64 x, .pointer (some ⟨pl, 0, none⟩)] w _
  obtain ⟨A, cap, c2⟩ := h.len
  have c0 : w.cell? ⟨pl, 0, none⟩ = some (.pointer (some ⟨p, 0, none⟩)) := blk_cell hl 0
  by_cases h0 : x < 0
  · have hv : inP s x = false := by simp [inP]; omega
    have d0 : decide (x < 0) = true := by simp [h0]
    have Hv := Lib.hid hv
    clear hv h0
    go_enter Tryz.func54, Tryz.ntmps54
    go_wp2
    go_ret
    exact ⟨by rw [Hv.out]; rfl, rfl⟩
  · have hv : inP s x = !decide (x ≥ (s.l.length : Int)) := by simp [inP]; rw [Bool.eq_iff_iff]; simp; omega
    have d0 : decide (x < 0) = false := by simp; omega
    have Hv := Lib.hid hv
    clear hv h0
    go_enter Tryz.func54, Tryz.ntmps54
    go_wp2
    go_ret
    exact ⟨by rw [Hv.out, Bool.not_not]; rfl, rfl⟩
theorem has_calls {w : World} {own : Nat → Prop} {p : Nat} {s : TPool} (h : PoolAt w own p s) (v : Value) (xs : List Int) (hv : Sees w (Value.int .i64) v xs) :
    Calls Tryz.prog 27 #[.pointer (some ⟨p, 0, none⟩), v] w fun e w' => e = .returned (.bool (xs.all (inP s))) ∧ Frm (fun _ => False) w w' := by
  have hcf := fun (x : Int) w => call_enter (P := Tryz.prog) (f := 54) Tryz.func54 (by kernel_rfl) rfl (#[.int .i64 x] ++ #[.pointer (some ⟨w.heap.size, 0, none⟩)]) w
  have hF : Frm (fun _ => False) w (w.alloc (.cells #[.pointer (some ⟨p, 0, none⟩)] 32)) := (Frm.refl _ w).alloc _
  have HF := Lib.hid hF
  have Hc := Lib.hid (Sl.containsFunc_calls 54 #[.pointer (some ⟨w.heap.size, 0, none⟩)] (fun x => !inP s x) v xs (w.alloc (.cells #[.pointer (some ⟨p, 0, none⟩)] 32)) (hv.frm hF fun _ _ _ => id)
    (fun x w' => call_enter (P := Tryz.prog) (f := 54) Tryz.func54 (by kernel_rfl) rfl _ w') (fun x => has1_calls (h.alloc _) (blk_new _) x))
  have hmf : ∀ (fn : Fn) (first cap : Array Value) (w : World), (Instr.makeFunc fn first cap).run Tryz.prog w = .ok (.func fn first cap) w := fun _ _ _ _ => rfl
  have hnot : ∀ (x : Bool) (w : World), (Op.unary .not (.bool x)).run Tryz.prog w = .ok (.bool (!x)) w := fun _ _ => rfl
  have hfin : (!xs.any (fun x => !inP s x)) = xs.all (inP s) := by simp [List.all_eq_not_any_not]
  have Hfin := Lib.hid hfin
  clear hfin hcf hv h hF
  generalize xs.any (fun x => !inP s x) = b at *
  go_enter Tryz.func27, Tryz.ntmps27
  go_wp2_with fail
  refine Hc.out.mono ?_
  rintro e w' ⟨rfl, rfl⟩
  go_wp2
  go_ret
  exact ⟨by rw [← Hfin.out]; rfl, HF.out⟩
theorem has1 {w : World} {own : Nat → Prop} {p : Nat} {s : TPool} (h : PoolAt w own p s) (f : Int) (b : Nat) (hb : b = w.heap.size) :
    Calls Tryz.prog 27 #[.pointer (some ⟨p, 0, none⟩), .slice (some ⟨b, 0, none⟩) 1 1] (w.alloc (.cells #[.int .i64 f] 3)) fun e w' => e = .returned (.bool (inP s f)) ∧ Frm (fun _ => False) w w' := by
  subst hb
  exact (has_calls (h.alloc (.cells #[.int .i64 f] 3)) (.slice (some ⟨w.heap.size, 0, none⟩) 1 1) [f] (sees_of_blk (blk_new _) rfl rfl (by decide))).mono fun e w' ⟨a, b⟩ => ⟨by rw [a]; simp, frm_then (frm_alloc _ _) b⟩
def typeF (s : TPool) (f : Int) : Ty := match nth s.l f with | some n => n.t | none => (0, false)
theorem nth_in {s : TPool} {f : Int} {n : TNode} (h : nth s.l f = some n) : inP s f = true := by
  have := nth_lt h
  simp [inP]; omega
theorem nth_out {s : TPool} {f : Int} (h : nth s.l f = none) : inP s f = false := by
  cases hi : inP s f with
  | false => rfl
  | true =>
    have : 0 ≤ f ∧ f < s.l.length := by simpa [inP] using hi
    obtain ⟨n, hn⟩ := nth_some this
    rw [hn] at h; cases h
set_option maxRecDepth 100000 in
set_option maxHeartbeats 1000000 in
theorem Type_calls {w : World} {own : Nat → Prop} {p : Nat} {s : TPool} (h : PoolAt w own p s) (f : Int) :
    Calls Tryz.prog 13 #[.pointer (some ⟨p, 0, none⟩), .int .i64 f] w fun e w' => e = .returned (.agg #[.int .i64 (typeF s f).1, .bool (typeF s f).2]) ∧ Frm (fun _ => False) w w' := by
  have HH := Lib.hid (has1 (h.alloc (.cells #[.int .i64 0, .bool false] 23)) f (w.heap.size + 1) (by simp))
  have HP := Lib.hid (h.alloc (.cells #[.int .i64 0, .bool false] 23))
  have hb0 := Lib.hid (blk_new (w := w) (.cells #[.int .i64 0, .bool false] 23))
  cases hn : nth s.l f with
  | none =>
    have hs : Hid (typeF s f = (0, false)) := Lib.hid (by unfold typeF; rw [hn])
    rw [nth_out hn] at HH
    clear h hn
    go_enter Tryz.func13, Tryz.ntmps13
    go_wp2_with fail
    refine HH.out.mono ?_
    rintro e w1 ⟨rfl, hf⟩
    obtain ⟨hb, c0, c1⟩ := box_at hb0.out hf
    have fz0 := blk_free hb 0
    have fz1 := blk_free hb 1
    have HF := Lib.hid (frm_then (frm_alloc w (.cells #[.int .i64 0, .bool false] 23)) hf)
    clear hf hb
    go_wp2
    refine bodyPost_ret (v := .agg #[.int .i64 0, .bool false]) ?_ rfl ⟨by rw [hs.out], (HF.out.set (p := ⟨w.heap.size, 0, none⟩) (.inr (Nat.le_refl _)) _).set (p := ⟨w.heap.size, 1, none⟩) (.inr (Nat.le_refl _)) _⟩
    simp [results, Tryz.results13, go_sem, c0, c1]
  | some n =>
    have hs : Hid (typeF s f = n.t) := Lib.hid (by unfold typeF; rw [hn])
    have Hn := Lib.hid hn
    rw [nth_in hn] at HH
    obtain ⟨l0, l1⟩ := nth_lt hn
    clear h hn
    go_enter Tryz.func13, Tryz.ntmps13
    go_wp2_with fail
    refine HH.out.mono ?_
    rintro e w1 ⟨rfl, hf⟩
    obtain ⟨hb, c0, c1⟩ := box_at hb0.out hf
    have fz0 := blk_free hb 0
    have fz1 := blk_free hb 1
    obtain ⟨g, cap, kv, d0, _, _, _, e0, e1, e2, e3, e4, e5⟩ := (HP.out.frm0 hf).node Hn.out
    have HF := Lib.hid (frm_then (frm_alloc w (.cells #[.int .i64 0, .bool false] 23)) hf)
    clear hf hb
    go_wp2
    refine bodyPost_ret (v := .agg #[.int .i64 n.t.1, .bool n.t.2]) ?_ rfl ⟨by rw [hs.out], (HF.out.set (p := ⟨w.heap.size, 0, none⟩) (.inr (Nat.le_refl _)) _).set (p := ⟨w.heap.size, 1, none⟩) (.inr (Nat.le_refl _)) _⟩
    simp [results, Tryz.results13, go_sem, c0, c1]
def sNum : ByteArray := ⟨#[110, 117, 109]⟩
def constF (s : TPool) (f : Int) : Nat × Bool := match nth s.l f with | some n => if n.op = sNum then (n.num, true) else (0, false) | none => (0, false)
set_option maxRecDepth 100000 in
set_option maxHeartbeats 1000000 in
theorem Const_calls {w : World} {own : Nat → Prop} {p : Nat} {s : TPool} (h : PoolAt w own p s) (f : Int) :
    Calls Tryz.prog 38 #[.pointer (some ⟨p, 0, none⟩), .int .i64 f] w fun e w' => e = .returned (.tuple #[.int .u64 (constF s f).1, .bool (constF s f).2]) ∧ Frm (fun _ => False) w w' := by
  have HH := Lib.hid (has1 h f w.heap.size rfl)
  have HP := Lib.hid h
  cases hn : nth s.l f with
  | none =>
    have hs : Hid (constF s f = (0, false)) := Lib.hid (by unfold constF; rw [hn])
    rw [nth_out hn] at HH
    clear h hn
    go_enter Tryz.func38, Tryz.ntmps38
    go_wp2_with fail
    refine HH.out.mono ?_
    rintro e w1 ⟨rfl, hf⟩
    go_wp2
    go_ret2
    exact ⟨by rw [hs.out]; rfl, hf⟩
  | some n =>
    have Hn := Lib.hid hn
    rw [nth_in hn] at HH
    obtain ⟨l0, l1⟩ := nth_lt hn
    clear h
    by_cases ho : n.op = sNum
    · have d : (n.op.toList == [110, 117, 109]) = true := by rw [eqS]; exact decide_eq_true ho
      have hs : Hid (constF s f = (n.num, true)) := Lib.hid (by unfold constF; rw [hn]; simp [ho])
      clear hn ho
      go_enter Tryz.func38, Tryz.ntmps38
      go_wp2_with fail
      refine HH.out.mono ?_
      rintro e w1 ⟨rfl, hf⟩
      obtain ⟨g, cap, kv, d0, _, _, _, e0, e1, e2, e3, e4, e5⟩ := (HP.out.frm0 hf).node Hn.out
      have HF := Lib.hid hf
      clear hf
      go_wp2
      go_ret2
      exact ⟨by rw [hs.out]; rfl, HF.out⟩
    · have d : (n.op.toList == [110, 117, 109]) = false := by rw [eqS]; exact decide_eq_false ho
      have hs : Hid (constF s f = (0, false)) := Lib.hid (by unfold constF; rw [hn]; simp [ho])
      clear hn ho
      go_enter Tryz.func38, Tryz.ntmps38
      go_wp2_with fail
      refine HH.out.mono ?_
      rintro e w1 ⟨rfl, hf⟩
      obtain ⟨g, cap, kv, d0, _, _, _, e0, e1, e2, e3, e4, e5⟩ := (HP.out.frm0 hf).node Hn.out
      have HF := Lib.hid hf
      clear hf
      go_wp2
      go_ret2
      exact ⟨by rw [hs.out]; rfl, HF.out⟩
def isNumF (s : TPool) (f : Int) (v : Nat) : Bool := match nth s.l f with | some n => decide (n.op = sNum) && decide (n.num = normF n.t v) | none => false
set_option maxRecDepth 100000 in
set_option maxHeartbeats 1000000 in
theorem isNum_calls {w : World} {own : Nat → Prop} {p : Nat} {s : TPool} (hE : Env w) (h : PoolAt w own p s) (f : Int) (v : Nat) (hv : v < 2 ^ 64) :
    Calls Tryz.prog 74 #[.pointer (some ⟨p, 0, none⟩), .int .i64 f, .int .u64 v] w fun e w' => e = .returned (.bool (isNumF s f v)) ∧ Frm (fun _ => False) w w' := by
  have HC := Lib.hid (Const_calls h f)
  have HP := Lib.hid h
  have HE := Lib.hid hE
  have Hv := Lib.hid hv
  clear hE hv
  cases hn : nth s.l f with
  | none =>
    have hc : constF s f = (0, false) := by unfold constF; rw [hn]
    have hs : Hid (isNumF s f v = false) := Lib.hid (by unfold isNumF; rw [hn])
    rw [hc] at HC
    clear h hn hc
    go_enter Tryz.func74, Tryz.ntmps74
    go_wp2_with fail
    refine HC.out.mono ?_
    rintro e w1 ⟨rfl, hf⟩
    go_wp2
    go_ret
    exact ⟨by rw [hs.out]; rfl, hf⟩
  | some n =>
    have Hn := Lib.hid hn
    obtain ⟨l0, l1⟩ := nth_lt hn
    by_cases ho : n.op = sNum
    · have hc : constF s f = (n.num, true) := by unfold constF; rw [hn]; simp [ho]
      have hs : Hid (isNumF s f v = decide (n.num = normF n.t v)) := Lib.hid (by unfold isNumF; rw [hn]; simp [ho])
      rw [hc] at HC
      clear h hn hc ho
      go_enter Tryz.func74, Tryz.ntmps74
      go_wp2_with fail
      refine HC.out.mono ?_
      rintro e w1 ⟨rfl, hf⟩
      obtain ⟨g, cap, kv, d0, _, _, _, e0, e1, e2, e3, e4, e5⟩ := (HP.out.frm0 hf).node Hn.out
      have HF := Lib.hid hf
      clear hf
      go_wp2_with fail
      refine (Norm_calls _ n.t v Hv.out (HE.out.frm0 HF.out).tabs).mono ?_
      rintro e w2 ⟨rfl, hf2⟩
      have HF2 := Lib.hid (frm_then HF.out hf2)
      clear hf2
      go_wp2
      go_ret
      exact ⟨by rw [hs.out, ← beqI]; rfl, HF2.out⟩
    · have hc : constF s f = (0, false) := by unfold constF; rw [hn]; simp [ho]
      have hs : Hid (isNumF s f v = false) := Lib.hid (by unfold isNumF; rw [hn]; simp [ho])
      rw [hc] at HC
      clear h hn hc ho
      go_enter Tryz.func74, Tryz.ntmps74
      go_wp2_with fail
      refine HC.out.mono ?_
      rintro e w1 ⟨rfl, hf⟩
      go_wp2
      go_ret
      exact ⟨by rw [hs.out]; rfl, hf⟩
end TmW
end Go.Proofs.YtbbajekecppioaaGreatDoor
