/- Package bdd, walked: the store in memory; maps, make, Var, side, ite come to what makeF, varF, sideF, iteF compute. -/
import Derived.Test.YtjajpdmmoiiojaaProg
import Derived.Test.YtjajpdmmoiiojaaPlan
import Derived.Test.YtjajpdmmoiiojaaMem
import Derived.Test.YtjajpdmmoiiojaaOnce
import Derived.Test.YtjajpdmmoiiojaaBddF
import Derived.BigQuiet
import Derived.BigRegion
namespace Go.Proofs.Ytjajpdmmoiiojaa
open Go.RowKit Go.Mem Go.Bdd
namespace BddW

theorem info_node : (Try.prog.info? 63).map (fun i => (i.zero, i.size, i.bytes)) = some (some (.agg #[.int .i64 0, .int .i64 0, .int .i64 0]), 3, 24) := by kernel_rfl
theorem keyNode : KeyEnc Try.prog 63 encT3 := keyEnc_T3 (ti := 3) Try.underlying63 rfl Try.underlying3 (by kernel_rfl) ⟨rfl, rfl, rfl⟩ ⟨rfl, rfl, rfl⟩ ⟨rfl, rfl, rfl⟩ (by decide)
theorem keyTriple : KeyEnc Try.prog 104 encT3 := keyEnc_T3 (ti := 3) Try.underlying104 rfl Try.underlying3 (by kernel_rfl) ⟨rfl, rfl, rfl⟩ ⟨rfl, rfl, rfl⟩ ⟨rfl, rfl, rfl⟩ (by decide)
theorem zeroInt (w : World) : (zeroValue 3).run Try.prog w = .ok (.int .i64 0) w := by kernel_rfl

def nodeCells (l : List T3) : List Value := l.flatMap fun n => [i64 n.1, i64 n.2.1, i64 n.2.2]
theorem nodeCells_snoc (l : List T3) (n : T3) : nodeCells (l ++ [n]) = nodeCells l ++ [i64 n.1, i64 n.2.1, i64 n.2.2] := by simp [nodeCells]
theorem nodeCells_get : ∀ (l : List T3) (i : Nat) (n : T3), l[i]? = some n → (nodeCells l)[i * 3]? = some (i64 n.1) ∧ (nodeCells l)[i * 3 + 1]? = some (i64 n.2.1) ∧ (nodeCells l)[i * 3 + 2]? = some (i64 n.2.2)
  | [], i, n, h => by simp at h
  | m :: l, 0, n, h => by simp at h; subst h; simp [nodeCells]
  | m :: l, i + 1, n, h => by
    have := nodeCells_get l i n (by simpa using h)
    simpa [nodeCells, Nat.add_mul] using this

def storeCells (s : Sto) (lv : Value) (mf mk : Option Nat) : Array Value :=
  #[.int .i64 s.vars, .int .i64 s.room, lv, .int .u32 (if s.begun then 1 else 0), .int .i32 0, .int .u32 0, .map mf, .map mk, .int .u64 s.works]

structure Parts (w : World) (own : Nat → Prop) (p : Nat) (s : Sto) (lv : Value) (mf mk : Option Nat) : Prop where
  blk : w.heap[p]? = some (.cells (storeCells s lv mf mk) 83 (0, 0))
  row : w.ownsRow 0 63 3 lv s.l.length (nodeCells s.l)
  rowOwn : ∀ g, lv.ownBlock = some g → own g
  fresh : s.begun = false → mf = none ∧ mk = none ∧ s.find = [] ∧ s.known = []
  maps : s.begun = true → ∃ bf bk, mf = some bf ∧ mk = some bk ∧ bf ≠ bk ∧ own bf ∧ own bk ∧ MapAt w bf encT3 i64 s.find ∧ MapAt w bk encT3 i64 s.known
  me : own p
  lt : ∀ b, own b → b < w.heap.size
  room : s.room ≤ 16777216
  pos : s.l ≠ []

def StoreAt (w : World) (own : Nat → Prop) (p : Nat) (s : Sto) : Prop := ∃ lv mf mk, Parts w own p s lv mf mk

theorem StoreAt.frm {w w' : World} {own : Nat → Prop} {p : Nat} {s : Sto} {S : Nat → Prop} (h : StoreAt w own p s) (hf : Frm S w w') (hS : ∀ b, own b → ¬ S b) : StoreAt w' own p s := by
  obtain ⟨lv, mf, mk, H⟩ := h
  refine ⟨lv, mf, mk, blk_frm H.blk hf (hS p H.me), own_frm H.row hf fun g hg => hS g (H.rowOwn g hg), H.rowOwn, H.fresh, fun hb => ?_, H.me, fun b hb => Nat.lt_of_lt_of_le (H.lt b hb) hf.size, H.room, H.pos⟩
  obtain ⟨bf, bk, e1, e2, e3, e4, e5, e6, e7⟩ := H.maps hb
  exact ⟨bf, bk, e1, e2, e3, e4, e5, e6.frm hf (hS _ e4), e7.frm hf (hS _ e5)⟩
theorem StoreAt.alloc {w : World} {own : Nat → Prop} {p : Nat} {s : Sto} (h : StoreAt w own p s) (o : Obj) : StoreAt (w.alloc o) own p s :=
  h.frm (S := fun _ => False) ((Frm.refl _ _).alloc o) fun _ _ => id
theorem StoreAt.drew {w : World} {own : Nat → Prop} {p : Nat} {s : Sto} (h : StoreAt w own p s) : StoreAt w.drew own p s := h.frm (S := fun _ => False) (Frm.refl _ _).drew fun _ _ => id
theorem StoreAt.drewN {w : World} {own : Nat → Prop} {p : Nat} {s : Sto} (h : StoreAt w own p s) (n : Nat) : StoreAt (w.drewN n) own p s := h.frm (S := fun _ => False) ((Frm.refl _ _).drewN n) fun _ _ => id

/-- The row's own shape: never nil. -/
def SliceIs (w : World) (own : Nat → Prop) (p : Nat) (l : List T3) (lv : Value) (g cap : Nat) : Prop :=
  lv = .slice (some ⟨g, 0, none⟩) l.length cap ∧ own g ∧ g ≠ p ∧ (∀ f n, nth l f = some n → w.cell? ⟨g, f.toNat * 3, none⟩ = some (.int .i64 n.1) ∧ w.cell? ⟨g, f.toNat * 3 + 1, none⟩ = some (.int .i64 n.2.1) ∧ w.cell? ⟨g, f.toNat * 3 + 2, none⟩ = some (.int .i64 n.2.2))
theorem Parts.slice {w : World} {own : Nat → Prop} {p : Nat} {s : Sto} {lv : Value} {mf mk : Option Nat} (H : Parts w own p s lv mf mk) : ∃ g cap, SliceIs w own p s.l lv g cap := by
  have hc := fun g => World.ownsRow.cells H.row (g := g)
  obtain ⟨h1, ⟨h2, h3⟩ | ⟨g, cap, cur, e, hb, hg, r⟩⟩ := H.row
  · exact absurd (List.eq_nil_of_length_eq_zero h3) H.pos
  · have hg' : lv.ownBlock = some g := by rw [e]; rfl
    refine ⟨g, cap, e, H.rowOwn g hg', fun h => ?_, fun f n hn => ?_⟩
    · subst h
      have := H.blk
      rw [hg] at this
      simp at this
    · unfold nth at hn
      split at hn
      · obtain ⟨c0, c1, c2⟩ := nodeCells_get s.l f.toNat n hn
        have k0 := hc g hg' _ _ c0
        have k1 := hc g hg' _ _ c1
        have k2 := hc g hg' _ _ c2
        simp only [Addr.add] at k0 k1 k2
        refine ⟨?_, ?_, ?_⟩
        · by_cases hz : f.toNat * 3 = 0
          · rw [if_pos hz] at k0; rw [hz]; exact k0
          · rw [if_neg hz] at k0; simpa [i64] using k0
        · rw [if_neg (by omega)] at k1; simpa [i64] using k1
        · rw [if_neg (by omega)] at k2; simpa [i64] using k2
      · cases hn

theorem Parts.cells {w : World} {own : Nat → Prop} {p : Nat} {s : Sto} {lv : Value} {mf mk : Option Nat} (H : Parts w own p s lv mf mk) :
    w.cell? ⟨p, 0, none⟩ = some (.int .i64 s.vars) ∧ w.cell? ⟨p, 1, none⟩ = some (.int .i64 s.room) ∧ w.cell? ⟨p, 2, none⟩ = some lv ∧ w.cell? ⟨p, 6, none⟩ = some (.map mf) ∧ w.cell? ⟨p, 7, none⟩ = some (.map mk) ∧ w.cell? ⟨p, 8, none⟩ = some (.int .u64 s.works) ∧ ∀ i, w.frozen? ⟨p, i, none⟩ = false :=
  ⟨blk_cell H.blk 0, blk_cell H.blk 1, blk_cell H.blk 2, blk_cell H.blk 6, blk_cell H.blk 7, blk_cell H.blk 8, fun i => blk_free H.blk i⟩

/-- What a call on the store leaves: what it hands back, the store as it is now, and the store's own blocks alone written. -/
def StPost (own : Nat → Prop) (w : World) (p : Nat) (ret : Value) (s' : Sto) (e : Ending) (w' : World) : Prop := e = .returned ret ∧ ∃ own', StoreAt w' own' p s' ∧ Moves own w own' w'

/-! ### The counter -/
theorem add_calls (a : Addr) (x d : Int) (w : World) (hc : w.cell? a = some (.int .u64 x)) (hz : w.frozen? a = false) :
    Calls Try.prog 60 #[.pointer (some a), .int .u64 d] w fun e w' => e = .returned (.int .u64 (IntKind.u64.wrap (x + d))) ∧ w.setCell a (.int .u64 (IntKind.u64.wrap (x + d))) = w' := by
  have hadd := run_call_add (P := Try.prog) Try.func65 (by kernel_rfl) (by kernel_rfl) (by kernel_rfl) .u64 (by kernel_rfl) (y := d) (s := IntKind.u64.wrap (x + d)) hc hz (by simp [Op.intArith])
  go_enter Try.func60, Try.ntmps60
  go_wp2
  go_ret
  exact ⟨rfl, rfl⟩

theorem load_calls (a : Addr) (x : Int) (w : World) (hc : w.cell? a = some (.int .u64 x)) :
    Calls Try.prog 47 #[.pointer (some a)] w fun e w' => e = .returned (.int .u64 x) ∧ w = w' := by
  have hl := run_call_load (P := Try.prog) Try.func61 (by kernel_rfl) (by kernel_rfl) (by kernel_rfl) .u64 (by kernel_rfl) hc
  go_enter Try.func47, Try.ntmps47
  go_wp2
  go_ret
  exact ⟨rfl, rfl⟩

/-! ### maps -/
def Mid (W : World) (p : Nat) (s : Sto) (lv : Value) (w1 : World) : Prop :=
  ∃ bf bk, w1.heap[p]? = some (.cells #[.int .i64 s.vars, .int .i64 s.room, lv, .int .u32 0, .int .i32 1, .int .u32 0, .map (some bf), .map (some bk), .int .u64 s.works] 83 (0, 0)) ∧ bf ≠ bk ∧ W.heap.size ≤ bf ∧ W.heap.size ≤ bk ∧
    bf < w1.heap.size ∧ bk < w1.heap.size ∧ MapAt w1 bf encT3 i64 [] ∧ MapAt w1 bk encT3 i64 [] ∧ Frm (fun b => b = p) W w1

theorem mid_mk {p : Nat} {s : Sto} {lv : Value} {W : World} (x y : Nat) (hp : W.heap[p]? = some (.cells #[.int .i64 s.vars, .int .i64 s.room, lv, .int .u32 0, .int .i32 1, .int .u32 0, .map none, .map none, .int .u64 s.works] 83 (0, 0)))
    (hxy : (x = W.heap.size ∧ y = W.heap.size + 1) ∨ (x = W.heap.size + 1 ∧ y = W.heap.size)) :
    Mid W p s lv (((((W.setCell ⟨p, 6, none⟩ (.map (some x))).setCell ⟨p, 7, none⟩ (.map (some y))).alloc (.map #[] 0)).alloc (.map #[] 0)).drew) := by
  have h1 := blk_set (blk_set hp 6 (.map (some x)) rfl) 7 (.map (some y)) rfl
  have hm0 : ((((W.setCell ⟨p, 6, none⟩ (.map (some x))).setCell ⟨p, 7, none⟩ (.map (some y))).alloc (.map #[] 0)).alloc (.map #[] 0)).heap[W.heap.size]? = some (.map #[] 0) := by
    refine blk_alloc ?_ _
    have := blk_new (w := (W.setCell ⟨p, 6, none⟩ (.map (some x))).setCell ⟨p, 7, none⟩ (.map (some y))) (.map #[] 0)
    simpa using this
  have hm1 : ((((W.setCell ⟨p, 6, none⟩ (.map (some x))).setCell ⟨p, 7, none⟩ (.map (some y))).alloc (.map #[] 0)).alloc (.map #[] 0)).heap[W.heap.size + 1]? = some (.map #[] 0) := by
    have := blk_new (w := ((W.setCell ⟨p, 6, none⟩ (.map (some x))).setCell ⟨p, 7, none⟩ (.map (some y))).alloc (.map #[] 0)) (.map #[] 0)
    simpa using this
  have hF : Frm (fun b => b = p) W (((((W.setCell ⟨p, 6, none⟩ (.map (some x))).setCell ⟨p, 7, none⟩ (.map (some y))).alloc (.map #[] 0)).alloc (.map #[] 0)).drew) :=
    (((((Frm.refl (fun b => b = p) W).set (p := ⟨p, 6, none⟩) (.inl rfl) _).set (p := ⟨p, 7, none⟩) (.inl rfl) _).alloc _).alloc _).drew
  refine ⟨x, y, blk_alloc (blk_alloc h1 _) _, ?_, ?_, ?_, ?_, ?_, ?_, ?_, hF⟩
  · omega
  · omega
  · omega
  · simp; omega
  · simp; omega
  · rcases hxy with ⟨rfl, _⟩ | ⟨rfl, _⟩
    · exact ⟨#[], 0, hm0, rfl, by simp, by simp⟩
    · exact ⟨#[], 0, hm1, rfl, by simp, by simp⟩
  · rcases hxy with ⟨_, rfl⟩ | ⟨_, rfl⟩
    · exact ⟨#[], 0, hm1, rfl, by simp, by simp⟩
    · exact ⟨#[], 0, hm0, rfl, by simp, by simp⟩

set_option maxHeartbeats 1000000 in
theorem maps1_calls (p pl : Nat) (s : Sto) (lv : Value) (W : World) (hp : W.heap[p]? = some (.cells #[.int .i64 s.vars, .int .i64 s.room, lv, .int .u32 0, .int .i32 1, .int .u32 0, .map none, .map none, .int .u64 s.works] 83 (0, 0)))
    (hl : W.heap[pl]? = some (.cells #[.pointer (some ⟨p, 0, none⟩)] 23 (0, 0))) :
    Calls Try.prog 64 #[.pointer (some ⟨pl, 0, none⟩)] W fun e w1 => e = .returned (.tuple #[]) ∧ Mid W p s lv w1 := by
  have hpl : p ≠ pl := fun h => by subst h; rw [hl] at hp; simp at hp
  have hlp := lt_of_block hp
  have hll := lt_of_block hl
  have c0 : W.cell? ⟨pl, 0, none⟩ = some (.pointer (some ⟨p, 0, none⟩)) := blk_cell hl 0
  have c6 : W.cell? ⟨p, 6, none⟩ = some (.map none) := blk_cell hp 6
  have c7 : W.cell? ⟨p, 7, none⟩ = some (.map none) := blk_cell hp 7
  have f6 : W.frozen? ⟨p, 6, none⟩ = false := blk_free hp 6
  have f7 : W.frozen? ⟨p, 7, none⟩ = false := blk_free hp 7
  have hmm := @run_makeMap Try.prog
  go_enter Try.func64, Try.ntmps64
  go_region
  all_goals
    go_end0
    refine ⟨rfl, ?_⟩
    first
      | exact mid_mk _ _ hp (.inl ⟨rfl, rfl⟩)
      | exact mid_mk _ _ hp (.inr ⟨rfl, rfl⟩)

theorem maps_done {w : World} {own : Nat → Prop} {p : Nat} {s : Sto} (h : StoreAt w own p s) (hb : s.begun = true) : StPost own w p (.tuple #[]) (opened s) (.returned (.tuple #[])) (w.alloc (.cells #[.pointer (some ⟨p, 0, none⟩)] 23)) := by
  have : opened s = s := by cases s; simp only at hb; subst hb; rfl
  rw [this]
  exact ⟨rfl, own, h.alloc _, .of_frm ((Frm.refl _ _).alloc _) fun _ h => .inl h⟩

theorem maps_made {w : World} {own : Nat → Prop} {p : Nat} {s : Sto} {lv : Value} {mf mk : Option Nat} (H : Parts w own p s lv mf mk) (e3 : s.find = []) (e4 : s.known = []) {w1 : World} {o : Obj} (hM : Mid ((w.alloc o).setCell ⟨p, 4, none⟩ (.int .i32 1)) p s lv w1) :
    StPost own w p (.tuple #[]) (opened s) (.returned (.tuple #[])) ((w1.drew.setCell ⟨p, 3, none⟩ (.int .u32 1)).setCell ⟨p, 4, none⟩ (.int .i32 0)) := by
  obtain ⟨bf, bk, h1, h2, h3, h4, h5, h6, h7, h8, hF⟩ := hM
  have hlt := H.lt p H.me
  have hsz : ((w.alloc o).setCell ⟨p, 4, none⟩ (.int .i32 1)).heap.size = w.heap.size + 1 := by simp
  rw [hsz] at h3 h4
  have hF0 : Frm (fun b => b = p) w w1 := (((Frm.refl (fun b => b = p) w).alloc o).set (p := ⟨p, 4, none⟩) (.inl rfl) _).trans hF fun _ _ h => h
  have hF1 : Frm (fun b => b = p) w ((w1.drew.setCell ⟨p, 3, none⟩ (.int .u32 1)).setCell ⟨p, 4, none⟩ (.int .i32 0)) := (hF0.drew.set (p := ⟨p, 3, none⟩) (.inl rfl) _).set (p := ⟨p, 4, none⟩) (.inl rfl) _
  have hF2 : Frm (fun b => b = p) w1 ((w1.drew.setCell ⟨p, 3, none⟩ (.int .u32 1)).setCell ⟨p, 4, none⟩ (.int .i32 0)) := ((Frm.refl (fun b => b = p) w1).drew.set (p := ⟨p, 3, none⟩) (.inl rfl) _).set (p := ⟨p, 4, none⟩) (.inl rfl) _
  have hrow : lv.ownBlock ≠ some p := fun e => by
    obtain ⟨cur, hc⟩ := own_elem H.row e
    rw [H.blk] at hc
    simp at hc
  refine ⟨rfl, fun b => own b ∨ b = bf ∨ b = bk, ⟨lv, some bf, some bk, ?_, ?_, fun g hg => .inl (H.rowOwn g hg), fun h => by simp [opened] at h, fun _ => ⟨bf, bk, rfl, rfl, h2, .inr (.inl rfl), .inr (.inr rfl), ?_, ?_⟩, .inl H.me, fun b hb => ?_, H.room, H.pos⟩, .of_frm (hF1.mono fun x _ hx => by subst hx; exact H.me) fun b hb => ?_⟩
  · exact blk_set (blk_set (w := w1.drew) h1 3 (.int .u32 1) rfl) 4 (.int .i32 0) rfl
  · exact own_frm H.row hF1 fun g hg e => hrow (by rw [hg, e])
  · rw [show (opened s).find = [] from e3]; exact h7.frm hF2 fun e => by omega
  · rw [show (opened s).known = [] from e4]; exact h8.frm hF2 fun e => by omega
  · have := hF2.size
    rcases hb with hb | rfl | rfl
    · have := H.lt b hb; have := hF1.size; omega
    · omega
    · omega
  · rcases hb with hb | rfl | rfl
    · exact .inl hb
    · exact .inr (by omega)
    · exact .inr (by omega)

set_option maxHeartbeats 1000000 in
theorem maps_calls {w : World} {own : Nat → Prop} {p : Nat} {s : Sto} (h : StoreAt w own p s) :
    Calls Try.prog 58 #[.pointer (some ⟨p, 0, none⟩)] w (StPost own w p (.tuple #[]) (opened s)) := by
  obtain ⟨lv, mf, mk, H⟩ := h
  have hlt := H.lt p H.me
  have hcf := fun cap w => call_enter (P := Try.prog) (f := 64) Try.func64 (by kernel_rfl) rfl cap w
  have hmf : ∀ (fn : Fn) (first cap : Array Value) (w : World), (Instr.makeFunc fn first cap).run Try.prog w = .ok (.func fn first cap) w := fun _ _ _ _ => rfl
  have hB := blk_alloc H.blk (.cells #[.pointer (some ⟨p, 0, none⟩)] 23)
  cases hb : s.begun with
  | true =>
    have hfin := Lib.hid (maps_done ⟨lv, mf, mk, H⟩ hb)
    have c3 : (w.alloc (.cells #[.pointer (some ⟨p, 0, none⟩)] 23)).cell? ⟨p, 3, none⟩ = some (.int .u32 1) := by rw [blk_cell hB 3]; simp [storeCells, hb]
    have Hd := Lib.hid (Once.do_done ⟨p, 3, none⟩ (.func (.func 64) #[] #[.pointer (some ⟨w.heap.size, 0, none⟩)]) _ c3)
    clear hcf hB c3 hb H
    go_enter Try.func58, Try.ntmps58
    go_wp2_with (go_at_call 63; refine Hd.out.mono ?_; rintro e w' ⟨rfl, rfl⟩)
    go_end0
    exact hfin.out
  | false =>
    obtain ⟨rfl, rfl, e3, e4⟩ := H.fresh hb
    have c3 : (w.alloc (.cells #[.pointer (some ⟨p, 0, none⟩)] 23)).cell? ⟨p, 3, none⟩ = some (.int .u32 0) := by rw [blk_cell hB 3]; simp [storeCells, hb]
    have c4 : (w.alloc (.cells #[.pointer (some ⟨p, 0, none⟩)] 23)).cell? ⟨p, 3 + 1, none⟩ = some (.int .i32 0) := blk_cell hB 4
    have f4 : (w.alloc (.cells #[.pointer (some ⟨p, 0, none⟩)] 23)).frozen? ⟨p, 3 + 1, none⟩ = false := blk_free hB 4
    have hB4 : ((w.alloc (.cells #[.pointer (some ⟨p, 0, none⟩)] 23)).setCell ⟨p, 4, none⟩ (.int .i32 1)).heap[p]? = some (.cells #[.int .i64 s.vars, .int .i64 s.room, lv, .int .u32 0, .int .i32 1, .int .u32 0, .map none, .map none, .int .u64 s.works] 83 (0, 0)) :=
      blk_set hB 4 (.int .i32 1) (by simp [storeCells, hb])
    have hL4 : ((w.alloc (.cells #[.pointer (some ⟨p, 0, none⟩)] 23)).setCell ⟨p, 4, none⟩ (.int .i32 1)).heap[w.heap.size]? = some (.cells #[.pointer (some ⟨p, 0, none⟩)] 23 (0, 0)) :=
      blk_set_ne (blk_new _) (by simp; omega) _
    have hbody : Once.Leaves1 64 #[.pointer (some ⟨w.heap.size, 0, none⟩)] ⟨p, 3, none⟩ ⟨p, 3 + 1, none⟩ (w.alloc (.cells #[.pointer (some ⟨p, 0, none⟩)] 23)) (Mid ((w.alloc (.cells #[.pointer (some ⟨p, 0, none⟩)] 23)).setCell ⟨p, 4, none⟩ (.int .i32 1)) p s lv) := by
      refine (maps1_calls p w.heap.size s lv _ hB4 hL4).mono fun e w1 ⟨he, hM⟩ => ⟨he, ?_, ?_, ?_, ?_, hM⟩ <;> obtain ⟨bf, bk, h1, _⟩ := hM
      · exact blk_cell h1 3
      · exact blk_free h1 3
      · exact blk_cell h1 4
      · exact blk_free h1 4
    have Hd := Lib.hid (Once.do_first p 3 64 #[.pointer (some ⟨w.heap.size, 0, none⟩)] _ _ c3 c4 f4 (hcf _) hbody)
    have hfin := Lib.hid (fun w1 => maps_made (w1 := w1) (o := .cells #[.pointer (some ⟨p, 0, none⟩)] 23) H e3 e4)
    have H' := Lib.hid H
    clear hcf hB c3 c4 f4 hB4 hL4 hbody hb e3 e4 H
    go_enter Try.func58, Try.ntmps58
    go_wp2_with (go_at_call 63; refine Hd.out.mono ?_; rintro e w' ⟨rfl, w1, hR, rfl⟩)
    go_end0
    exact hfin.out w1 hR
end BddW
end Go.Proofs.Ytjajpdmmoiiojaa
