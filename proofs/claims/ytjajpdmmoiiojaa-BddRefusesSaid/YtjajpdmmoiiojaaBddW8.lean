/- Package bdd, walked on: New, Nodes, Works, support, Size. -/
import Derived.Test.YtjajpdmmoiiojaaBddW7
namespace Go.Proofs.Ytjajpdmmoiiojaa
open Go.RowKit Go.Mem Go.Bdd
namespace BddW

theorem Nodes_calls {w : World} {own : Nat → Prop} {p : Nat} {s : Sto} (h : StoreAt w own p s) :
    Calls Try.prog 25 #[.pointer (some ⟨p, 0, none⟩)] w fun e w' => e = .returned (.int .i64 s.l.length) ∧ w = w' := by
  obtain ⟨g, cap, c2, _⟩ := h.len
  go_enter Try.func25, Try.ntmps25
  go_wp2
  go_ret
  exact ⟨rfl, rfl⟩

theorem Works_calls {w : World} {own : Nat → Prop} {p : Nat} {s : Sto} (h : StoreAt w own p s) :
    Calls Try.prog 28 #[.pointer (some ⟨p, 0, none⟩)] w fun e w' => e = .returned (.int .u64 s.works) ∧ w = w' := by
  obtain ⟨lv, mf, mk, H⟩ := h
  obtain ⟨_, _, _, _, _, c8, _⟩ := H.cells
  have Hl := Lib.hid (load_calls _ _ _ c8)
  go_enter Try.func28, Try.ntmps28
  go_wp2_with fail
  refine Hl.out.mono ?_
  rintro e w' ⟨rfl, rfl⟩
  go_wp2
  go_ret
  exact ⟨rfl, rfl⟩

/-! ### New -/
def newSto (vars room : Int) : Sto := { vars, room, l := [(vars, 0, 0), (vars, 1, 1)], begun := false, find := [], known := [], works := 0 }
def NewPost (w : World) (vars room : Int) (e : Ending) (w' : World) : Prop := ∃ own p, e = .returned (.tuple #[.pointer (some ⟨p, 0, none⟩), .int .i64 0]) ∧ StoreAt w' own p (newSto vars room) ∧ (∀ b, own b → w.heap.size ≤ b) ∧ Frm (fun _ => False) w w'

set_option maxRecDepth 100000 in
set_option maxHeartbeats 1000000 in
theorem New_ok (w : World) (vars room : Int) (h0 : 0 ≤ vars) (h1 : vars ≤ 256) (h2 : 2 ≤ room) (h3 : room ≤ 16777216) :
    Calls Try.prog 10 #[.int .i64 vars, .int .i64 room] w (NewPost w vars room) := by
  have d0 : decide (vars < 0) = false := by simp; omega
  have d1 : decide (vars > 256) = false := by simp; omega
  have d2 : decide (room < 2) = false := by simp; omega
  have d3 : decide (room > 16777216) = false := by simp; omega
  have hfin : NewPost w vars room (.returned (.tuple #[.pointer (some ⟨w.heap.size + 1, 0, none⟩), .int .i64 0])) ((w.alloc (.cells #[.int .i64 vars, .int .i64 0, .int .i64 0, .int .i64 vars, .int .i64 1, .int .i64 1] 63)).alloc (.cells #[.int .i64 vars, .int .i64 room, .slice (some ⟨w.heap.size, 0, none⟩) 2 2, .int .u32 0, .int .i32 0, .int .u32 0, .map none, .map none, .int .u64 0] 83)) := by
    refine ⟨fun b => b = w.heap.size ∨ b = w.heap.size + 1, w.heap.size + 1, rfl, ⟨.slice (some ⟨w.heap.size, 0, none⟩) 2 2, none, none, blk_new_at _ (by simp), ⟨rfl, .inr ⟨w.heap.size, 2, _, rfl, Nat.zero_le _, blk_alloc (blk_new _) _, Nat.le_refl _, by decide, rfl, rfl⟩⟩, fun g hg => (by cases hg; exact .inl rfl), fun _ => ⟨rfl, rfl, rfl, rfl⟩, fun h => (by cases h), .inr rfl, fun b hb => (by simp; omega), h3, by simp [newSto]⟩, fun b hb => (by omega), ((Frm.refl _ _).alloc _).alloc _⟩
  have Hfin := Lib.hid hfin
  clear hfin h0 h1 h2 h3
  go_enter Try.func10, Try.ntmps10
  go_wp2
  go_ret2
  exact Hfin.out

theorem New_no (w : World) (vars room : Int) (h : ¬ (0 ≤ vars ∧ vars ≤ 256) ∨ ¬ (2 ≤ room ∧ room ≤ 16777216)) :
    Calls Try.prog 10 #[.int .i64 vars, .int .i64 room] w fun e w' => e = .returned (.tuple #[.pointer none, .int .i64 (if 0 ≤ vars ∧ vars ≤ 256 then 90 else 91)]) ∧ w = w' := by
  by_cases h0 : vars < 0
  · have d0 : decide (vars < 0) = true := by simp [h0]
    rw [if_neg (by omega)]
    clear h h0
    go_enter Try.func10, Try.ntmps10
    go_wp2
    go_ret2
    exact ⟨rfl, rfl⟩
  · have d0 : decide (vars < 0) = false := by simp; omega
    by_cases h1 : vars > 256
    · have d1 : decide (vars > 256) = true := by simp; omega
      rw [if_neg (by omega)]
      clear h h0 h1
      go_enter Try.func10, Try.ntmps10
      go_wp2
      go_ret2
      exact ⟨rfl, rfl⟩
    · have d1 : decide (vars > 256) = false := by simp; omega
      rw [if_pos (by omega)]
      by_cases h2 : room < 2
      · have d2 : decide (room < 2) = true := by simp; omega
        clear h h0 h1 h2
        go_enter Try.func10, Try.ntmps10
        go_wp2
        go_ret2
        exact ⟨rfl, rfl⟩
      · have d2 : decide (room < 2) = false := by simp; omega
        have d3 : decide (room > 16777216) = true := by simp; omega
        clear h h0 h1 h2
        go_enter Try.func10, Try.ntmps10
        go_wp2
        go_ret2
        exact ⟨rfl, rfl⟩

/-! ### Closures that leave the store alone: all that was there stays, but their own block -/
def StayRep {σ : Type} (W0 : World) (bo d : Nat) (At : World → σ → Prop) (w : World) (own : Nat → Prop) (x : σ) : Prop :=
  own = (fun b => b = bo) ∧ At w x ∧ W0.heap.size ≤ w.heap.size ∧ bo < w.heap.size ∧ ∀ b, b < W0.heap.size → b ≠ d → b ≠ bo → w.heap[b]? = W0.heap[b]?

theorem NodesAt.heap {w w' : World} {p : Nat} {l : List T3} (h : NodesAt w p l) (hs : w.heap.size ≤ w'.heap.size) (hp : w'.heap[p]? = w.heap[p]?) (hg : ∀ g n c, w.cell? ⟨p, 2, none⟩ = some (.slice (some ⟨g, 0, none⟩) n c) → w'.heap[g]? = w.heap[g]?) : NodesAt w' p l := by
  obtain ⟨g, cap, c, hl, hn⟩ := h
  refine ⟨g, cap, (World.cell?_of_block (w := w) (a := ⟨p, 2, none⟩) hp).trans c, Nat.lt_of_lt_of_le hl hs, fun f n hf => ?_⟩
  have hb := hg g _ _ c
  obtain ⟨x0, x1, x2⟩ := hn f n hf
  exact ⟨(World.cell?_of_block (w := w) (a := ⟨g, _, none⟩) hb).trans x0, (World.cell?_of_block (w := w) (a := ⟨g, _, none⟩) hb).trans x1, (World.cell?_of_block (w := w) (a := ⟨g, _, none⟩) hb).trans x2⟩

theorem closure_stay {σ : Type} {W0 : World} {own0 : Nat → Prop} {bo d p : Nat} {s : Sto} {At : World → σ → Prop} {fid : FuncId} {cap : Array Value} {one : σ → Int → Int → Int → Option ((Int × Int) × σ)}
    (hS : StoreAt W0 own0 p s) (hbo : ¬ own0 bo) (hdo : ¬ own0 d) (hbd : bo ≠ d)
    (frm : ∀ {w w' : World} {x : σ}, At w x → w'.heap[bo]? = w.heap[bo]? → At w' x)
    (call : ∀ (w : World) (x : σ) (v no yes : Int) (r : Int × Int) (x' : σ), StayRep W0 bo d At w (fun b => b = bo) x → one x v no yes = some (r, x') →
      Calls Try.prog fid (#[.int .i64 v, .int .i64 no, .int .i64 yes] ++ cap) w fun e w' => e = .returned (.tuple #[.int .i64 r.1, .int .i64 r.2]) ∧ At w' x' ∧ Frm (fun b => b = bo) w w')
    (enter : ∀ (args : Array Value) (w : World), (callFunc fid args).run Try.prog w = .ok (.enter fid args) w) : Closure (StayRep W0 bo d At) (fun _ => s.l) p d fid cap one where
  frm := fun {w w' own x} h hF hd => by
    obtain ⟨rfl, h1, h2, h3, h4⟩ := h
    exact ⟨rfl, frm h1 (hF.block bo h3 hbd), Nat.le_trans h2 hF.size, Nat.lt_of_lt_of_le h3 hF.size, fun b hb hbd' hbb => (hF.block b (by omega) hbd').trans (h4 b hb hbd' hbb)⟩
  nodes := fun {w own x} h => by
    obtain ⟨rfl, h1, h2, h3, h4⟩ := h
    obtain ⟨g, cap, c2, hg, _, hgl⟩ := hS.len
    have ne : ∀ b, own0 b → b ≠ d ∧ b ≠ bo := fun b hb => ⟨fun e => hdo (e ▸ hb), fun e => hbo (e ▸ hb)⟩
    have hpo : own0 p := by obtain ⟨lv, mf, mk, H⟩ := hS; exact H.me
    exact hS.nodes.heap h2 (h4 p hS.plt (ne p hpo).1 (ne p hpo).2) fun g' n c hc => by
      rw [c2] at hc
      cases hc
      exact h4 g hgl (ne g hg).1 (ne g hg).2
  lt := fun {w own x} h b hb => by obtain ⟨rfl, h1, h2, h3, h4⟩ := h; cases hb; exact h3
  plt := fun {w own x} h => Nat.lt_of_lt_of_le hS.plt h.2.2.1
  enter := enter
  call := fun w own x v no yes r x' h hr => by
    have h' := h
    obtain ⟨rfl, h1, h2, h3, h4⟩ := h'
    exact (call w x v no yes r x' h hr).mono fun e w' ⟨he, ha, hF⟩ => ⟨he, fun b => b = bo, ⟨rfl, ha, Nat.le_trans h2 hF.size, Nat.lt_of_lt_of_le h3 hF.size, fun b hb hbd hbb => (hF.block b (by omega) hbb).trans (h4 b hb hbd hbb)⟩, .of_frm hF fun _ h => .inl h⟩

/-! ### Size -/
theorem size1_calls {W0 : World} {bo d pf : Nat} {f : Int} (hpf : W0.heap[pf]? = some (.cells #[.int .i64 f] 3)) (hd : pf ≠ d ∧ pf ≠ bo) (w : World) (x : Int) (v no yes : Int) (r : Int × Int) (x' : Int)
    (hR : StayRep W0 bo d (fun w (n : Int) => w.heap[bo]? = some (.cells #[.int .i64 n] 3 (0, 0))) w (fun b => b = bo) x) (hr : (some ((f, (0 : Int)), wrap64 (x + 1)) : Option ((Int × Int) × Int)) = some (r, x')) :
    Calls Try.prog 46 (#[.int .i64 v, .int .i64 no, .int .i64 yes] ++ #[.pointer (some ⟨bo, 0, none⟩), .pointer (some ⟨pf, 0, none⟩)]) w fun e w' => e = .returned (.tuple #[.int .i64 r.1, .int .i64 r.2]) ∧ w'.heap[bo]? = some (.cells #[.int .i64 x'] 3 (0, 0)) ∧ Frm (fun b => b = bo) w w' := by
  show Calls Try.prog 46 #[.int .i64 v, .int .i64 no, .int .i64 yes, .pointer (some ⟨bo, 0, none⟩), .pointer (some ⟨pf, 0, none⟩)] w _
  obtain ⟨_, h1, h2, h3, h4⟩ := hR
  have c0 : w.cell? ⟨pf, 0, none⟩ = some (.int .i64 f) := blk_cell ((h4 pf (lt_of_block hpf) hd.1 hd.2).trans hpf) 0
  have c1 : w.cell? ⟨bo, 0, none⟩ = some (.int .i64 x) := blk_cell h1 0
  have fz : w.frozen? ⟨bo, 0, none⟩ = false := blk_free h1 0
  have hfin := Lib.hid (blk_set h1 0 (.int .i64 (wrap64 (x + 1))) rfl)
  have hF := Lib.hid ((Frm.refl (fun b => b = bo) w).set (p := ⟨bo, 0, none⟩) (.inl rfl) (.int .i64 (wrap64 (x + 1))))
  have hne : (⟨bo, 0, none⟩ : Addr) ≠ ⟨pf, 0, none⟩ := fun e => hd.2 (by cases e; rfl)
  have c0' : (w.setCell ⟨bo, 0, none⟩ (.int .i64 (wrap64 (x + 1)))).cell? ⟨pf, 0, none⟩ = some (.int .i64 f) := (World.cell?_setCell_other _ _ _ _ hne).trans c0
  cases hr
  clear h1 h4 hpf hd h2 h3 hne
  go_enter Try.func46, Try.ntmps46
  go_wp2
  go_ret2
  exact ⟨rfl, hfin.out, hF.out⟩

set_option maxRecDepth 100000 in
set_option maxHeartbeats 2000000 in
theorem Size_calls {w : World} {own : Nat → Prop} {p : Nat} {s : Sto} (hS : StoreAt w own p s) (k : Nat) (f : Int) (r : Int × Int) (hr : sizeF k s f = some r) :
    Calls Try.prog 23 #[.pointer (some ⟨p, 0, none⟩), .int .i64 f] w fun e w' => e = .returned (.tuple #[.int .i64 r.1, .int .i64 r.2]) ∧ Frm (fun _ => False) w w' := by
  have hmf : ∀ (fn : Fn) (first cap : Array Value) (w : World), (Instr.makeFunc fn first cap).run Try.prog w = .ok (.func fn first cap) w := fun _ _ _ _ => rfl
  have hmm := @run_makeMap Try.prog
  have hnot : ∀ (x : Bool) (w : World), (Op.unary .not (.bool x)).run Try.prog w = .ok (.bool (!x)) w := fun _ _ => rfl
  have hol := hS.ownlt
  have hF2 : Frm (fun _ => False) w ((w.alloc (.cells #[.int .i64 f] 3)).alloc (.cells #[.int .i64 f] 3)) := ((Frm.refl _ _).alloc _).alloc _
  have hF3 : Frm (fun _ => False) w (((w.alloc (.cells #[.int .i64 f] 3)).alloc (.cells #[.int .i64 f] 3)).alloc (.cells #[.pointer (some ⟨p, 0, none⟩)] 23)) := hF2.alloc _
  have hS2 : StoreAt ((w.alloc (.cells #[.int .i64 f] 3)).alloc (.cells #[.int .i64 f] 3)) own p s := hS.frm hF2 fun _ _ => id
  have Hh := Lib.hid (has_calls hS2 (.slice (some ⟨w.heap.size + 1, 0, none⟩) 1 1) [f] (sees_of_blk (blk_new_at (.cells #[.int .i64 f] 3) (by simp)) rfl rfl (by decide)))
  unfold sizeF at hr
  cases hin : inB s f with
  | false =>
    rw [hin] at hr
    simp only [if_true] at hr
    cases hr
    have hall : [f].all (inB s) = false := by simp [hin]
    rw [hall] at Hh
    have hF3' := Lib.hid hF3
    clear hS hS2 hF2 hF3 hall hin hol
    go_enter Try.func23, Try.ntmps23
    go_wp2_with fail
    refine Hh.out.mono ?_
    rintro e w' ⟨rfl, rfl⟩
    go_wp2
    go_ret2
    exact ⟨rfl, hF3'.out⟩
  | true =>
    rw [hin] at hr
    simp only [Bool.true_eq_false, if_false] at hr
    have hall : [f].all (inB s) = true := by simp [hin]
    rw [hall] at Hh
    cases ho : overF (σ := Int) (fun _ => s.l) (fun n _ _ _ => some ((f, 0), wrap64 (n + 1))) k 0 [] f with
    | none => rw [ho] at hr; cases hr
    | some q =>
    obtain ⟨r0, n0, m0⟩ := q
    rw [ho] at hr
    cases hr
    have hF4 : Frm (fun _ => False) w ((((w.alloc (.cells #[.int .i64 f] 3)).alloc (.cells #[.int .i64 f] 3)).alloc (.cells #[.pointer (some ⟨p, 0, none⟩)] 23)).alloc (.cells #[.int .i64 0] 3)) := hF3.alloc _
    have hF5 : Frm (fun _ => False) w (((((w.alloc (.cells #[.int .i64 f] 3)).alloc (.cells #[.int .i64 f] 3)).alloc (.cells #[.pointer (some ⟨p, 0, none⟩)] 23)).alloc (.cells #[.int .i64 0] 3)).alloc (.map #[] 0)) := hF4.alloc _
    have hz5 : (((((w.alloc (.cells #[.int .i64 f] 3)).alloc (.cells #[.int .i64 f] 3)).alloc (.cells #[.pointer (some ⟨p, 0, none⟩)] 23)).alloc (.cells #[.int .i64 0] 3)).alloc (.map #[] 0)).heap.size = w.heap.size + 5 := by simp
    have hS5 : StoreAt (((((w.alloc (.cells #[.int .i64 f] 3)).alloc (.cells #[.int .i64 f] 3)).alloc (.cells #[.pointer (some ⟨p, 0, none⟩)] 23)).alloc (.cells #[.int .i64 0] 3)).alloc (.map #[] 0)) own p s := hS.frm hF5 fun _ _ => id
    have hpf : (((((w.alloc (.cells #[.int .i64 f] 3)).alloc (.cells #[.int .i64 f] 3)).alloc (.cells #[.pointer (some ⟨p, 0, none⟩)] 23)).alloc (.cells #[.int .i64 0] 3)).alloc (.map #[] 0)).heap[w.heap.size]? = some (.cells #[.int .i64 f] 3) := blk_alloc (blk_alloc (blk_alloc (blk_alloc (blk_new _) _) _) _) _
    have hbo : (((((w.alloc (.cells #[.int .i64 f] 3)).alloc (.cells #[.int .i64 f] 3)).alloc (.cells #[.pointer (some ⟨p, 0, none⟩)] 23)).alloc (.cells #[.int .i64 0] 3)).alloc (.map #[] 0)).heap[w.heap.size + 1 + 1 + 1]? = some (.cells #[.int .i64 0] 3 (0, 0)) := blk_alloc (blk_new_at _ (by simp)) _
    have hm5 : IMap (((((w.alloc (.cells #[.int .i64 f] 3)).alloc (.cells #[.int .i64 f] 3)).alloc (.cells #[.pointer (some ⟨p, 0, none⟩)] 23)).alloc (.cells #[.int .i64 0] 3)).alloc (.map #[] 0)) (w.heap.size + 1 + 1 + 1 + 1) [] := by have := mapAt_new ((((w.alloc (.cells #[.int .i64 f] 3)).alloc (.cells #[.int .i64 f] 3)).alloc (.cells #[.pointer (some ⟨p, 0, none⟩)] 23)).alloc (.cells #[.int .i64 0] 3)) (Value.int .i64) (Value.int .i64); simpa using this
    have hC := closure_stay (W0 := (((((w.alloc (.cells #[.int .i64 f] 3)).alloc (.cells #[.int .i64 f] 3)).alloc (.cells #[.pointer (some ⟨p, 0, none⟩)] 23)).alloc (.cells #[.int .i64 0] 3)).alloc (.map #[] 0))) (own0 := own) (bo := w.heap.size + 1 + 1 + 1) (d := w.heap.size + 1 + 1 + 1 + 1) (p := p) (s := s) (At := fun W (n : Int) => W.heap[w.heap.size + 1 + 1 + 1]? = some (.cells #[.int .i64 n] 3 (0, 0))) (fid := 46) (cap := #[.pointer (some ⟨w.heap.size + 1 + 1 + 1, 0, none⟩), .pointer (some ⟨w.heap.size, 0, none⟩)]) (one := fun n _ _ _ => some ((f, 0), wrap64 (n + 1))) hS5 (fun h => by have := hol _ h; omega) (fun h => by have := hol _ h; omega) (by omega) (fun h e => e.trans h) (fun w1 x v no yes r x' hR hr => size1_calls hpf ⟨by omega, by omega⟩ w1 x v no yes r x' hR hr) (fun args w => call_enter Try.func46 (by kernel_rfl) rfl args w)
    have Ho := Lib.hid (over_calls hC k (((((w.alloc (.cells #[.int .i64 f] 3)).alloc (.cells #[.int .i64 f] 3)).alloc (.cells #[.pointer (some ⟨p, 0, none⟩)] 23)).alloc (.cells #[.int .i64 0] 3)).alloc (.map #[] 0)) _ 0 [] f _ _ _ ⟨rfl, hbo, Nat.le_refl _, by omega, fun _ _ _ _ => rfl⟩ hm5 (fun h => by omega) ho)
    clear hS hS2 hF2 hF3 hall hin hS5 hpf hbo hm5 hC ho hF4
    go_enter Try.func23, Try.ntmps23
    go_wp2_with fail
    refine Hh.out.mono ?_
    rintro e w' ⟨rfl, rfl⟩
    go_wp2_with fail
    refine Ho.out.mono ?_
    rintro e w6 ⟨rfl, own', ⟨_, hA, _, _, _⟩, _, _, hF6, _⟩
    have c0 : w6.cell? ⟨w.heap.size + 1 + 1 + 1, 0, none⟩ = some (.int .i64 n0) := blk_cell hA 0
    clear hA
    go_wp2
    go_ret2
    exact ⟨rfl, hF5.trans hF6 fun x hx h => by omega⟩

/-! ### support -/
theorem support1_calls {W0 : World} {bo d pf po : Nat} {f : Int} (hpf : W0.heap[pf]? = some (.cells #[.int .i64 f] 3)) (hpo : W0.heap[po]? = some (.cells #[.map (some bo)] 94 (0, 0))) (hd : pf ≠ d ∧ pf ≠ bo ∧ po ≠ d ∧ po ≠ bo) (w : World) (x : MII) (v no yes : Int) (r : Int × Int) (x' : MII)
    (hR : StayRep W0 bo d (fun w (m : MII) => IMap w bo m) w (fun b => b = bo) x) (hr : (some ((f, (0 : Int)), mput x v v) : Option ((Int × Int) × MII)) = some (r, x')) :
    Calls Try.prog 62 (#[.int .i64 v, .int .i64 no, .int .i64 yes] ++ #[.pointer (some ⟨po, 0, none⟩), .pointer (some ⟨pf, 0, none⟩)]) w fun e w' => e = .returned (.tuple #[.int .i64 r.1, .int .i64 r.2]) ∧ IMap w' bo x' ∧ Frm (fun b => b = bo) w w' := by
  show Calls Try.prog 62 #[.int .i64 v, .int .i64 no, .int .i64 yes, .pointer (some ⟨po, 0, none⟩), .pointer (some ⟨pf, 0, none⟩)] w _
  obtain ⟨_, h1, h2, h3, h4⟩ := hR
  have hpf' := (h4 pf (lt_of_block hpf) hd.1 hd.2.1).trans hpf
  have c1 : w.cell? ⟨po, 0, none⟩ = some (.map (some bo)) := blk_cell ((h4 po (lt_of_block hpo) hd.2.2.1 hd.2.2.2).trans hpo) 0
  cases hr
  clear h4 hpf hpo h2 h3
  go_enter Try.func62, Try.ntmps62
  go_wp2_with (first | (at_mapUpdate; refine wpList_update rfl _ _ _ 94 rfl keyInt Try.underlying94 v v rfl rfl rfl h1 ?_; intro w5 hm5 hg5; have c0 : w5.cell? ⟨pf, 0, none⟩ = some (.int .i64 f) := blk_cell (blk_grown hpf' hg5 (fun e => hd.2.1 (by cases e; rfl))) 0))
  go_ret2
  exact ⟨rfl, hm5, (Frm.of_grown hg5).mono fun x _ e => by cases e; rfl⟩

set_option maxRecDepth 100000 in
set_option maxHeartbeats 2000000 in
theorem support_calls {w : World} {own : Nat → Prop} {p : Nat} {s : Sto} (hS : StoreAt w own p s) (k : Nat) (f : Int) (out : MII) (hr : supportF k s f = some out) :
    Calls Try.prog 52 #[.pointer (some ⟨p, 0, none⟩), .int .i64 f] w fun e w' => ∃ bo, e = .returned (.map (some bo)) ∧ IMap w' bo out ∧ w.heap.size ≤ bo ∧ Frm (fun _ => False) w w' := by
  have hmf : ∀ (fn : Fn) (first cap : Array Value) (w : World), (Instr.makeFunc fn first cap).run Try.prog w = .ok (.func fn first cap) w := fun _ _ _ _ => rfl
  have hmm := @run_makeMap Try.prog
  have hol := hS.ownlt
  unfold supportF at hr
  cases ho : overF (σ := List (Int × Int)) (fun _ => s.l) (fun out v _ _ => some ((f, 0), mput out v v)) k [] [] f with
  | none => rw [ho] at hr; cases hr
  | some q =>
  obtain ⟨r0, n0, m0⟩ := q
  rw [ho] at hr
  cases hr
  have hF4 : Frm (fun _ => False) w ((((w.alloc (.cells #[.int .i64 f] 3)).alloc (.map #[] 0)).alloc (.cells #[.map (some (w.heap.size + 1))] 94)).alloc (.map #[] 0)) := ((((Frm.refl _ _).alloc _).alloc _).alloc _).alloc _
  have hz4 : ((((w.alloc (.cells #[.int .i64 f] 3)).alloc (.map #[] 0)).alloc (.cells #[.map (some (w.heap.size + 1))] 94)).alloc (.map #[] 0)).heap.size = w.heap.size + 4 := by simp
  have hS4 : StoreAt ((((w.alloc (.cells #[.int .i64 f] 3)).alloc (.map #[] 0)).alloc (.cells #[.map (some (w.heap.size + 1))] 94)).alloc (.map #[] 0)) own p s := hS.frm hF4 fun _ _ => id
  have hpf : ((((w.alloc (.cells #[.int .i64 f] 3)).alloc (.map #[] 0)).alloc (.cells #[.map (some (w.heap.size + 1))] 94)).alloc (.map #[] 0)).heap[w.heap.size]? = some (.cells #[.int .i64 f] 3) := blk_alloc (blk_alloc (blk_alloc (blk_new _) _) _) _
  have hbo : ((((w.alloc (.cells #[.int .i64 f] 3)).alloc (.map #[] 0)).alloc (.cells #[.map (some (w.heap.size + 1))] 94)).alloc (.map #[] 0)).heap[w.heap.size + 1]? = some (.map #[] 0) := blk_alloc (blk_alloc (blk_new_at _ (by simp)) _) _
  have hpo : ((((w.alloc (.cells #[.int .i64 f] 3)).alloc (.map #[] 0)).alloc (.cells #[.map (some (w.heap.size + 1))] 94)).alloc (.map #[] 0)).heap[w.heap.size + 1 + 1]? = some (.cells #[.map (some (w.heap.size + 1))] 94 (0, 0)) := blk_alloc (blk_new_at _ (by simp)) _
  have hm4 : IMap ((((w.alloc (.cells #[.int .i64 f] 3)).alloc (.map #[] 0)).alloc (.cells #[.map (some (w.heap.size + 1))] 94)).alloc (.map #[] 0)) (w.heap.size + 1 + 1 + 1) [] := by have := mapAt_new (((w.alloc (.cells #[.int .i64 f] 3)).alloc (.map #[] 0)).alloc (.cells #[.map (some (w.heap.size + 1))] 94)) (Value.int .i64) (Value.int .i64); simpa using this
  have hC := closure_stay (W0 := ((((w.alloc (.cells #[.int .i64 f] 3)).alloc (.map #[] 0)).alloc (.cells #[.map (some (w.heap.size + 1))] 94)).alloc (.map #[] 0))) (own0 := own) (bo := w.heap.size + 1) (d := w.heap.size + 1 + 1 + 1) (p := p) (s := s) (At := fun W (m : MII) => IMap W (w.heap.size + 1) m) (fid := 62) (cap := #[.pointer (some ⟨w.heap.size + 1 + 1, 0, none⟩), .pointer (some ⟨w.heap.size, 0, none⟩)]) (one := fun out v _ _ => some ((f, 0), mput out v v)) hS4 (fun h => by have := hol _ h; omega) (fun h => by have := hol _ h; omega) (by omega)
    (fun h e => mapAt_of_block h e) (fun w1 x v no yes r x' hR hr => support1_calls hpf hpo ⟨by omega, by omega, by omega, by omega⟩ w1 x v no yes r x' hR hr) (fun args w => call_enter Try.func62 (by kernel_rfl) rfl args w)
  have Ho := Lib.hid (over_calls hC k ((((w.alloc (.cells #[.int .i64 f] 3)).alloc (.map #[] 0)).alloc (.cells #[.map (some (w.heap.size + 1))] 94)).alloc (.map #[] 0)) _ [] [] f _ _ _ ⟨rfl, ⟨#[], 0, hbo, rfl, by simp, by simp⟩, Nat.le_refl _, by omega, fun _ _ _ _ => rfl⟩ hm4 (fun h => by omega) ho)
  have hpo' := Lib.hid hpo
  clear hS hS4 hpf hbo hm4 hC ho hpo
  go_enter Try.func52, Try.ntmps52
  go_wp2_with fail
  refine Ho.out.mono ?_
  rintro e w6 ⟨rfl, own', ⟨_, hA, _, _, hst⟩, _, _, hF6, _⟩
  have c0 : w6.cell? ⟨w.heap.size + 1 + 1, 0, none⟩ = some (.map (some (w.heap.size + 1))) := blk_cell ((hst _ (by omega) (by omega) (by omega)).trans hpo'.out) 0
  have hA' := Lib.hid hA
  clear hA hst
  go_wp2
  go_ret
  exact ⟨_, rfl, hA'.out, by omega, hF4.trans hF6 fun x hx h => by omega⟩
end BddW
end Go.Proofs.Ytjajpdmmoiiojaa
