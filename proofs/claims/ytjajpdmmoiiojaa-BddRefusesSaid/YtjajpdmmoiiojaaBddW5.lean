/- Package bdd, walked on: has, Ite, Not, And, Or, Iff. -/
import Derived.Test.YtjajpdmmoiiojaaBddW4
import Derived.Test.YtjajpdmmoiiojaaSl
namespace Go.Proofs.Ytjajpdmmoiiojaa
open Go.RowKit Go.Mem Go.Bdd
namespace BddW

theorem StoreAt.len {w : World} {own : Nat → Prop} {p : Nat} {s : Sto} (h : StoreAt w own p s) : ∃ g cap, w.cell? ⟨p, 2, none⟩ = some (.slice (some ⟨g, 0, none⟩) s.l.length cap) ∧ own g ∧ g ≠ p ∧ g < w.heap.size := by
  obtain ⟨lv, mf, mk, H⟩ := h
  obtain ⟨_, _, c2, _⟩ := H.cells
  obtain ⟨g, cap, rfl, h1, h2, _⟩ := H.slice
  exact ⟨g, cap, c2, h1, h2, H.lt g h1⟩
theorem StoreAt.vars_cell {w : World} {own : Nat → Prop} {p : Nat} {s : Sto} (h : StoreAt w own p s) : w.cell? ⟨p, 0, none⟩ = some (.int .i64 s.vars) := by
  obtain ⟨lv, mf, mk, H⟩ := h
  exact H.cells.1
theorem StoreAt.plt {w : World} {own : Nat → Prop} {p : Nat} {s : Sto} (h : StoreAt w own p s) : p < w.heap.size := by
  obtain ⟨lv, mf, mk, H⟩ := h
  exact H.lt p H.me

set_option maxHeartbeats 1000000 in
theorem has1_calls {w : World} {own : Nat → Prop} {p pl : Nat} {s : Sto} (h : StoreAt w own p s) (hl : w.heap[pl]? = some (.cells #[.pointer (some ⟨p, 0, none⟩)] 23)) (x : Int) :
    Calls Try.prog 55 (#[.int .i64 x] ++ #[.pointer (some ⟨pl, 0, none⟩)]) w fun e w' => e = .returned (.bool (!inB s x)) ∧ w = w' := by
  show Calls Try.prog 55 #[.int .i64 x, .pointer (some ⟨pl, 0, none⟩)] w _
  obtain ⟨g, cap, c2, _, _, _⟩ := h.len
  have c0 : w.cell? ⟨pl, 0, none⟩ = some (.pointer (some ⟨p, 0, none⟩)) := blk_cell hl 0
  by_cases h0 : x < 0
  · have hv : inB s x = false := by simp [inB]; omega
    have d0 : decide (x < 0) = true := by simp [h0]
    have Hv := Lib.hid hv
    clear hv h0
    go_enter Try.func55, Try.ntmps55
    go_wp2
    go_ret
    exact ⟨by rw [Hv.out]; rfl, rfl⟩
  · have hv : inB s x = !decide (x ≥ (s.l.length : Int)) := by simp [inB]; rw [Bool.eq_iff_iff]; simp; omega
    have d0 : decide (x < 0) = false := by simp; omega
    have Hv := Lib.hid hv
    clear hv h0
    go_enter Try.func55, Try.ntmps55
    go_wp2
    go_ret
    exact ⟨by rw [Hv.out, Bool.not_not]; rfl, rfl⟩

theorem has_calls {w : World} {own : Nat → Prop} {p : Nat} {s : Sto} (h : StoreAt w own p s) (v : Value) (xs : List Int) (hv : Sees w (Value.int .i64) v xs) :
    Calls Try.prog 36 #[.pointer (some ⟨p, 0, none⟩), v] w fun e w' => e = .returned (.bool (xs.all (inB s))) ∧ w.alloc (.cells #[.pointer (some ⟨p, 0, none⟩)] 23) = w' := by
  have hcf := fun (x : Int) w => call_enter (P := Try.prog) (f := 55) Try.func55 (by kernel_rfl) rfl (#[.int .i64 x] ++ #[.pointer (some ⟨w.heap.size, 0, none⟩)]) w
  have hF : Frm (fun _ => False) w (w.alloc (.cells #[.pointer (some ⟨p, 0, none⟩)] 23)) := (Frm.refl _ w).alloc _
  have Hc := Lib.hid (Sl.containsFunc_calls 55 #[.pointer (some ⟨w.heap.size, 0, none⟩)] (fun x => !inB s x) v xs (w.alloc (.cells #[.pointer (some ⟨p, 0, none⟩)] 23)) (hv.frm hF fun _ _ _ => id)
    (fun x w' => call_enter (P := Try.prog) (f := 55) Try.func55 (by kernel_rfl) rfl _ w') (fun x => has1_calls (h.alloc _) (blk_new _) x))
  have hmf : ∀ (fn : Fn) (first cap : Array Value) (w : World), (Instr.makeFunc fn first cap).run Try.prog w = .ok (.func fn first cap) w := fun _ _ _ _ => rfl
  have hnot : ∀ (x : Bool) (w : World), (Op.unary .not (.bool x)).run Try.prog w = .ok (.bool (!x)) w := fun _ _ => rfl
  have hfin : (!xs.any (fun x => !inB s x)) = xs.all (inB s) := by simp [List.all_eq_not_any_not]
  have Hfin := Lib.hid hfin
  clear hfin hcf hv h hF
  generalize xs.any (fun x => !inB s x) = b at *
  go_enter Try.func36, Try.ntmps36
  go_wp2_with fail
  refine Hc.out.mono ?_
  rintro e w' ⟨rfl, rfl⟩
  go_wp2
  go_ret
  exact ⟨by rw [← Hfin.out]; rfl, rfl⟩

set_option maxHeartbeats 1000000 in
theorem Ite_calls {w : World} {own : Nat → Prop} {p : Nat} {s : Sto} (hS : StoreAt w own p s) (k : Nat) (f g h : Int) (r : Int × Int) (s' : Sto) (hr : IteF k s f g h = some (r, s')) :
    Calls Try.prog 38 #[.pointer (some ⟨p, 0, none⟩), .int .i64 f, .int .i64 g, .int .i64 h] w (StPost own w p (.tuple #[.int .i64 r.1, .int .i64 r.2]) s') := by
  have hS1 := hS.alloc (.cells #[.int .i64 f, .int .i64 g, .int .i64 h] 3)
  have Hh := Lib.hid (has_calls hS1 (.slice (some ⟨w.heap.size, 0, none⟩) 3 3) [f, g, h] (sees_of_blk (blk_new _) rfl rfl (by decide)))
  have hb : [f, g, h].all (inB s) = (inB s f && inB s g && inB s h) := by simp [Bool.and_assoc]
  have Hb := Lib.hid hb
  clear hb
  have hS2 := hS1.alloc (.cells #[.pointer (some ⟨p, 0, none⟩)] 23)
  have hF : Moves own w own ((w.alloc (.cells #[.int .i64 f, .int .i64 g, .int .i64 h] 3)).alloc (.cells #[.pointer (some ⟨p, 0, none⟩)] 23)) := .of_frm (((Frm.refl _ _).alloc _).alloc _) fun _ h => .inl h
  have hnot : ∀ (x : Bool) (w : World), (Op.unary .not (.bool x)).run Try.prog w = .ok (.bool (!x)) w := fun _ _ => rfl
  unfold IteF at hr
  rw [← Hb.out] at hr
  clear Hb hS1
  cases hall : [f, g, h].all (inB s) with
  | false =>
    rw [hall] at hr Hh
    simp only [Bool.false_eq_true, if_false] at hr
    cases hr
    have hfin := Lib.hid (show StPost own w p (.tuple #[.int .i64 0, .int .i64 92]) s (.returned (.tuple #[.int .i64 0, .int .i64 92])) _ from ⟨rfl, own, hS2, hF⟩)
    clear hS hS2 hF hall
    go_enter Try.func38, Try.ntmps38
    go_wp2_with fail
    refine Hh.out.mono ?_
    rintro e w' ⟨rfl, rfl⟩
    go_wp2
    go_ret2
    exact hfin.out
  | true =>
    rw [hall] at hr Hh
    simp only [if_true] at hr
    have Hi := Lib.hid (ite_calls k hS2 f g h r s' hr)
    clear hS hS2 hall hr
    go_enter Try.func38, Try.ntmps38
    go_wp2_with fail
    refine Hh.out.mono ?_
    rintro e w' ⟨rfl, rfl⟩
    go_wp2_with fail
    refine Hi.out.mono ?_
    rintro e w' ⟨rfl, own', h1, h2⟩
    go_wp2
    go_ret2
    exact ⟨rfl, own', h1, hF.trans h2⟩

theorem Not_calls {w : World} {own : Nat → Prop} {p : Nat} {s : Sto} (hS : StoreAt w own p s) (k : Nat) (f : Int) (r : Int × Int) (s' : Sto) (hr : IteF k s f 0 1 = some (r, s')) :
    Calls Try.prog 19 #[.pointer (some ⟨p, 0, none⟩), .int .i64 f] w (StPost own w p (.tuple #[.int .i64 r.1, .int .i64 r.2]) s') := by
  have Hi := Lib.hid (Ite_calls hS k f 0 1 r s' hr)
  clear hS hr
  go_enter Try.func19, Try.ntmps19
  go_wp2_with fail
  refine Hi.out.mono ?_
  rintro e w' ⟨rfl, own', h1, h2⟩
  go_wp2
  go_ret2
  exact ⟨rfl, own', h1, h2⟩
theorem And_calls {w : World} {own : Nat → Prop} {p : Nat} {s : Sto} (hS : StoreAt w own p s) (k : Nat) (f g : Int) (r : Int × Int) (s' : Sto) (hr : IteF k s f g 0 = some (r, s')) :
    Calls Try.prog 18 #[.pointer (some ⟨p, 0, none⟩), .int .i64 f, .int .i64 g] w (StPost own w p (.tuple #[.int .i64 r.1, .int .i64 r.2]) s') := by
  have Hi := Lib.hid (Ite_calls hS k f g 0 r s' hr)
  clear hS hr
  go_enter Try.func18, Try.ntmps18
  go_wp2_with fail
  refine Hi.out.mono ?_
  rintro e w' ⟨rfl, own', h1, h2⟩
  go_wp2
  go_ret2
  exact ⟨rfl, own', h1, h2⟩
theorem Or_calls {w : World} {own : Nat → Prop} {p : Nat} {s : Sto} (hS : StoreAt w own p s) (k : Nat) (f g : Int) (r : Int × Int) (s' : Sto) (hr : IteF k s f 1 g = some (r, s')) :
    Calls Try.prog 20 #[.pointer (some ⟨p, 0, none⟩), .int .i64 f, .int .i64 g] w (StPost own w p (.tuple #[.int .i64 r.1, .int .i64 r.2]) s') := by
  have Hi := Lib.hid (Ite_calls hS k f 1 g r s' hr)
  clear hS hr
  go_enter Try.func20, Try.ntmps20
  go_wp2_with fail
  refine Hi.out.mono ?_
  rintro e w' ⟨rfl, own', h1, h2⟩
  go_wp2
  go_ret2
  exact ⟨rfl, own', h1, h2⟩

theorem Iff_calls {w : World} {own : Nat → Prop} {p : Nat} {s : Sto} (hS : StoreAt w own p s) (k : Nat) (f g : Int) (r : Int × Int) (s' : Sto) (hr : iffF k s f g = some (r, s')) :
    Calls Try.prog 22 #[.pointer (some ⟨p, 0, none⟩), .int .i64 f, .int .i64 g] w (StPost own w p (.tuple #[.int .i64 r.1, .int .i64 r.2]) s') := by
  unfold iffF at hr
  cases hn : IteF k s g 0 1 with
  | none => rw [hn] at hr; cases hr
  | some q =>
    obtain ⟨⟨n, e⟩, s1⟩ := q
    rw [hn] at hr
    simp only at hr
    have Hn := Lib.hid (Not_calls hS k g _ _ hn)
    by_cases he : e = 0
    · subst he
      simp only [ne_eq, not_true_eq_false, if_false] at hr
      have Hr := Lib.hid hr
      clear hr hn hS
      go_enter Try.func22, Try.ntmps22
      go_wp2_with fail
      refine Hn.out.mono ?_
      rintro e w' ⟨rfl, own', h1, h2⟩
      have Hi := Lib.hid (Ite_calls h1 k f g n r s' Hr.out)
      clear h1
      go_wp2_with fail
      refine Hi.out.mono ?_
      rintro e w' ⟨rfl, own'', h3, h4⟩
      go_wp2
      go_ret2
      exact ⟨rfl, own'', h3, h2.trans h4⟩
    · simp only [ne_eq, he, not_false_eq_true, if_true] at hr
      cases hr
      have b : (e != 0) = true := by simp [he]
      clear hn hS he
      go_enter Try.func22, Try.ntmps22
      go_wp2_with fail
      refine Hn.out.mono ?_
      rintro e w' ⟨rfl, own', h1, h2⟩
      go_wp2
      go_ret2
      exact ⟨rfl, own', h1, h2⟩
end BddW
end Go.Proofs.Ytjajpdmmoiiojaa
