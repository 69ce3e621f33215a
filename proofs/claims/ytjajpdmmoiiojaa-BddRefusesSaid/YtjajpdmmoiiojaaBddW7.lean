/- Package bdd, walked on: Exists, support, Size, Nodes, Works. -/
import Derived.Test.YtjajpdmmoiiojaaBddW6
namespace Go.Proofs.Ytjajpdmmoiiojaa
open Go.RowKit Go.Mem Go.Bdd
namespace BddW

/-! ### Closures over the store: what else was there stays -/
def PinRep (W0 : World) (own0 : Nat → Prop) (d p : Nat) (w : World) (own : Nat → Prop) (s : Sto) : Prop :=
  StoreAt w own p s ∧ ∀ b, b < W0.heap.size → b ≠ d → ¬ own0 b → (w.heap[b]? = W0.heap[b]? ∧ ¬ own b)

theorem StoreAt.ownlt {w : World} {own : Nat → Prop} {p : Nat} {s : Sto} (h : StoreAt w own p s) : ∀ b, own b → b < w.heap.size := by
  obtain ⟨lv, mf, mk, H⟩ := h
  exact H.lt

theorem closure_pin {W0 : World} {own0 : Nat → Prop} {d p : Nat} {fid : FuncId} {cap : Array Value} {one : Sto → Int → Int → Int → Option ((Int × Int) × Sto)}
    (call : ∀ (w : World) (own : Nat → Prop) (s : Sto) (v no yes : Int) (r : Int × Int) (s' : Sto), PinRep W0 own0 d p w own s → one s v no yes = some (r, s') →
      Calls Try.prog fid (#[.int .i64 v, .int .i64 no, .int .i64 yes] ++ cap) w (StPost own w p (.tuple #[.int .i64 r.1, .int .i64 r.2]) s'))
    (enter : ∀ (args : Array Value) (w : World), (callFunc fid args).run Try.prog w = .ok (.enter fid args) w) : Closure (PinRep W0 own0 d p) Sto.l p d fid cap one where
  frm := fun h hF hd => ⟨h.1.frm hF fun b hb e => hd (by cases e; exact hb), fun b hb hbd ho => ⟨(hF.block b (heap_lt (h.2 b hb hbd ho).1 hb) hbd).trans (h.2 b hb hbd ho).1, (h.2 b hb hbd ho).2⟩⟩
  nodes := fun h => h.1.nodes
  lt := fun h => h.1.ownlt
  plt := fun h => h.1.plt
  enter := enter
  call := fun w own s v no yes r s' h hr => (call w own s v no yes r s' h hr).mono fun e w' ⟨he, own', h1, h2⟩ => ⟨he, own', ⟨h1, fun b hb hbd ho => by
    have hk := h.2 b hb hbd ho
    have hlt := heap_lt hk.1 hb
    exact ⟨(h2.1.block b hlt hk.2).trans hk.1, fun h3 => by rcases h2.2 b h3 with h4 | h4; exact hk.2 h4; omega⟩⟩, h2⟩

/-! ### Exists -/
set_option maxHeartbeats 1000000 in
theorem exists1_calls {w : World} {own : Nat → Prop} {p pl : Nat} {s : Sto} (h : StoreAt w own p s) (hl : w.heap[pl]? = some (.cells #[.pointer (some ⟨p, 0, none⟩)] 23)) (x : Int) :
    Calls Try.prog 40 (#[.int .i64 x] ++ #[.pointer (some ⟨pl, 0, none⟩)]) w fun e w' => e = .returned (.bool (badVar s x)) ∧ w = w' := by
  show Calls Try.prog 40 #[.int .i64 x, .pointer (some ⟨pl, 0, none⟩)] w _
  have c2 := h.vars_cell
  have c0 : w.cell? ⟨pl, 0, none⟩ = some (.pointer (some ⟨p, 0, none⟩)) := blk_cell hl 0
  by_cases h0 : x < 0
  · have hv : badVar s x = true := by simp [badVar]; omega
    have d0 : decide (x < 0) = true := by simp [h0]
    have Hv := Lib.hid hv
    clear hv h0
    go_enter Try.func40, Try.ntmps40
    go_wp2
    go_ret
    exact ⟨by rw [Hv.out]; rfl, rfl⟩
  · have hv : badVar s x = decide (x ≥ s.vars) := by simp only [badVar]; rw [Bool.eq_iff_iff]; simp; omega
    have d0 : decide (x < 0) = false := by simp; omega
    have Hv := Lib.hid hv
    clear hv h0
    go_enter Try.func40, Try.ntmps40
    go_wp2
    go_ret
    exact ⟨by rw [Hv.out]; rfl, rfl⟩

set_option maxHeartbeats 1000000 in
theorem exists2_calls {W0 : World} {own0 : Nat → Prop} {d p ps pv : Nat} {vv : Value} {vars : List Int} (hps : W0.heap[ps]? = some (.cells #[.pointer (some ⟨p, 0, none⟩)] 23)) (hpv : W0.heap[pv]? = some (.cells #[vv] 28 (0, 0))) (hs : Sees W0 (Value.int .i64) vv vars)
    (nd : ps ≠ d ∧ pv ≠ d ∧ ∀ g, InBlk vv g → vars ≠ [] → g < W0.heap.size → g ≠ d) (no0 : ¬ own0 ps ∧ ¬ own0 pv ∧ ∀ g, InBlk vv g → vars ≠ [] → g < W0.heap.size → ¬ own0 g) (k : Nat)
    (w : World) (own : Nat → Prop) (s : Sto) (v no yes : Int) (r : Int × Int) (s' : Sto) (hR : PinRep W0 own0 d p w own s) (hr : existsOne k vars s v no yes = some (r, s')) :
    Calls Try.prog 42 (#[.int .i64 v, .int .i64 no, .int .i64 yes] ++ #[.pointer (some ⟨pv, 0, none⟩), .pointer (some ⟨ps, 0, none⟩)]) w (StPost own w p (.tuple #[.int .i64 r.1, .int .i64 r.2]) s') := by
  show Calls Try.prog 42 #[.int .i64 v, .int .i64 no, .int .i64 yes, .pointer (some ⟨pv, 0, none⟩), .pointer (some ⟨ps, 0, none⟩)] w _
  obtain ⟨hS, hpin⟩ := hR
  have c0 : w.cell? ⟨ps, 0, none⟩ = some (.pointer (some ⟨p, 0, none⟩)) := blk_cell ((hpin ps (lt_of_block hps) nd.1 no0.1).1.trans hps) 0
  have c1 : w.cell? ⟨pv, 0, none⟩ = some vv := blk_cell ((hpin pv (lt_of_block hpv) nd.2.1 no0.2.1).1.trans hpv) 0
  have Hc := Lib.hid (Sl.contains_calls vv vars v w (Sees.heap hs fun g hg hx hl => (hpin g hl (nd.2.2 g hg hx hl) (no0.2.2 g hg hx hl)).1))
  unfold existsOne at hr
  by_cases hv : v ∈ vars
  · rw [if_pos hv] at hr
    rw [decide_eq_true hv] at Hc
    have Hi := Lib.hid (ite_calls k hS no 1 yes r s' hr)
    clear hS hpin hr hv nd no0 hs hps hpv
    go_enter Try.func42, Try.ntmps42
    go_wp2_with fail
    refine Hc.out.mono ?_
    rintro e w' ⟨rfl, rfl⟩
    go_wp2_with fail
    refine Hi.out.mono ?_
    rintro e w' ⟨rfl, own', h1, h2⟩
    go_wp2
    go_ret2
    exact ⟨rfl, own', h1, h2⟩
  · rw [if_neg hv] at hr
    rw [decide_eq_false hv] at Hc
    have Hi := Lib.hid (make_calls hS v no yes)
    simp only [Option.some.injEq] at hr
    rw [hr] at Hi
    clear hS hpin hr hv nd no0 hs hps hpv
    go_enter Try.func42, Try.ntmps42
    go_wp2_with fail
    refine Hc.out.mono ?_
    rintro e w' ⟨rfl, rfl⟩
    go_wp2_with fail
    refine Hi.out.mono ?_
    rintro e w' ⟨rfl, own', h1, h2⟩
    go_wp2
    go_ret2
    exact ⟨rfl, own', h1, h2⟩

set_option maxRecDepth 100000 in
set_option maxHeartbeats 2000000 in
theorem Exists_calls {w : World} {own : Nat → Prop} {p : Nat} {s : Sto} (hS : StoreAt w own p s) (k : Nat) (f : Int) (vv : Value) (vars : List Int) (hv : Sees w (Value.int .i64) vv vars) (hvo : ∀ g, InBlk vv g → g < w.heap.size → ¬ own g)
    (r : Int × Int) (s' : Sto) (hr : existsF k s f vars = some (r, s')) :
    Calls Try.prog 21 #[.pointer (some ⟨p, 0, none⟩), .int .i64 f, vv] w (StPost own w p (.tuple #[.int .i64 r.1, .int .i64 r.2]) s') := by
  have hmf : ∀ (fn : Fn) (first cap : Array Value) (w : World), (Instr.makeFunc fn first cap).run Try.prog w = .ok (.func fn first cap) w := fun _ _ _ _ => rfl
  have hmm := @run_makeMap Try.prog
  have hnot : ∀ (x : Bool) (w : World), (Op.unary .not (.bool x)).run Try.prog w = .ok (.bool (!x)) w := fun _ _ => rfl
  obtain ⟨A, c, rfl⟩ : ∃ A c, vv = .slice A vars.length c := by
    rcases hv with ⟨e, rfl⟩ | ⟨g, o, c, e, _⟩
    · exact ⟨none, 0, e⟩
    · exact ⟨_, c, e⟩
  have hF1 : Frm (fun _ => False) w ((w.alloc (.cells #[.pointer (some ⟨p, 0, none⟩)] 23)).alloc (.cells #[(.slice A vars.length c)] 28)) := ((Frm.refl _ _).alloc _).alloc _
  have hps : ((w.alloc (.cells #[.pointer (some ⟨p, 0, none⟩)] 23)).alloc (.cells #[(.slice A vars.length c)] 28)).heap[w.heap.size]? = some (.cells #[.pointer (some ⟨p, 0, none⟩)] 23) := blk_alloc (blk_new _) _
  have hpv : ((w.alloc (.cells #[.pointer (some ⟨p, 0, none⟩)] 23)).alloc (.cells #[(.slice A vars.length c)] 28)).heap[w.heap.size + 1]? = some (.cells #[(.slice A vars.length c)] 28 (0, 0)) := blk_new_at _ (by simp)
  have hF2 : Frm (fun _ => False) ((w.alloc (.cells #[.pointer (some ⟨p, 0, none⟩)] 23)).alloc (.cells #[(.slice A vars.length c)] 28)) (((w.alloc (.cells #[.pointer (some ⟨p, 0, none⟩)] 23)).alloc (.cells #[(.slice A vars.length c)] 28)).alloc (.cells #[.int .i64 f] 3)) := (Frm.refl _ _).alloc _
  have hS2 : StoreAt (((w.alloc (.cells #[.pointer (some ⟨p, 0, none⟩)] 23)).alloc (.cells #[(.slice A vars.length c)] 28)).alloc (.cells #[.int .i64 f] 3)) own p s := hS.frm (hF1.trans hF2 fun _ _ => id) fun _ _ => id
  have hse2 : Sees (((w.alloc (.cells #[.pointer (some ⟨p, 0, none⟩)] 23)).alloc (.cells #[(.slice A vars.length c)] 28)).alloc (.cells #[.int .i64 f] 3)) (Value.int .i64) (.slice (some ⟨w.heap.size + 1 + 1, 0, none⟩) 1 1) [f] := sees_of_blk (blk_new_at (.cells #[.int .i64 f] 3) (by simp)) rfl rfl (by decide)
  have Hh := Lib.hid (has_calls hS2 (.slice (some ⟨w.heap.size + 1 + 1, 0, none⟩) 1 1) [f] hse2)
  have hF3 : Frm (fun _ => False) (((w.alloc (.cells #[.pointer (some ⟨p, 0, none⟩)] 23)).alloc (.cells #[(.slice A vars.length c)] 28)).alloc (.cells #[.int .i64 f] 3)) ((((w.alloc (.cells #[.pointer (some ⟨p, 0, none⟩)] 23)).alloc (.cells #[(.slice A vars.length c)] 28)).alloc (.cells #[.int .i64 f] 3)).alloc (.cells #[.pointer (some ⟨p, 0, none⟩)] 23)) := (Frm.refl _ _).alloc _
  have hF03 : Frm (fun _ => False) w ((((w.alloc (.cells #[.pointer (some ⟨p, 0, none⟩)] 23)).alloc (.cells #[(.slice A vars.length c)] 28)).alloc (.cells #[.int .i64 f] 3)).alloc (.cells #[.pointer (some ⟨p, 0, none⟩)] 23)) := (hF1.trans hF2 fun _ _ => id).trans hF3 fun _ _ => id
  have hF13 : Frm (fun _ => False) ((w.alloc (.cells #[.pointer (some ⟨p, 0, none⟩)] 23)).alloc (.cells #[(.slice A vars.length c)] 28)) ((((w.alloc (.cells #[.pointer (some ⟨p, 0, none⟩)] 23)).alloc (.cells #[(.slice A vars.length c)] 28)).alloc (.cells #[.int .i64 f] 3)).alloc (.cells #[.pointer (some ⟨p, 0, none⟩)] 23)) := hF2.trans hF3 fun _ _ => id
  have hS3 : StoreAt ((((w.alloc (.cells #[.pointer (some ⟨p, 0, none⟩)] 23)).alloc (.cells #[(.slice A vars.length c)] 28)).alloc (.cells #[.int .i64 f] 3)).alloc (.cells #[.pointer (some ⟨p, 0, none⟩)] 23)) own p s := hS.frm hF03 fun _ _ => id
  have hps3 := blk_frm hps hF13 id
  have hpv3 := blk_frm hpv hF13 id
  have hv3 := hv.frm hF03 fun _ _ _ => id
  have hM3 : Moves own w own ((((w.alloc (.cells #[.pointer (some ⟨p, 0, none⟩)] 23)).alloc (.cells #[(.slice A vars.length c)] 28)).alloc (.cells #[.int .i64 f] 3)).alloc (.cells #[.pointer (some ⟨p, 0, none⟩)] 23)) := .of_frm (hF03.mono fun _ _ h => h.elim) fun _ h => .inl h
  have hol := hS.ownlt
  unfold existsF at hr
  cases hin : inB s f with
  | false =>
    rw [hin] at hr
    simp only [if_true] at hr
    cases hr
    have hall : [f].all (inB s) = false := by simp [hin]
    rw [hall] at Hh
    have hfin := Lib.hid (show StPost own w p (.tuple #[.int .i64 0, .int .i64 92]) s (.returned (.tuple #[.int .i64 0, .int .i64 92])) ((((w.alloc (.cells #[.pointer (some ⟨p, 0, none⟩)] 23)).alloc (.cells #[(.slice A vars.length c)] 28)).alloc (.cells #[.int .i64 f] 3)).alloc (.cells #[.pointer (some ⟨p, 0, none⟩)] 23)) from ⟨rfl, own, hS3, hM3⟩)
    clear hS hF1 hps hpv hF2 hS2 hse2 hF3 hF03 hF13 hS3 hps3 hpv3 hv3 hM3 hall hin hv hvo hol
    go_enter Try.func21, Try.ntmps21
    go_wp2_with fail
    refine Hh.out.mono ?_
    rintro e w' ⟨rfl, rfl⟩
    go_wp2
    go_ret2
    exact hfin.out
  | true =>
    rw [hin] at hr
    simp only [Bool.true_eq_false, if_false] at hr
    have hall : [f].all (inB s) = true := by simp [hin]
    rw [hall] at Hh
    have Hc := Lib.hid (Sl.containsFunc_calls 40 #[.pointer (some ⟨w.heap.size, 0, none⟩)] (badVar s) (.slice A vars.length c) vars ((((w.alloc (.cells #[.pointer (some ⟨p, 0, none⟩)] 23)).alloc (.cells #[(.slice A vars.length c)] 28)).alloc (.cells #[.int .i64 f] 3)).alloc (.cells #[.pointer (some ⟨p, 0, none⟩)] 23)) hv3
      (fun x w' => call_enter (P := Try.prog) (f := 40) Try.func40 (by kernel_rfl) rfl _ w') (fun x => exists1_calls hS3 hps3 x))
    cases hbad : vars.any (badVar s) with
    | true =>
      rw [hbad] at hr Hc
      simp only [if_true] at hr
      cases hr
      have hfin := Lib.hid (show StPost own w p (.tuple #[.int .i64 0, .int .i64 91]) s (.returned (.tuple #[.int .i64 0, .int .i64 91])) ((((w.alloc (.cells #[.pointer (some ⟨p, 0, none⟩)] 23)).alloc (.cells #[(.slice A vars.length c)] 28)).alloc (.cells #[.int .i64 f] 3)).alloc (.cells #[.pointer (some ⟨p, 0, none⟩)] 23)) from ⟨rfl, own, hS3, hM3⟩)
      have hS3' := Lib.hid hS3
      clear hS hF1 hps hpv hF2 hS2 hse2 hF3 hF03 hF13 hS3 hps3 hpv3 hv3 hM3 hall hin hv hvo hbad hol
      go_enter Try.func21, Try.ntmps21
      go_wp2_with fail
      refine Hh.out.mono ?_
      rintro e w' ⟨rfl, rfl⟩
      go_wp2_with fail
      refine Hc.out.mono ?_
      rintro e w' ⟨rfl, rfl⟩
      go_wp2
      go_ret2
      exact hfin.out
    | false =>
      rw [hbad] at hr Hc
      simp only [Bool.false_eq_true, if_false] at hr
      cases ho : overF Sto.l (existsOne k vars) k s [] f with
      | none => rw [ho] at hr; cases hr
      | some q =>
      obtain ⟨r0, s0, m0⟩ := q
      rw [ho] at hr
      cases hr
      have hF34 : Frm (fun _ => False) ((((w.alloc (.cells #[.pointer (some ⟨p, 0, none⟩)] 23)).alloc (.cells #[(.slice A vars.length c)] 28)).alloc (.cells #[.int .i64 f] 3)).alloc (.cells #[.pointer (some ⟨p, 0, none⟩)] 23)) (((((w.alloc (.cells #[.pointer (some ⟨p, 0, none⟩)] 23)).alloc (.cells #[(.slice A vars.length c)] 28)).alloc (.cells #[.int .i64 f] 3)).alloc (.cells #[.pointer (some ⟨p, 0, none⟩)] 23)).alloc (.map #[] 0)) := (Frm.refl _ _).alloc _
      have hsz3 : ((((w.alloc (.cells #[.pointer (some ⟨p, 0, none⟩)] 23)).alloc (.cells #[(.slice A vars.length c)] 28)).alloc (.cells #[.int .i64 f] 3)).alloc (.cells #[.pointer (some ⟨p, 0, none⟩)] 23)).heap.size = w.heap.size + 4 := by simp
      have hS4 : StoreAt (((((w.alloc (.cells #[.pointer (some ⟨p, 0, none⟩)] 23)).alloc (.cells #[(.slice A vars.length c)] 28)).alloc (.cells #[.int .i64 f] 3)).alloc (.cells #[.pointer (some ⟨p, 0, none⟩)] 23)).alloc (.map #[] 0)) own p s := hS3.frm hF34 fun _ _ => id
      have hps4 := blk_frm hps3 hF34 id
      have hpv4 := blk_frm hpv3 hF34 id
      have hv4 := hv3.frm hF34 fun _ _ _ => id
      have hm4 : IMap (((((w.alloc (.cells #[.pointer (some ⟨p, 0, none⟩)] 23)).alloc (.cells #[(.slice A vars.length c)] 28)).alloc (.cells #[.int .i64 f] 3)).alloc (.cells #[.pointer (some ⟨p, 0, none⟩)] 23)).alloc (.map #[] 0)) (w.heap.size + 1 + 1 + 1 + 1) [] := by have := mapAt_new ((((w.alloc (.cells #[.pointer (some ⟨p, 0, none⟩)] 23)).alloc (.cells #[(.slice A vars.length c)] 28)).alloc (.cells #[.int .i64 f] 3)).alloc (.cells #[.pointer (some ⟨p, 0, none⟩)] 23)) (Value.int .i64) (Value.int .i64); simpa using this
      have hnd : ¬ own (w.heap.size + 1 + 1 + 1 + 1) := fun h => by have := hol _ h; omega
      have hC := closure_pin (W0 := (((((w.alloc (.cells #[.pointer (some ⟨p, 0, none⟩)] 23)).alloc (.cells #[(.slice A vars.length c)] 28)).alloc (.cells #[.int .i64 f] 3)).alloc (.cells #[.pointer (some ⟨p, 0, none⟩)] 23)).alloc (.map #[] 0))) (own0 := own) (d := (w.heap.size + 1 + 1 + 1 + 1)) (p := p) (fid := 42) (cap := #[.pointer (some ⟨w.heap.size + 1, 0, none⟩), .pointer (some ⟨w.heap.size, 0, none⟩)]) (one := existsOne k vars)
        (fun w' own' s v no yes r s' hR hr => exists2_calls hps4 hpv4 hv4 ⟨by omega, by omega, fun g hg hx _ e => by have := hv.inlt hg hx; omega⟩ ⟨fun h => by have := hol _ h; omega, fun h => by have := hol _ h; omega, fun g hg hx _ => hvo g hg (hv.inlt hg hx)⟩ k w' own' s v no yes r s' hR hr)
        (fun args w => call_enter Try.func42 (by kernel_rfl) rfl args w)
      have Ho := Lib.hid (over_calls hC k (((((w.alloc (.cells #[.pointer (some ⟨p, 0, none⟩)] 23)).alloc (.cells #[(.slice A vars.length c)] 28)).alloc (.cells #[.int .i64 f] 3)).alloc (.cells #[.pointer (some ⟨p, 0, none⟩)] 23)).alloc (.map #[] 0)) own s [] f _ _ _ ⟨hS4, fun b hb _ ho => ⟨rfl, ho⟩⟩ hm4 hnd ho)
      have hF04 : Frm own w (((((w.alloc (.cells #[.pointer (some ⟨p, 0, none⟩)] 23)).alloc (.cells #[(.slice A vars.length c)] 28)).alloc (.cells #[.int .i64 f] 3)).alloc (.cells #[.pointer (some ⟨p, 0, none⟩)] 23)).alloc (.map #[] 0)) := (hF03.trans hF34 fun _ _ => id).mono fun _ _ h => h.elim
      have hz4 : (((((w.alloc (.cells #[.pointer (some ⟨p, 0, none⟩)] 23)).alloc (.cells #[(.slice A vars.length c)] 28)).alloc (.cells #[.int .i64 f] 3)).alloc (.cells #[.pointer (some ⟨p, 0, none⟩)] 23)).alloc (.map #[] 0)).heap.size = w.heap.size + 5 := by simp
      have q2 : ((((w.alloc (.cells #[.pointer (some ⟨p, 0, none⟩)] 23)).alloc (.cells #[(.slice A vars.length c)] 28)).alloc (.cells #[.int .i64 f] 3)).alloc (.cells #[.pointer (some ⟨p, 0, none⟩)] 23)).cell? ⟨w.heap.size, 0, none⟩ = some (.pointer (some ⟨p, 0, none⟩)) := blk_cell hps3 0
      clear hS hF1 hps hpv hF2 hS2 hse2 hF3 hF03 hF13 hS3 hps3 hpv3 hv3 hM3 hall hin hv hvo hbad hF34 hS4 hps4 hpv4 hv4 hm4 hnd hC ho hsz3
      go_enter Try.func21, Try.ntmps21
      go_wp2_with fail
      refine Hh.out.mono ?_
      rintro e w' ⟨rfl, rfl⟩
      go_wp2_with fail
      refine Hc.out.mono ?_
      rintro e w' ⟨rfl, rfl⟩
      go_wp2_with fail
      refine Ho.out.mono ?_
      rintro e w' ⟨rfl, own', hR', hm', hd', hF', ho'⟩
      go_wp2
      go_ret2
      exact ⟨rfl, own', hR'.1, .of_frm (hF04.trans hF' fun x hx h => by rcases h with h | h; exact h; omega) fun b hb => by rcases ho' b hb with h | h; exact .inl h; exact .inr (by omega)⟩
end BddW
end Go.Proofs.Ytjajpdmmoiiojaa
