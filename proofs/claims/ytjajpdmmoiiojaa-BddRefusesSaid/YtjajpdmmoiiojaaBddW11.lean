/- Package bdd, walked on: Count. -/
import Derived.Test.YtjajpdmmoiiojaaBddW10
import Derived.Laws.EntriesVeiled
namespace Go.Proofs.Ytjajpdmmoiiojaa
open Go.RowKit Go.Mem Go.Bdd
namespace BddW

theorem zeroU64 (w : World) : (zeroValue 35).run Try.prog w = .ok (.int .u64 0) w := by kernel_rfl
abbrev UMap (w : World) (d : Nat) (m : MII) : Prop := MapAt w d (Value.int .i64) (Value.int .u64) m

structure CountAt (w : World) (p ps pd pf d : Nat) (l : List T3) : Prop where
  s : w.heap[ps]? = some (.cells #[.pointer (some ⟨p, 0, none⟩)] 23)
  m : w.heap[pd]? = some (.cells #[.map (some d)] 87 (0, 0))
  f : w.heap[pf]? = some (.cells #[.func (.func 37) #[] #[.pointer (some ⟨ps, 0, none⟩), .pointer (some ⟨pd, 0, none⟩), .pointer (some ⟨pf, 0, none⟩)]] 88 (0, 0))
  nodes : NodesAt w p l
  np : p ≠ d
  nl : ∀ g n c, w.cell? ⟨p, 2, none⟩ = some (.slice (some ⟨g, 0, none⟩) n c) → g ≠ d
  ne : ps ≠ d ∧ pd ≠ d ∧ pf ≠ d
theorem CountAt.frm {w w' : World} {p ps pd pf d : Nat} {l : List T3} (h : CountAt w p ps pd pf d l) (hF : Frm (fun b => b = d) w w') : CountAt w' p ps pd pf d l := by
  obtain ⟨g, c, hc, hl, hn⟩ := h.nodes
  have hp := hF.block p (World.block_lt_of_cell? _ _ hc) h.np
  refine ⟨blk_frm h.s hF h.ne.1, blk_frm h.m hF h.ne.2.1, blk_frm h.f hF h.ne.2.2, h.nodes.heap hF.size hp fun g n c e => ?_, h.np, fun g n c e => ?_, h.ne⟩
  · rw [hc] at e
    cases e
    exact hF.block _ hl (h.nl _ _ _ hc)
  · rw [World.cell?_of_block (w := w) (a := ⟨p, 2, none⟩) hp] at e
    exact h.nl _ _ _ e

set_option maxRecDepth 100000 in
set_option maxHeartbeats 4000000 in
theorem count1_calls {p ps pd pf d : Nat} {l : List T3} : ∀ (k : Nat) (w : World) (m : MII) (f v : Int) (r : Int) (m' : MII), CountAt w p ps pd pf d l → UMap w d m → fromF l k m f v = some (r, m') →
    Calls Try.prog 37 (#[.int .i64 f, .int .i64 v] ++ #[.pointer (some ⟨ps, 0, none⟩), .pointer (some ⟨pd, 0, none⟩), .pointer (some ⟨pf, 0, none⟩)]) w fun e w' => e = .returned (.int .u64 r) ∧ UMap w' d m' ∧ Frm (fun b => b = d) w w'
  | 0, w, m, f, v, r, m', _, _, hr => by simp [fromF] at hr
  | k + 1, w, m, f, v, r, m', hA, hm, hr => by
    have ih := Lib.hid (count1_calls (p := p) (ps := ps) (pd := pd) (pf := pf) (d := d) (l := l) k)
    have hcf := fun (args : Array Value) (w : World) => call_enter (P := Try.prog) (f := 37) Try.func37 (by kernel_rfl) rfl args w
    have hnot : ∀ (x : Bool) (w : World), (Op.unary .not (.bool x)).run Try.prog w = .ok (.bool (!x)) w := fun _ _ => rfl
    show Calls Try.prog 37 #[.int .i64 f, .int .i64 v, .pointer (some ⟨ps, 0, none⟩), .pointer (some ⟨pd, 0, none⟩), .pointer (some ⟨pf, 0, none⟩)] w _
    rw [fromF] at hr
    by_cases h0 : f = 0
    · rw [if_pos h0] at hr
      cases hr
      have hb : (f == 0) = true := by simp [h0]
      have hm' := Lib.hid hm
      clear h0 hm hA ih hcf
      go_enter Try.func37, Try.ntmps37
      go_wp2
      go_ret
      exact ⟨rfl, hm'.out, Frm.refl _ _⟩
    · rw [if_neg h0] at hr
      have hb : (f == 0) = false := by simp [h0]
      cases hn : nth l f with
      | none => rw [hn] at hr; cases hr
      | some n =>
      rw [hn] at hr
      obtain ⟨n0, n1, n2⟩ := n
      simp only at hr
      have c0 : w.cell? ⟨ps, 0, none⟩ = some (.pointer (some ⟨p, 0, none⟩)) := blk_cell hA.s 0
      obtain ⟨g, gc, c2, hgl, hcells⟩ := hA.nodes
      obtain ⟨x0, x1, x2⟩ := hcells f _ hn
      obtain ⟨lf0, lf1⟩ := nth_lt hn
      have hpl := World.block_lt_of_cell? _ _ c2
      have hdl := hm.lt
      have hF1 : Frm (fun b => b = d) w (w.alloc (.cells #[.int .i64 n0, .int .i64 n1, .int .i64 n2] 63)) := (Frm.refl _ _).alloc _
      have hA1 := hA.frm hF1
      have hm1 : UMap (w.alloc (.cells #[.int .i64 n0, .int .i64 n1, .int .i64 n2] 63)) d m := mapAt_of_block hm (Below.heap_alloc _ _ _ hdl)
      have d1 : (w.alloc (.cells #[.int .i64 n0, .int .i64 n1, .int .i64 n2] 63)).cell? ⟨pd, 0, none⟩ = some (.map (some d)) := blk_cell hA1.m 0
      have hlk := lookup_run keyInt Try.underlying87 zeroU64 hm1 f true
      simp only [if_true] at hlk
      have hpll := lt_of_block hA.s
      have hpdl := lt_of_block hA.m
      have hpfl := lt_of_block hA.f
      clear hcells hn h0
      cases hget : mget m f with
      | some c =>
        rw [hget] at hr
        cases hr
        have hlk' : (Instr.lookup 87 (.map (some d)) (.int .i64 f) true).run Try.prog (w.alloc (.cells #[.int .i64 n0, .int .i64 n1, .int .i64 n2] 63)) = .ok (.tuple #[.int .u64 c, .bool true]) (w.alloc (.cells #[.int .i64 n0, .int .i64 n1, .int .i64 n2] 63)) := by rw [hlk]; simp [mval, hget]
        have hm1' := Lib.hid hm1
        have hF1' := Lib.hid hF1
        clear hlk hget hm1 hm hA hA1 ih hF1 hcf
        go_enter Try.func37, Try.ntmps37
        go_wp2
        go_ret
        exact ⟨rfl, hm1'.out, hF1'.out⟩
      | none =>
        rw [hget] at hr
        simp only at hr
        have hlk' : (Instr.lookup 87 (.map (some d)) (.int .i64 f) true).run Try.prog (w.alloc (.cells #[.int .i64 n0, .int .i64 n1, .int .i64 n2] 63)) = .ok (.tuple #[.int .u64 0, .bool false]) (w.alloc (.cells #[.int .i64 n0, .int .i64 n1, .int .i64 n2] 63)) := by rw [hlk]; simp [mval, hget]
        clear hlk hget
        by_cases h1 : f ≤ 1
        · rw [if_pos h1] at hr
          cases hr
          have b1 : ¬ f > 1 := by omega
          have hF1' := Lib.hid hF1
          clear h1 hm hA hA1 ih hF1 hcf
          go_enter Try.func37, Try.ntmps37
          go_wp2_with (first | (at_mapUpdate; refine wpList_update rfl _ _ _ 87 rfl keyInt Try.underlying87 f 1 rfl rfl rfl hm1 ?_; intro w5 hm5 hg5; have y0 : w5.cell? ⟨w.heap.size, 0, none⟩ = some (.int .i64 n0) := blk_cell (blk_grown (blk_new (.cells #[.int .i64 n0, .int .i64 n1, .int .i64 n2] 63)) hg5 (fun e => by cases e; omega)) 0))
          go_ret
          exact ⟨congrArg (fun x => Ending.returned (.int .u64 x)) (by unfold shlU; rw [Int.one_mul]), hm5, hF1'.out.grown hg5 fun x e => .inl (by cases e; rfl)⟩
        · rw [if_neg h1] at hr
          have b1 : f > 1 := by omega
          cases hq0 : fromF l k m n1 (wrap64 (n0 + 1)) with
          | none => rw [hq0] at hr; cases hr
          | some q0 =>
          obtain ⟨a0, m0⟩ := q0
          rw [hq0] at hr
          simp only at hr
          cases hq1 : fromF l k m0 n2 (wrap64 (n0 + 1)) with
          | none => rw [hq1] at hr; cases hr
          | some q1 =>
          obtain ⟨a1, m1⟩ := q1
          rw [hq1] at hr
          cases hr
          have hX1 := blk_new (w := w) (.cells #[.int .i64 n0, .int .i64 n1, .int .i64 n2] 63)
          have H0 := Lib.hid (ih.out ((w.alloc (.cells #[.int .i64 n0, .int .i64 n1, .int .i64 n2] 63)).drew) m n1 (wrap64 (n0 + 1)) a0 m0 (hA1.frm (Frm.refl _ _).drew) hm1 hq0)
          have e1 : (w.alloc (.cells #[.int .i64 n0, .int .i64 n1, .int .i64 n2] 63)).cell? ⟨pf, 0, none⟩ = some (.func (.func 37) #[] #[.pointer (some ⟨ps, 0, none⟩), .pointer (some ⟨pd, 0, none⟩), .pointer (some ⟨pf, 0, none⟩)]) := blk_cell hA1.f 0
          have hF1' := Lib.hid hF1
          have hA1' := Lib.hid hA1
          have Hq1 := Lib.hid hq1
          have hX1' := Lib.hid hX1
          clear h1 hm hA hA1 hF1 hq0 hq1 hX1 hm1
          go_enter Try.func37, Try.ntmps37
          go_wp2
          refine Plan.wp_region_plan [0, 0, 2, 0, 8, 24, 63, 0, 0, 256, 0, 1024, 3072, 8191, 16383, 32767] (List.cons (Plan.Seg.mk (List.cons 0 (List.cons 1 (List.cons 2 (List.cons 3 (List.cons 4 (List.cons 5 (List.cons 7 (List.cons 8 (List.cons 9 (List.cons 10 (List.cons 11 (List.cons 12 List.nil)))))))))))) 6 (List.cons 7 (List.cons 8 (List.cons 9 (List.cons 10 (List.cons 11 (List.cons 12 List.nil))))))) (List.cons (Plan.Seg.mk List.nil 13 List.nil) List.nil)) (List.cons 14 (List.cons 15 List.nil)) (by kernel_rfl) (by kernel_rfl) ?_
          simp only [Plan.wayOf, Plan.pickAll, List.getElem?_cons_zero, List.getElem?_cons_succ, List.getD_eq_getElem?_getD, Option.getD_some]
          refine Plan.wpWay_seg ?_
          repeat go_big_quiet_step (fail)
          refine wpQuiet_nil ?_
          refine Plan.wpWay_act ?_
          go_wp2_with fail
          refine H0.out.mono ?_
          rintro e w3 ⟨rfl, hm3, hF3⟩
          have hA3 := hA1'.out.frm (w' := w3) ⟨hF3.os, hF3.tape, hF3.output, hF3.size, hF3.block⟩
          have hX3 := blk_frm (w := w.alloc (.cells #[.int .i64 n0, .int .i64 n1, .int .i64 n2] 63)) (w' := w3) hX1'.out ⟨hF3.os, hF3.tape, hF3.output, hF3.size, hF3.block⟩ (by omega)
          have z0 : w3.cell? ⟨w.heap.size, 0, none⟩ = some (.int .i64 n0) := blk_cell hX3 0
          have z1 : w3.cell? ⟨w.heap.size, 1, none⟩ = some (.int .i64 n1) := blk_cell hX3 1
          have z2 : w3.cell? ⟨w.heap.size, 2, none⟩ = some (.int .i64 n2) := blk_cell hX3 2
          have z3 : w3.cell? ⟨pf, 0, none⟩ = some (.func (.func 37) #[] #[.pointer (some ⟨ps, 0, none⟩), .pointer (some ⟨pd, 0, none⟩), .pointer (some ⟨pf, 0, none⟩)]) := blk_cell hA3.f 0
          have H1 := Lib.hid (ih.out w3 m0 n2 (wrap64 (n0 + 1)) a1 m1 hA3 hm3 Hq1.out)
          have hF3' : Frm (fun b => b = d) w w3 := hF1'.out.trans (b := w.alloc (.cells #[.int .i64 n0, .int .i64 n1, .int .i64 n2] 63)) ⟨hF3.os, hF3.tape, hF3.output, hF3.size, hF3.block⟩ fun _ _ h => h
          have HF3 := Lib.hid hF3'
          have HA3 := Lib.hid hA3
          have HX3 := Lib.hid hX3
          clear hF3' hF3 hA3 hX3 hm3
          go_wp2_with fail
          refine And.intro ?_ ?_
          focus
            refine Plan.again_cons ?_ ?_
            focus
              go_big_quiet_step (fail)
              exact wpQuiet_nil rfl
            refine Plan.again_cons ?_ ?_
            focus
              go_big_quiet_step (fail)
              exact wpQuiet_nil rfl
            refine Plan.again_cons ?_ ?_
            focus
              go_big_quiet_step (fail)
              exact wpQuiet_nil rfl
            refine Plan.again_cons ?_ ?_
            focus
              go_big_quiet_step (fail)
              exact wpQuiet_nil rfl
            refine Plan.again_cons ?_ ?_
            focus
              go_big_quiet_step (fail)
              exact wpQuiet_nil rfl
            refine Plan.again_cons ?_ ?_
            focus
              go_big_quiet_step (fail)
              exact wpQuiet_nil rfl
            exact Plan.again_nil
          refine Plan.wpWay_seg ?_
          refine wpQuiet_nil ?_
          refine Plan.wpWay_act ?_
          go_wp2_with fail
          refine H1.out.mono ?_
          rintro e w4 ⟨rfl, hm4, hF4⟩
          have hX4 := blk_frm HX3.out hF4 (by omega)
          have y0 : w4.cell? ⟨w.heap.size, 0, none⟩ = some (.int .i64 n0) := blk_cell hX4 0
          have y1 : w4.cell? ⟨w.heap.size, 1, none⟩ = some (.int .i64 n1) := blk_cell hX4 1
          have y2 : w4.cell? ⟨w.heap.size, 2, none⟩ = some (.int .i64 n2) := blk_cell hX4 2
          have hA4 := HA3.out.frm hF4
          have y3 : w4.cell? ⟨pf, 0, none⟩ = some (.func (.func 37) #[] #[.pointer (some ⟨ps, 0, none⟩), .pointer (some ⟨pd, 0, none⟩), .pointer (some ⟨pf, 0, none⟩)]) := blk_cell hA4.f 0
          have y4 : w4.cell? ⟨pd, 0, none⟩ = some (.map (some d)) := blk_cell hA4.m 0
          have HF4 := Lib.hid (HF3.out.trans hF4 fun _ _ h => h)
          have HX4 := Lib.hid hX4
          clear hF4 hA4 hX4
          go_wp2_with fail
          refine And.intro Plan.again_nil ?_
          refine Plan.wpWay_last ?_
          repeat go_big_quiet_step (fail)
          refine wpQuiet_nil ?_
          refine NoPanic.normal ?_
          go_wp2_with (first | (at_mapUpdate; refine wpList_update rfl _ _ _ 87 rfl keyInt Try.underlying87 f (IntKind.u64.wrap (a0 + a1)) rfl rfl rfl hm4 ?_; intro w5 hm5 hg5; have y0 : w5.cell? ⟨w.heap.size, 0, none⟩ = some (.int .i64 n0) := blk_cell (blk_grown HX4.out hg5 (fun e => by cases e; omega)) 0))
          go_ret
          exact ⟨rfl, hm5, HF4.out.grown hg5 fun x e => .inl (by cases e; rfl)⟩

set_option maxRecDepth 100000 in
set_option maxHeartbeats 2000000 in
theorem Count_calls {w : World} {own : Nat → Prop} {p : Nat} {s : Sto} (hS : StoreAt w own p s) (k : Nat) (f : Int) (r : Int × Int) (hr : countF k s f = some r) :
    Calls Try.prog 14 #[.pointer (some ⟨p, 0, none⟩), .int .i64 f] w fun e w' => e = .returned (.tuple #[.int .u64 r.1, .int .i64 r.2]) ∧ Frm (fun _ => False) w w' := by
  have hmf : ∀ (fn : Fn) (first cap : Array Value) (w : World), (Instr.makeFunc fn first cap).run Try.prog w = .ok (.func fn first cap) w := fun _ _ _ _ => rfl
  have hmm := @run_makeMap Try.prog
  have hcf := fun (args : Array Value) (w : World) => call_enter (P := Try.prog) (f := 37) Try.func37 (by kernel_rfl) rfl args w
  have hnot : ∀ (x : Bool) (w : World), (Op.unary .not (.bool x)).run Try.prog w = .ok (.bool (!x)) w := fun _ _ => rfl
  have hol := hS.ownlt
  have hF2 : Frm (fun _ => False) w ((w.alloc (.cells #[.pointer (some ⟨p, 0, none⟩)] 23)).alloc (.cells #[.int .i64 f] 3)) := ((Frm.refl _ _).alloc _).alloc _
  have hF3 : Frm (fun _ => False) w (((w.alloc (.cells #[.pointer (some ⟨p, 0, none⟩)] 23)).alloc (.cells #[.int .i64 f] 3)).alloc (.cells #[.pointer (some ⟨p, 0, none⟩)] 23)) := hF2.alloc _
  have hS2 : StoreAt ((w.alloc (.cells #[.pointer (some ⟨p, 0, none⟩)] 23)).alloc (.cells #[.int .i64 f] 3)) own p s := hS.frm hF2 fun _ _ => id
  have Hh := Lib.hid (has_calls hS2 (.slice (some ⟨w.heap.size + 1, 0, none⟩) 1 1) [f] (sees_of_blk (blk_new_at (.cells #[.int .i64 f] 3) (by simp)) rfl rfl (by decide)))
  unfold countF at hr
  cases hin : inB s f with
  | false =>
    rw [hin] at hr
    simp only [if_true] at hr
    cases hr
    have hall : [f].all (inB s) = false := by simp [hin]
    rw [hall] at Hh
    have hF3' := Lib.hid hF3
    clear hS hS2 hF2 hF3 hall hin hol hcf
    go_enter Try.func14, Try.ntmps14
    go_wp2_with fail
    refine Hh.out.mono ?_
    rintro e w' ⟨rfl, rfl⟩
    go_wp2
    go_ret2
    exact ⟨rfl, hF3'.out⟩
  | true =>
    rw [hin] at hr
    simp only [Bool.true_eq_false, if_false] at hr
    have hall : [f].all (inB s) = true := by simp [hin]
    rw [hall] at Hh
    cases ho : fromF s.l k [] f 0 with
    | none => rw [ho] at hr; cases hr
    | some q =>
    obtain ⟨r0, m0⟩ := q
    rw [ho] at hr
    cases hr
    have hF6 : Frm (fun _ => False) w ((((((w.alloc (.cells #[.pointer (some ⟨p, 0, none⟩)] 23)).alloc (.cells #[.int .i64 f] 3)).alloc (.cells #[.pointer (some ⟨p, 0, none⟩)] 23)).alloc (.map #[] 0)).alloc (.cells #[.map (some (w.heap.size + 1 + 1 + 1))] 87)).alloc (.cells #[.func (.func 37) #[] #[.pointer (some ⟨w.heap.size, 0, none⟩), .pointer (some ⟨w.heap.size + 1 + 1 + 1 + 1, 0, none⟩), .pointer (some ⟨w.heap.size + 1 + 1 + 1 + 1 + 1, 0, none⟩)]] 88)) := ((hF3.alloc _).alloc _).alloc _
    have hz6 : ((((((w.alloc (.cells #[.pointer (some ⟨p, 0, none⟩)] 23)).alloc (.cells #[.int .i64 f] 3)).alloc (.cells #[.pointer (some ⟨p, 0, none⟩)] 23)).alloc (.map #[] 0)).alloc (.cells #[.map (some (w.heap.size + 1 + 1 + 1))] 87)).alloc (.cells #[.func (.func 37) #[] #[.pointer (some ⟨w.heap.size, 0, none⟩), .pointer (some ⟨w.heap.size + 1 + 1 + 1 + 1, 0, none⟩), .pointer (some ⟨w.heap.size + 1 + 1 + 1 + 1 + 1, 0, none⟩)]] 88)).heap.size = w.heap.size + 6 := by simp
    have hS6 : StoreAt ((((((w.alloc (.cells #[.pointer (some ⟨p, 0, none⟩)] 23)).alloc (.cells #[.int .i64 f] 3)).alloc (.cells #[.pointer (some ⟨p, 0, none⟩)] 23)).alloc (.map #[] 0)).alloc (.cells #[.map (some (w.heap.size + 1 + 1 + 1))] 87)).alloc (.cells #[.func (.func 37) #[] #[.pointer (some ⟨w.heap.size, 0, none⟩), .pointer (some ⟨w.heap.size + 1 + 1 + 1 + 1, 0, none⟩), .pointer (some ⟨w.heap.size + 1 + 1 + 1 + 1 + 1, 0, none⟩)]] 88)) own p s := hS.frm hF6 fun _ _ => id
    have hps : ((((((w.alloc (.cells #[.pointer (some ⟨p, 0, none⟩)] 23)).alloc (.cells #[.int .i64 f] 3)).alloc (.cells #[.pointer (some ⟨p, 0, none⟩)] 23)).alloc (.map #[] 0)).alloc (.cells #[.map (some (w.heap.size + 1 + 1 + 1))] 87)).alloc (.cells #[.func (.func 37) #[] #[.pointer (some ⟨w.heap.size, 0, none⟩), .pointer (some ⟨w.heap.size + 1 + 1 + 1 + 1, 0, none⟩), .pointer (some ⟨w.heap.size + 1 + 1 + 1 + 1 + 1, 0, none⟩)]] 88)).heap[w.heap.size]? = some (.cells #[.pointer (some ⟨p, 0, none⟩)] 23) := blk_alloc (blk_alloc (blk_alloc (blk_alloc (blk_alloc (blk_new _) _) _) _) _) _
    have hmp : ((((((w.alloc (.cells #[.pointer (some ⟨p, 0, none⟩)] 23)).alloc (.cells #[.int .i64 f] 3)).alloc (.cells #[.pointer (some ⟨p, 0, none⟩)] 23)).alloc (.map #[] 0)).alloc (.cells #[.map (some (w.heap.size + 1 + 1 + 1))] 87)).alloc (.cells #[.func (.func 37) #[] #[.pointer (some ⟨w.heap.size, 0, none⟩), .pointer (some ⟨w.heap.size + 1 + 1 + 1 + 1, 0, none⟩), .pointer (some ⟨w.heap.size + 1 + 1 + 1 + 1 + 1, 0, none⟩)]] 88)).heap[w.heap.size + 1 + 1 + 1]? = some (.map #[] 0) := blk_alloc (blk_alloc (blk_new_at _ (by simp)) _) _
    have hpd : ((((((w.alloc (.cells #[.pointer (some ⟨p, 0, none⟩)] 23)).alloc (.cells #[.int .i64 f] 3)).alloc (.cells #[.pointer (some ⟨p, 0, none⟩)] 23)).alloc (.map #[] 0)).alloc (.cells #[.map (some (w.heap.size + 1 + 1 + 1))] 87)).alloc (.cells #[.func (.func 37) #[] #[.pointer (some ⟨w.heap.size, 0, none⟩), .pointer (some ⟨w.heap.size + 1 + 1 + 1 + 1, 0, none⟩), .pointer (some ⟨w.heap.size + 1 + 1 + 1 + 1 + 1, 0, none⟩)]] 88)).heap[w.heap.size + 1 + 1 + 1 + 1]? = some (.cells #[.map (some (w.heap.size + 1 + 1 + 1))] 87 (0, 0)) := blk_alloc (blk_new_at _ (by simp)) _
    have hpf : ((((((w.alloc (.cells #[.pointer (some ⟨p, 0, none⟩)] 23)).alloc (.cells #[.int .i64 f] 3)).alloc (.cells #[.pointer (some ⟨p, 0, none⟩)] 23)).alloc (.map #[] 0)).alloc (.cells #[.map (some (w.heap.size + 1 + 1 + 1))] 87)).alloc (.cells #[.func (.func 37) #[] #[.pointer (some ⟨w.heap.size, 0, none⟩), .pointer (some ⟨w.heap.size + 1 + 1 + 1 + 1, 0, none⟩), .pointer (some ⟨w.heap.size + 1 + 1 + 1 + 1 + 1, 0, none⟩)]] 88)).heap[w.heap.size + 1 + 1 + 1 + 1 + 1]? = some (.cells #[.func (.func 37) #[] #[.pointer (some ⟨w.heap.size, 0, none⟩), .pointer (some ⟨w.heap.size + 1 + 1 + 1 + 1, 0, none⟩), .pointer (some ⟨w.heap.size + 1 + 1 + 1 + 1 + 1, 0, none⟩)]] 88 (0, 0)) := blk_new_at _ (by simp)
    have hpo : own p := by obtain ⟨lv, mf, mk, H⟩ := hS; exact H.me
    obtain ⟨g, cap, hg2, hgo, _, _⟩ := hS6.len
    have hA : CountAt ((((((w.alloc (.cells #[.pointer (some ⟨p, 0, none⟩)] 23)).alloc (.cells #[.int .i64 f] 3)).alloc (.cells #[.pointer (some ⟨p, 0, none⟩)] 23)).alloc (.map #[] 0)).alloc (.cells #[.map (some (w.heap.size + 1 + 1 + 1))] 87)).alloc (.cells #[.func (.func 37) #[] #[.pointer (some ⟨w.heap.size, 0, none⟩), .pointer (some ⟨w.heap.size + 1 + 1 + 1 + 1, 0, none⟩), .pointer (some ⟨w.heap.size + 1 + 1 + 1 + 1 + 1, 0, none⟩)]] 88)) p w.heap.size (w.heap.size + 1 + 1 + 1 + 1) (w.heap.size + 1 + 1 + 1 + 1 + 1) (w.heap.size + 1 + 1 + 1) s.l := ⟨hps, hpd, hpf, hS6.nodes, fun e => by have := hol p hpo; omega, fun g' n c e => by rw [hg2] at e; cases e; have := hol g hgo; omega, by omega, by omega, by omega⟩
    have Ho := Lib.hid (count1_calls k ((((((w.alloc (.cells #[.pointer (some ⟨p, 0, none⟩)] 23)).alloc (.cells #[.int .i64 f] 3)).alloc (.cells #[.pointer (some ⟨p, 0, none⟩)] 23)).alloc (.map #[] 0)).alloc (.cells #[.map (some (w.heap.size + 1 + 1 + 1))] 87)).alloc (.cells #[.func (.func 37) #[] #[.pointer (some ⟨w.heap.size, 0, none⟩), .pointer (some ⟨w.heap.size + 1 + 1 + 1 + 1, 0, none⟩), .pointer (some ⟨w.heap.size + 1 + 1 + 1 + 1 + 1, 0, none⟩)]] 88)) [] f 0 _ _ hA ⟨#[], 0, hmp, rfl, by simp, by simp⟩ ho)
    have HF6 := Lib.hid hF6
    clear hS hS2 hF2 hF3 hall hin hol hF6 hS6 hps hmp hpd hpf hpo hg2 hgo hA ho
    go_enter Try.func14, Try.ntmps14
    go_wp2_with fail
    refine Hh.out.mono ?_
    rintro e w' ⟨rfl, rfl⟩
    go_wp2_with fail
    refine Ho.out.mono ?_
    rintro e w7 ⟨rfl, _, hF7⟩
    go_wp2
    go_ret2
    exact ⟨rfl, HF6.out.trans hF7 fun x hx h => by omega⟩
end BddW
end Go.Proofs.Ytjajpdmmoiiojaa
