/- Package bdd, walked on: the two closures of Rename. -/
import Derived.Test.YtjajpdmmoiiojaaBddW9
import Derived.Test.YtjajpdmmoiiojaaRng
namespace Go.Proofs.Ytjajpdmmoiiojaa
open Go.RowKit Go.Mem Go.Bdd
namespace BddW

set_option maxHeartbeats 1000000 in
theorem rename1_calls {w : World} {own : Nat → Prop} {p pl : Nat} {s : Sto} (h : StoreAt w own p s) (hl : w.heap[pl]? = some (.cells #[.pointer (some ⟨p, 0, none⟩)] 23)) (x : Int) :
    Calls Try.prog 51 (#[.int .i64 x] ++ #[.pointer (some ⟨pl, 0, none⟩)]) w fun e w' => e = .returned (.bool (badVar s x)) ∧ w = w' := by
  show Calls Try.prog 51 #[.int .i64 x, .pointer (some ⟨pl, 0, none⟩)] w _
  have c2 := h.vars_cell
  have c0 : w.cell? ⟨pl, 0, none⟩ = some (.pointer (some ⟨p, 0, none⟩)) := blk_cell hl 0
  by_cases h0 : x < 0
  · have hv : badVar s x = true := by simp [badVar]; omega
    have d0 : decide (x < 0) = true := by simp [h0]
    have Hv := Lib.hid hv
    clear hv h0
    go_enter Try.func51, Try.ntmps51
    go_wp2
    go_ret
    exact ⟨by rw [Hv.out]; rfl, rfl⟩
  · have hv : badVar s x = decide (x ≥ s.vars) := by simp only [badVar]; rw [Bool.eq_iff_iff]; simp; omega
    have d0 : decide (x < 0) = false := by simp; omega
    have Hv := Lib.hid hv
    clear hv h0
    go_enter Try.func51, Try.ntmps51
    go_wp2
    go_ret
    exact ⟨by rw [Hv.out]; rfl, rfl⟩

set_option maxHeartbeats 1000000 in
theorem rename2_calls {W0 : World} {own0 : Nat → Prop} {d p ps pv : Nat} {vv : Value} {to : List Int} (hps : W0.heap[ps]? = some (.cells #[.pointer (some ⟨p, 0, none⟩)] 23)) (hpv : W0.heap[pv]? = some (.cells #[vv] 28 (0, 0))) (hs : Sees W0 (Value.int .i64) vv to)
    (nd : ps ≠ d ∧ pv ≠ d ∧ ∀ g, InBlk vv g → to ≠ [] → g < W0.heap.size → g ≠ d) (no0 : ¬ own0 ps ∧ ¬ own0 pv ∧ ∀ g, InBlk vv g → to ≠ [] → g < W0.heap.size → ¬ own0 g) (k : Nat)
    (w : World) (own : Nat → Prop) (s : Sto) (v no yes : Int) (r : Int × Int) (s' : Sto) (hR : PinRep W0 own0 d p w own s) (hr : renameOne k to s v no yes = some (r, s')) :
    Calls Try.prog 53 (#[.int .i64 v, .int .i64 no, .int .i64 yes] ++ #[.pointer (some ⟨ps, 0, none⟩), .pointer (some ⟨pv, 0, none⟩)]) w (StPost own w p (.tuple #[.int .i64 r.1, .int .i64 r.2]) s') := by
  show Calls Try.prog 53 #[.int .i64 v, .int .i64 no, .int .i64 yes, .pointer (some ⟨ps, 0, none⟩), .pointer (some ⟨pv, 0, none⟩)] w _
  obtain ⟨hS, hpin⟩ := hR
  have hbp : w.heap[ps]? = some (.cells #[.pointer (some ⟨p, 0, none⟩)] 23) := (hpin ps (lt_of_block hps) nd.1 no0.1).1.trans hps
  have c0 : w.cell? ⟨ps, 0, none⟩ = some (.pointer (some ⟨p, 0, none⟩)) := blk_cell hbp 0
  have c1 : w.cell? ⟨pv, 0, none⟩ = some vv := blk_cell ((hpin pv (lt_of_block hpv) nd.2.1 no0.2.1).1.trans hpv) 0
  have hs' := Sees.heap hs fun g hg hx hl => (hpin g hl (nd.2.2 g hg hx hl) (no0.2.2 g hg hx hl)).1
  have hnps : ¬ own ps := (hpin ps (lt_of_block hps) nd.1 no0.1).2
  unfold renameOne at hr
  cases ht : nth to v with
  | none => rw [ht] at hr; cases hr
  | some t =>
  rw [ht] at hr
  simp only at hr
  have hFd : Frm (fun _ => False) w w.drew := (Frm.refl _ _).drew
  have hSd : StoreAt w.drew own p s := hS.frm hFd fun _ _ => id
  have hMd : Moves own w own w.drew := .of_frm (hFd.mono fun _ _ h => h.elim) fun _ h => .inl h
  have Hm := Lib.hid (make_calls hSd t 0 1)
  generalize hmk : makeF s t 0 1 = q at hr Hm
  obtain ⟨⟨q0, q1⟩, s1⟩ := q
  simp only at hr Hm
  obtain ⟨gi, oi, ci, ei, hci⟩ := nth_cell hs' ht
  obtain ⟨li0, li1⟩ := nth_lt ht
  have hgil := World.block_lt_of_cell? _ _ hci
  have hlen := hs.len
  cases ei
  by_cases hq : q1 = 0
  · subst hq
    simp only [ne_eq, not_true_eq_false, if_false] at hr
    have Hr := Lib.hid hr
    have Hb := Lib.hid hbp
    have Hn := Lib.hid hnps
    have hMd' := Lib.hid hMd
    clear hMd hFd hSd hS hpin hr nd no0 hs hps hpv hs' ht hmk hbp hnps
    go_enter Try.func53, Try.ntmps53
    go_wp2
    refine Plan.wp_region_plan [0, 0, 0, 6, 14, 31, 63, 127, 127, 255, 1023] (List.cons (Plan.Seg.mk (List.cons 0 (List.cons 1 (List.cons 2 (List.cons 3 (List.cons 4 List.nil))))) 5 List.nil) List.nil) (List.cons 6 (List.cons 7 (List.cons 8 (List.cons 9 (List.cons 10 List.nil))))) (by kernel_rfl) (by kernel_rfl) ?_
    simp only [Plan.wayOf, Plan.pickAll, List.getElem?_cons_zero, List.getElem?_cons_succ, List.getD_eq_getElem?_getD, Option.getD_some]
    refine Plan.wpWay_seg ?_
    repeat go_big_quiet_step (fail)
    refine wpQuiet_nil ?_
    refine Plan.wpWay_act ?_
    go_wp2_with fail
    refine Hm.out.mono ?_
    rintro e w1 ⟨rfl, own1, h1, h2⟩
    have z0 : w1.cell? ⟨ps, 0, none⟩ = some (.pointer (some ⟨p, 0, none⟩)) := blk_cell (h2.keep Hb.out Hn.out).1 0
    have Hi := Lib.hid (ite_calls k h1 q0 yes no r s' Hr.out)
    have H2 := Lib.hid (hMd'.out.trans h2)
    clear h1 h2
    go_wp2_with fail
    refine And.intro Plan.again_nil ?_
    refine Plan.wpWay_last ?_
    repeat go_big_quiet_step (fail)
    refine wpQuiet_nil ?_
    refine NoPanic.normal ?_
    go_wp2_with fail
    refine Hi.out.mono ?_
    rintro e w2 ⟨rfl, own2, h3, h4⟩
    go_wp2
    go_ret2
    exact ⟨rfl, own2, h3, H2.out.trans h4⟩
  · simp only [ne_eq, hq, not_false_eq_true, if_true] at hr
    have hb : (q1 != 0) = true := by simp [hq]
    cases hr
    have hMd' := Lib.hid hMd
    clear hMd hFd hSd hS hpin nd no0 hs hps hpv hs' ht hmk hbp hnps hq
    go_enter Try.func53, Try.ntmps53
    go_wp2
    refine Plan.wp_region_plan [0, 0, 0, 6, 14, 31, 63, 127, 127, 255, 1023] (List.cons (Plan.Seg.mk (List.cons 0 (List.cons 1 (List.cons 2 (List.cons 3 (List.cons 4 List.nil))))) 5 List.nil) List.nil) (List.cons 6 (List.cons 7 (List.cons 8 (List.cons 9 (List.cons 10 List.nil))))) (by kernel_rfl) (by kernel_rfl) ?_
    simp only [Plan.wayOf, Plan.pickAll, List.getElem?_cons_zero, List.getElem?_cons_succ, List.getD_eq_getElem?_getD, Option.getD_some]
    refine Plan.wpWay_seg ?_
    repeat go_big_quiet_step (fail)
    refine wpQuiet_nil ?_
    refine Plan.wpWay_act ?_
    go_wp2_with fail
    refine Hm.out.mono ?_
    rintro e w1 ⟨rfl, own1, h1, h2⟩
    have H1 := Lib.hid h1
    have H2 := Lib.hid (hMd'.out.trans h2)
    clear h1 h2
    go_wp2_with fail
    refine And.intro Plan.again_nil ?_
    refine Plan.wpWay_last ?_
    repeat go_big_quiet_step (fail)
    refine wpQuiet_nil ?_
    refine NoPanic.normal ?_
    go_wp2
    go_ret2
    exact ⟨rfl, own1, H1.out, H2.out⟩
end BddW
end Go.Proofs.Ytjajpdmmoiiojaa
