/- The law's own functions, walked: fitted, where no variable is asked. -/
import Derived.Test.YtjajpdmmoiiojaaLawW1
namespace Go.Proofs.Ytjajpdmmoiiojaa
open Go.RowKit Go.Mem Go.Bdd
namespace LawW
open TabW
set_option maxRecDepth 100000 in
set_option maxHeartbeats 4000000 in
theorem fitted_rest (w : World) (x : ActF) (vv : Value) (n made : Int) (hn : 0 < n ∧ n ≤ 30) (hm : 0 < made ∧ made ≤ 4294967296) (hx : SeesW w (Value.int .i64) vv x.vars) (hi : I64 x.kind ∧ I64 x.a ∧ I64 x.b ∧ I64 x.c ∧ ∀ v ∈ x.vars, I64 v) (h0 : fitF x.kind 8 ≠ 0) :
    Calls Try.prog 29 #[.agg #[.int .i64 x.kind, .int .i64 x.a, .int .i64 x.b, .int .i64 x.c, vv], .int .i64 n, .int .i64 made] w (FitPost w (fittedF x n made)) := by
  obtain ⟨i0, hi0, hz0, hz1, hz2⟩ := info_parts info_int
  obtain ⟨B, d, rfl, _⟩ := seesW_slice hx
  have hxl : (x.vars.length : Int) ≤ 9223372036854775807 := by have := hx.len; have h : maxLen = 9223372036854775807 := rfl; omega
  obtain ⟨hik, hia, hib, hic, hiv⟩ := hi
  obtain ⟨hn0, hn1⟩ := hn
  obtain ⟨hm0, hm1⟩ := hm
  have hb := blk_alloc (blk_new (w := w) (.cells #[.int .i64 x.kind, .int .i64 x.a, .int .i64 x.b, .int .i64 x.c, (.slice B x.vars.length d)] 55)) (.cells #[.int .i64 0, .int .i64 0, .int .i64 0, .int .i64 0, .slice none 0 0] 55)
  have hb0 := blk_alloc (blk_new (w := w) (.cells #[.int .i64 (fitF x.kind 8), .int .i64 x.a, .int .i64 x.b, .int .i64 x.c, (.slice B x.vars.length d)] 55)) (.cells #[.int .i64 0, .int .i64 0, .int .i64 0, .int .i64 0, .slice none 0 0] 55)
  have hF2 : Frm (fun _ => False) w ((w.alloc (.cells #[.int .i64 x.kind, .int .i64 x.a, .int .i64 x.b, .int .i64 x.c, (.slice B x.vars.length d)] 55)).alloc (.cells #[.int .i64 0, .int .i64 0, .int .i64 0, .int .i64 0, .slice none 0 0] 55)) := ((Frm.refl _ _).alloc _).alloc _
  have hF0 : Frm (fun _ => False) w ((w.alloc (.cells #[.int .i64 (fitF x.kind 8), .int .i64 x.a, .int .i64 x.b, .int .i64 x.c, (.slice B x.vars.length d)] 55)).alloc (.cells #[.int .i64 0, .int .i64 0, .int .i64 0, .int .i64 0, .slice none 0 0] 55)) := ((Frm.refl _ _).alloc _).alloc _
  have c0 : ((w.alloc (.cells #[.int .i64 x.kind, .int .i64 x.a, .int .i64 x.b, .int .i64 x.c, (.slice B x.vars.length d)] 55)).alloc (.cells #[.int .i64 0, .int .i64 0, .int .i64 0, .int .i64 0, .slice none 0 0] 55)).cell? ⟨w.heap.size, 0, none⟩ = some (.int .i64 x.kind) := blk_cell hb 0
  have z0 : ((w.alloc (.cells #[.int .i64 x.kind, .int .i64 x.a, .int .i64 x.b, .int .i64 x.c, (.slice B x.vars.length d)] 55)).alloc (.cells #[.int .i64 0, .int .i64 0, .int .i64 0, .int .i64 0, .slice none 0 0] 55)).frozen? ⟨w.heap.size, 0, none⟩ = false := blk_free hb 0
  have k0 : ((w.alloc (.cells #[.int .i64 (fitF x.kind 8), .int .i64 x.a, .int .i64 x.b, .int .i64 x.c, (.slice B x.vars.length d)] 55)).alloc (.cells #[.int .i64 0, .int .i64 0, .int .i64 0, .int .i64 0, .slice none 0 0] 55)).cell? ⟨w.heap.size, 0, none⟩ = some (.int .i64 (fitF x.kind 8)) := blk_cell hb0 0
  have k1 : ((w.alloc (.cells #[.int .i64 (fitF x.kind 8), .int .i64 x.a, .int .i64 x.b, .int .i64 x.c, (.slice B x.vars.length d)] 55)).alloc (.cells #[.int .i64 0, .int .i64 0, .int .i64 0, .int .i64 0, .slice none 0 0] 55)).cell? ⟨w.heap.size, 1, none⟩ = some (.int .i64 x.a) := blk_cell hb0 1
  have k2 : ((w.alloc (.cells #[.int .i64 (fitF x.kind 8), .int .i64 x.a, .int .i64 x.b, .int .i64 x.c, (.slice B x.vars.length d)] 55)).alloc (.cells #[.int .i64 0, .int .i64 0, .int .i64 0, .int .i64 0, .slice none 0 0] 55)).cell? ⟨w.heap.size, 2, none⟩ = some (.int .i64 x.b) := blk_cell hb0 2
  have k3 : ((w.alloc (.cells #[.int .i64 (fitF x.kind 8), .int .i64 x.a, .int .i64 x.b, .int .i64 x.c, (.slice B x.vars.length d)] 55)).alloc (.cells #[.int .i64 0, .int .i64 0, .int .i64 0, .int .i64 0, .slice none 0 0] 55)).cell? ⟨w.heap.size, 3, none⟩ = some (.int .i64 x.c) := blk_cell hb0 3
  have hk := Lib.hid (fit_calls ((w.alloc (.cells #[.int .i64 x.kind, .int .i64 x.a, .int .i64 x.b, .int .i64 x.c, (.slice B x.vars.length d)] 55)).alloc (.cells #[.int .i64 0, .int .i64 0, .int .i64 0, .int .i64 0, .slice none 0 0] 55)) x.kind 8 (by omega) (by omega) hik)
  have Hx := Lib.hid hx
  have Hiv := Lib.hid hiv
  have hy : fittedF x n made = { kind := fitF x.kind 8, a := fitF x.a made, b := fitF x.b made, c := fitF x.c made, vars := fitL x.vars n } := by unfold fittedF; rw [if_neg h0, if_neg h0, if_neg h0]
  have e0 : (fitF x.kind 8 == 0) = false := by simp [h0]
  have ha := Lib.hid (fit_calls ((w.alloc (.cells #[.int .i64 (fitF x.kind 8), .int .i64 x.a, .int .i64 x.b, .int .i64 x.c, (.slice B x.vars.length d)] 55)).alloc (.cells #[.int .i64 0, .int .i64 0, .int .i64 0, .int .i64 0, .slice none 0 0] 55)).drew x.a made hm0 (by omega) hia)
  have hbb := Lib.hid (fit_calls ((w.alloc (.cells #[.int .i64 (fitF x.kind 8), .int .i64 x.a, .int .i64 x.b, .int .i64 x.c, (.slice B x.vars.length d)] 55)).alloc (.cells #[.int .i64 0, .int .i64 0, .int .i64 0, .int .i64 0, .slice none 0 0] 55)).drew x.b made hm0 (by omega) hib)
  have hcc := Lib.hid (fit_calls ((w.alloc (.cells #[.int .i64 (fitF x.kind 8), .int .i64 x.a, .int .i64 x.b, .int .i64 x.c, (.slice B x.vars.length d)] 55)).alloc (.cells #[.int .i64 0, .int .i64 0, .int .i64 0, .int .i64 0, .slice none 0 0] 55)).drew x.c made hm0 (by omega) hic)
  have z2 : ((w.alloc (.cells #[.int .i64 (fitF x.kind 8), .int .i64 x.a, .int .i64 x.b, .int .i64 x.c, (.slice B x.vars.length d)] 55)).alloc (.cells #[.int .i64 0, .int .i64 0, .int .i64 0, .int .i64 0, .slice none 0 0] 55)).frozen? ⟨w.heap.size, 2, none⟩ = false := blk_free hb0 2
  have z3 : ((w.alloc (.cells #[.int .i64 (fitF x.kind 8), .int .i64 x.a, .int .i64 x.b, .int .i64 x.c, (.slice B x.vars.length d)] 55)).alloc (.cells #[.int .i64 0, .int .i64 0, .int .i64 0, .int .i64 0, .slice none 0 0] 55)).frozen? ⟨w.heap.size, 3, none⟩ = false := blk_free hb0 3
  have hbA := blk_alloc (blk_new (w := w) (.cells #[.int .i64 (fitF x.kind 8), .int .i64 (fitF x.a made), .int .i64 (fitF x.b made), .int .i64 (fitF x.c made), (.slice B x.vars.length d)] 55)) (.cells #[.int .i64 0, .int .i64 0, .int .i64 0, .int .i64 0, .slice none 0 0] 55)
  have hFA : Frm (fun _ => False) w (((w.alloc (.cells #[.int .i64 (fitF x.kind 8), .int .i64 (fitF x.a made), .int .i64 (fitF x.b made), .int .i64 (fitF x.c made), (.slice B x.vars.length d)] 55)).alloc (.cells #[.int .i64 0, .int .i64 0, .int .i64 0, .int .i64 0, .slice none 0 0] 55)).drew) := (((Frm.refl _ _).alloc _).alloc _).drew
  have z1 : ((w.alloc (.cells #[.int .i64 (fitF x.kind 8), .int .i64 x.a, .int .i64 x.b, .int .i64 x.c, (.slice B x.vars.length d)] 55)).alloc (.cells #[.int .i64 0, .int .i64 0, .int .i64 0, .int .i64 0, .slice none 0 0] 55)).frozen? ⟨w.heap.size, 1, none⟩ = false := blk_free hb0 1
  have HY := Lib.hid hy
  have HB := Lib.hid hbA
  have HF := Lib.hid hFA

  clear hy hF2 hF0 hb hb0 hbA hFA hx hiv hik hia hib hic h0
  go_enter Try.func29, Try.ntmps29
  go_wp2_with fail
  refine hk.out.mono ?_
  rintro e w' ⟨rfl, rfl⟩
  go_wp2
  refine Plan.wp_region_plan [0, 1, 0, 7, 0, 16, 0, 127, 0, 256, 0, 2047, 831, 8191, 16383, 32767, 65535, 131071] (List.cons (Plan.Seg.mk (List.cons 0 (List.cons 1 (List.cons 2 (List.cons 4 (List.cons 5 (List.cons 6 (List.cons 8 (List.cons 9 (List.cons 10 List.nil))))))))) 3 (List.cons 4 (List.cons 5 (List.cons 6 (List.cons 8 (List.cons 9 (List.cons 10 List.nil))))))) (List.cons (Plan.Seg.mk (List.cons 12 List.nil) 7 (List.cons 8 (List.cons 9 (List.cons 10 (List.cons 12 List.nil))))) (List.cons (Plan.Seg.mk List.nil 11 (List.cons 12 List.nil)) (List.cons (Plan.Seg.mk List.nil 13 List.nil) (List.cons (Plan.Seg.mk (List.cons 14 List.nil) 15 List.nil) (List.cons (Plan.Seg.mk (List.cons 16 List.nil) 17 List.nil) List.nil)))))) List.nil (by kernel_rfl) (by kernel_rfl) ?_
  simp only [Plan.wayOf, Plan.pickAll, List.getElem?_cons_zero, List.getElem?_cons_succ, List.getD_eq_getElem?_getD, Option.getD_some]
  refine Plan.wpWay_seg ?_
  repeat go_big_quiet_step (fail)
  refine wpQuiet_nil ?_
  refine Plan.wpWay_act ?_
  go_wp2_with fail
  refine ha.out.mono ?_
  rintro e w' ⟨rfl, rfl⟩
  go_wp2_with fail
  refine And.intro ?_ ?_
  focus
    refine Plan.again_cons ?_ ?_
    focus
      go_big_quiet_step (fail)
      exact wpQuiet_nil rfl
    refine Plan.again_cons ?_ ?_
    focus
      go_big_quiet_step (fail)
      exact wpQuiet_nil rfl
    refine Plan.again_cons ?_ ?_
    focus
      go_big_quiet_step (fail)
      exact wpQuiet_nil rfl
    refine Plan.again_cons ?_ ?_
    focus
      go_big_quiet_step (fail)
      exact wpQuiet_nil rfl
    refine Plan.again_cons ?_ ?_
    focus
      go_big_quiet_step (fail)
      exact wpQuiet_nil rfl
    refine Plan.again_cons ?_ ?_
    focus
      go_big_quiet_step (fail)
      exact wpQuiet_nil rfl
    exact Plan.again_nil
  refine Plan.wpWay_seg ?_
  repeat go_big_quiet_step (fail)
  refine wpQuiet_nil ?_
  refine Plan.wpWay_act ?_
  go_wp2_with fail
  refine hbb.out.mono ?_
  rintro e w' ⟨rfl, rfl⟩
  go_wp2_with fail
  refine And.intro ?_ ?_
  focus
    refine Plan.again_cons ?_ ?_
    focus
      go_big_quiet_step (fail)
      exact wpQuiet_nil rfl
    refine Plan.again_cons ?_ ?_
    focus
      go_big_quiet_step (fail)
      exact wpQuiet_nil rfl
    refine Plan.again_cons ?_ ?_
    focus
      go_big_quiet_step (fail)
      exact wpQuiet_nil rfl
    refine Plan.again_cons ?_ ?_
    focus
      go_big_quiet_step (fail)
      exact wpQuiet_nil rfl
    exact Plan.again_nil
  refine Plan.wpWay_seg ?_
  refine wpQuiet_nil ?_
  refine Plan.wpWay_act ?_
  go_wp2_with fail
  refine hcc.out.mono ?_
  rintro e w' ⟨rfl, rfl⟩
  go_wp2_with fail
  refine And.intro ?_ ?_
  focus
    refine Plan.again_cons ?_ ?_
    focus
      go_big_quiet_step (fail)
      exact wpQuiet_nil rfl
    exact Plan.again_nil
  refine Plan.wpWay_seg ?_
  refine wpQuiet_nil ?_
  refine Plan.wpWay_act ?_
  go_wp2_with (fail)
  refine And.intro Plan.again_nil ?_
  refine Plan.wpWay_seg ?_
  repeat go_big_quiet_step (fail)
  refine wpQuiet_nil ?_
  refine Plan.wpWay_act ?_
  go_wp2_with (fail)
  refine And.intro Plan.again_nil ?_
  refine Plan.wpWay_seg ?_
  repeat go_big_quiet_step (fail)
  refine wpQuiet_nil ?_
  refine Plan.wpWay_act ?_
  go_wp2_with (fail)
  refine And.intro Plan.again_nil ?_
  refine Plan.wpWay_last ?_
  refine wpQuiet_nil ?_
  refine NoPanic.normal ?_
  go_wp2
  have HFW := Lib.hid (show Frm (fun _ => False) w (((w.alloc (.cells #[.int .i64 (fitF x.kind 8), .int .i64 (fitF x.a made), .int .i64 (fitF x.b made), .int .i64 (fitF x.c made), (.slice B x.vars.length d)] 55)).alloc (.cells #[.int .i64 0, .int .i64 0, .int .i64 0, .int .i64 0, .slice none 0 0] 55)).drew) from HF.out)
  have HBZ := Lib.hid (show (((w.alloc (.cells #[.int .i64 (fitF x.kind 8), .int .i64 (fitF x.a made), .int .i64 (fitF x.b made), .int .i64 (fitF x.c made), (.slice B x.vars.length d)] 55)).alloc (.cells #[.int .i64 0, .int .i64 0, .int .i64 0, .int .i64 0, .slice none 0 0] 55)).drew).heap[w.heap.size + 1]? = some (.cells #[.int .i64 0, .int .i64 0, .int .i64 0, .int .i64 0, .slice none 0 0] 55) from blk_new_at _ (by simp))
  have HZW := Lib.hid (show (((w.alloc (.cells #[.int .i64 (fitF x.kind 8), .int .i64 (fitF x.a made), .int .i64 (fitF x.b made), .int .i64 (fitF x.c made), (.slice B x.vars.length d)] 55)).alloc (.cells #[.int .i64 0, .int .i64 0, .int .i64 0, .int .i64 0, .slice none 0 0] 55)).drew).heap.size = w.heap.size + 2 by simp [World.drew])
  go_loopw [7, 8] (fun v7 v8 w' => ∃ k : Nat, k ≤ (fitL x.vars n).length ∧ v8 = .int .i64 k ∧ Hid (Row w' 3 (Value.int .i64) v7 ((fitL x.vars n).take k)) ∧ Hid (Frm (fun _ => False) (((w.alloc (.cells #[.int .i64 (fitF x.kind 8), .int .i64 (fitF x.a made), .int .i64 (fitF x.b made), .int .i64 (fitF x.c made), (.slice B x.vars.length d)] 55)).alloc (.cells #[.int .i64 0, .int .i64 0, .int .i64 0, .int .i64 0, .slice none 0 0] 55)).drew) w') ∧ Hid (∀ g, v7.ownBlock = some g → w.heap.size + 2 ≤ g)) (fun _ v8 _ => (fitL x.vars n).length - (intOf v8).toNat)
  case atStart => exact ⟨0, Nat.zero_le _, rfl, Lib.hid ⟨by simp, .inr ⟨_, 0, _, rfl, Nat.zero_le _, blk_new_at _ (by simp), by simp⟩⟩, Lib.hid ((Frm.refl _ _).alloc _), Lib.hid fun g hg => by cases hg; simp⟩
  case round =>
    obtain ⟨k, hk, rfl, HR, HG, Hown⟩ := hrel
    have hbr := blk_frm (show (((w.alloc (.cells #[.int .i64 (fitF x.kind 8), .int .i64 (fitF x.a made), .int .i64 (fitF x.b made), .int .i64 (fitF x.c made), (.slice B x.vars.length d)] 55)).alloc (.cells #[.int .i64 0, .int .i64 0, .int .i64 0, .int .i64 0, .slice none 0 0] 55)).drew).heap[w.heap.size]? = some (.cells #[.int .i64 (fitF x.kind 8), .int .i64 (fitF x.a made), .int .i64 (fitF x.b made), .int .i64 (fitF x.c made), (.slice B x.vars.length d)] 55) from HB.out) HG.out id
    have hzr := blk_frm HBZ.out HG.out id
    have r4 : wr.cell? ⟨w.heap.size, 4, none⟩ = some (.slice B x.vars.length d) := blk_cell hbr 4
    have hwl := lt_of_block hbr
    have hll := fitL_len x.vars n
    by_cases hlt : k < (fitL x.vars n).length
    · have hkl : k < x.vars.length := by omega
      have hkn : (k : Int) < n := by omega
      have hkl' : (k : Int) < (x.vars.length : Int) := by omega
      have hxk : x.vars[k]? = some x.vars[k] := List.getElem?_eq_getElem hkl
      have hxi := Hiv.out _ (List.getElem_mem hkl)
      obtain ⟨A3, d3, e3, hd3⟩ := seesW_slice (Hx.out.frm (HFW.out.trans HG.out fun _ _ => id) fun _ _ _ => id)
      cases e3
      obtain ⟨g3, o3, e3, hc3⟩ := hd3 k _ hxk
      cases e3
      have htk := fitL_take hlt hxk
      generalize x.vars[k] = y at *
      have hf := Lib.hid (fit_calls wr y n hn0 (by omega) hxi)
      have Htk := Lib.hid htk
      have Hlk := Lib.hid (show ((fitL x.vars n).take k).length = k by rw [List.length_take]; omega)
      clear hll hxk hd3 htk hbr hzr
      go_wp2_with fail
      refine hf.out.mono ?_
      rintro e w' ⟨rfl, rfl⟩
      go_wp2_with (first | (at_builtin; refine wpList_append_row rfl _ _ 28 rfl 3 i0 (.int .i64 0) 8 Try.underlying28 hi0 hz0 hz1 hz2 rfl (enc := Value.int .i64) u7 ((fitL x.vars n).take k) rfl (HR.out.frm0 ((Frm.refl _ _).alloc _)) ⟨wr.heap.size, 0, none⟩ 1 (fitF y n) rfl ?c1 rfl ?c2 ?c3 ?_) | go_in)
      case c1 => exact blk_cell (blk_new _) 0
      case c2 => rw [Hlk.out]; have : maxLen = 9223372036854775807 := rfl; omega
      case c3 => rw [Hlk.out]; omega
      intro g cap w7 hrow hfr hg hlt7
      have HR' := Lib.hid hrow
      have HF' := Lib.hid ((HG.out.alloc _).trans hfr fun x hx h => by have := Hown.out x h; have := HZW.out; omega)
      have Hg := Lib.hid hg
      clear hrow hfr hg
      go_wp2
      go_roundw
      case rel => exact ⟨k + 1, by omega, by go_num, Lib.hid (by rw [Htk.out]; exact HR'.out), HF', Lib.hid fun g' hg' => by cases hg'; rcases Hg.out with h | h; exact Hown.out _ h; have h3 := HG.out.size; have := HZW.out; show _ ≤ g; first | omega | (simp at h h3; simp; omega)⟩
      case measure => simp [intOf]; omega
    · have hke : (fitL x.vars n).take k = fitL x.vars n := List.take_of_length_le (by omega)
      have HE := Lib.hid hke
      obtain ⟨A7, c7, e7, _⟩ := sees_slice HR.out.sees
      subst e7
      have r0 : wr.cell? ⟨w.heap.size, 0, none⟩ = some (.int .i64 (fitF x.kind 8)) := blk_cell hbr 0
      have r1 : wr.cell? ⟨w.heap.size, 1, none⟩ = some (.int .i64 (fitF x.a made)) := blk_cell hbr 1
      have r2 : wr.cell? ⟨w.heap.size, 2, none⟩ = some (.int .i64 (fitF x.b made)) := blk_cell hbr 2
      have r3 : wr.cell? ⟨w.heap.size, 3, none⟩ = some (.int .i64 (fitF x.c made)) := blk_cell hbr 3
      have s0 : wr.frozen? ⟨w.heap.size + 1, 0, none⟩ = false := blk_free hzr 0
      have s1 : wr.frozen? ⟨w.heap.size + 1, 1, none⟩ = false := blk_free hzr 1
      have s2 : wr.frozen? ⟨w.heap.size + 1, 2, none⟩ = false := blk_free hzr 2
      have s3 : wr.frozen? ⟨w.heap.size + 1, 3, none⟩ = false := blk_free hzr 3
      have s4 : wr.frozen? ⟨w.heap.size + 1, 4, none⟩ = false := blk_free hzr 4
      have t0 : wr.cell? ⟨w.heap.size + 1, 0, none⟩ = some (.int .i64 0) := blk_cell hzr 0
      have t1 : wr.cell? ⟨w.heap.size + 1, 1, none⟩ = some (.int .i64 0) := blk_cell hzr 1
      have t2 : wr.cell? ⟨w.heap.size + 1, 2, none⟩ = some (.int .i64 0) := blk_cell hzr 2
      have t3 : wr.cell? ⟨w.heap.size + 1, 3, none⟩ = some (.int .i64 0) := blk_cell hzr 3
      have t4 : wr.cell? ⟨w.heap.size + 1, 4, none⟩ = some (.slice none 0 0) := blk_cell hzr 4
      have z4 : wr.frozen? ⟨w.heap.size, 4, none⟩ = false := blk_free hbr 4
      have hlk : ((fitL x.vars n).take k).length = k := by rw [List.length_take]; omega
      have hR9 := HR.out
      rw [HE.out] at hR9
      have hO9 := Hown.out
      rw [HE.out] at hO9
      obtain ⟨hf1, hf2⟩ := fit_fin (y := { kind := fitF x.kind 8, a := fitF x.a made, b := fitF x.b made, c := fitF x.c made, vars := fitL x.vars n }) HY.out (HFW.out.trans HG.out fun _ _ => id) hzr hR9 hO9
      have hfin := Lib.hid hf1
      have Hfb := Lib.hid hf2
      clear hf1 hf2 hR9 hO9 hlk
      by_cases hkl : (k : Int) < (x.vars.length : Int)
      · have hkn : ¬ (k : Int) < n := by omega
        clear hll
        go_wp2
        try simp only [Exit.inBlock, Exit.then]
        refine bodyPost_ret (results_cell_row rfl _ _ (w.heap.size + 1) 55 _ (0, 0) _ rfl Hfb.out Try.underlying55 rfl ?cc) rfl ?_
        case cc => kernel_rfl
        exact hfin.out
      · clear hll
        go_wp2
        try simp only [Exit.inBlock, Exit.then]
        refine bodyPost_ret (results_cell_row rfl _ _ (w.heap.size + 1) 55 _ (0, 0) _ rfl Hfb.out Try.underlying55 rfl ?cc) rfl ?_
        case cc => kernel_rfl
        exact hfin.out
end LawW
end Go.Proofs.Ytjajpdmmoiiojaa
