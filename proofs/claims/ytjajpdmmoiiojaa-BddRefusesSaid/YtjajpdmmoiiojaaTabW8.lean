/- The document's answer, walked: Do, at the rest. -/
import Derived.Test.YtjajpdmmoiiojaaTabW7
namespace Go.Proofs.Ytjajpdmmoiiojaa
open Go.RowKit Go.Mem Go.Bdd
namespace TabW

set_option maxRecDepth 100000 in
set_option maxHeartbeats 4000000 in
theorem Do_rest (w : World) (ok : Nat → Prop) (n : Nat) (x : ActF) (vv vl : Value) (ts : List (List Bool)) (hn : n ≤ 30) (hx : Sees w (Value.int .i64) vv x.vars) (hl : Tabs w ok vl ts) (hts : 0 < ts.length) (hk : 0 ≤ x.kind ∧ x.kind ≤ 5)
    (hlen : ∀ a : Int, 0 ≤ a ∧ a < ts.length → (tab ts a).length = 2 ^ n) (ha0 : x.kind = 0 → 0 ≤ x.a ∧ x.a < n) (ha : x.kind ≠ 0 → (0 ≤ x.a ∧ x.a < ts.length) ∧ (0 ≤ x.b ∧ x.b < ts.length) ∧ (0 ≤ x.c ∧ x.c < ts.length)) :
    Calls Try.prog 31 #[.int .i64 n, .agg #[.int .i64 x.kind, .int .i64 x.a, .int .i64 x.b, .int .i64 x.c, vv], vl] w (DoPost w ok (doT n x ts)) := by
  have hd : doT n x ts = (List.range (2 ^ n)).map (doBit n x ts) := by unfold doT; rw [if_neg (by omega), if_neg (by omega)]
  obtain ⟨i0, hi, hz0, hz1, hz2⟩ := info_parts BddW.info_bool
  have h30 : 2 ^ n ≤ 1073741824 := by
    have h2 : 2 ^ n ≤ 2 ^ 30 := Nat.pow_le_pow_right (by omega) hn
    have h3 : (2 : Nat) ^ 30 = 1073741824 := by decide
    omega
  have hsh : wrap64 (2 ^ n) = ((2 ^ n : Nat) : Int) := by
    have e : (2 : Int) ^ n = ((2 ^ n : Nat) : Int) := by simp
    rw [e]; generalize 2 ^ n = M at *; unfold wrap64; omega
  obtain ⟨B, d, rfl, _⟩ := sees_slice hx
  have hF1 : Frm (fun _ => False) w (w.alloc (.cells #[.int .i64 x.kind, .int .i64 x.a, .int .i64 x.b, .int .i64 x.c, (.slice B x.vars.length d)] 55)) := (Frm.refl _ _).alloc _
  have hT1 := hl.frm0 hF1
  obtain ⟨gl, ol, cl, _, rfl, _, _, _⟩ := hT1.at (a := 0) (by omega)
  have hb := blk_new (w := w) (.cells #[.int .i64 x.kind, .int .i64 x.a, .int .i64 x.b, .int .i64 x.c, (.slice B x.vars.length d)] 55)
  have c0 : (w.alloc (.cells #[.int .i64 x.kind, .int .i64 x.a, .int .i64 x.b, .int .i64 x.c, (.slice B x.vars.length d)] 55)).cell? ⟨w.heap.size, 0, none⟩ = some (.int .i64 x.kind) := blk_cell hb 0
  generalize hN : 2 ^ n = N at *
  have HN := Lib.hid hN
  have Hsh := Lib.hid hsh
  have hd' := Lib.hid hd
  have hF1' := Lib.hid hF1
  have HT1 := Lib.hid hT1
  have HB := Lib.hid hb
  have Hlen := Lib.hid hlen
  have HA := Lib.hid ha
  have HA0 := Lib.hid ha0
  have HKN := Lib.hid hk
  have e6 : (x.kind == 6) = false := by simp; omega
  have e7 : (x.kind == 7) = false := by simp; omega
  clear hd hF1 hl hx hb hlen ha ha0 hT1 hk hN
  go_enter Try.func31, Try.ntmps31
  go_wp2
  go_loopw [7, 8] (fun v7 v8 w' => ∃ k : Nat, k ≤ N ∧ v8 = .int .i64 k ∧ Hid (Row w' 4 Value.bool v7 ((List.range k).map (doBit n x ts))) ∧ Hid (Frm (fun _ => False) (w.alloc (.cells #[.int .i64 x.kind, .int .i64 x.a, .int .i64 x.b, .int .i64 x.c, (.slice B x.vars.length d)] 55)) w') ∧ Hid (∀ g, v7.ownBlock = some g → (w.alloc (.cells #[.int .i64 x.kind, .int .i64 x.a, .int .i64 x.b, .int .i64 x.c, (.slice B x.vars.length d)] 55)).heap.size ≤ g)) (fun _ v8 _ => N - (intOf v8).toNat)
  case atStart => exact ⟨0, Nat.zero_le _, rfl, Lib.hid ⟨by simp, .inr ⟨_, 0, _, rfl, Nat.zero_le _, blk_new_at _ (by simp), by simp⟩⟩, Lib.hid ((Frm.refl _ _).alloc _), Lib.hid fun g hg => by cases hg; simp⟩
  case round =>
    obtain ⟨k, hk, rfl, HR, HF, Hown⟩ := hrel
    by_cases hlt : k < N
    · have htk : (List.range (k + 1)).map (doBit n x ts) = (List.range k).map (doBit n x ts) ++ [doBit n x ts k] := by rw [List.range_succ, List.map_append]; rfl
      have hlk : ((List.range k).map (doBit n x ts)).length = k := by simp
      have Htk := Lib.hid htk
      have Hlk := Lib.hid hlk
      have hblk := blk_frm HB.out HF.out id
      have r0 : wr.cell? ⟨w.heap.size, 0, none⟩ = some (.int .i64 x.kind) := blk_cell hblk 0
      have r1 : wr.cell? ⟨w.heap.size, 1, none⟩ = some (.int .i64 x.a) := blk_cell hblk 1
      have r2 : wr.cell? ⟨w.heap.size, 2, none⟩ = some (.int .i64 x.b) := blk_cell hblk 2
      have r3 : wr.cell? ⟨w.heap.size, 3, none⟩ = some (.int .i64 x.c) := blk_cell hblk 3
      have hwl : w.heap.size < wr.heap.size := lt_of_block hblk
      have HT := Lib.hid (HT1.out.frm0 HF.out)
      have hltN : (k : Int) < wrap64 (2 ^ n) := by rw [Hsh.out]; omega
      clear htk hlk hblk hsh
      by_cases hk0 : x.kind = 0
      · have q0 : (x.kind == 0) = true := by simp [hk0]
        obtain ⟨a0, a1⟩ := HA0.out hk0
        have HW := Lib.hid (Way_calls wr.drew n k (by omega) (by have := HN.out; omega))
        have hbit : doBit n x ts k = tat (wayF n k) x.a.toNat := by unfold doBit; rw [if_pos hk0]
        have hy := tat_get (t := wayF n k) (i := x.a.toNat) (by rw [wayF_len]; omega)
        have hal : x.a < ((wayF n k).length : Int) := by rw [wayF_len]; exact a1
        generalize tat (wayF n k) x.a.toNat = b at *
        have HBIT := Lib.hid hbit
        have HY := Lib.hid hy
        clear hbit hy hk0
        go_wp2
        refine Plan.wp_region_plan [0, 0, 3, 0, 8, 31, 63, 127] (List.cons (Plan.Seg.mk (List.cons 0 (List.cons 1 (List.cons 3 (List.cons 4 List.nil)))) 2 (List.cons 3 (List.cons 4 List.nil))) List.nil) (List.cons 5 (List.cons 6 (List.cons 7 List.nil))) (by kernel_rfl) (by kernel_rfl) ?_
        simp only [Plan.wayOf, Plan.pickAll, List.getElem?_cons_zero, List.getElem?_cons_succ, List.getD_eq_getElem?_getD, Option.getD_some]
        refine Plan.wpWay_seg ?_
        repeat go_big_quiet_step (fail)
        refine wpQuiet_nil ?_
        refine Plan.wpWay_act ?_
        go_wp2_with fail
        refine HW.out.mono ?_
        rintro e w2 ⟨vw, rfl, hrw, hfw, _⟩
        obtain ⟨A4, d4, e4, hd4⟩ := sees_slice hrw.sees
        cases e4
        obtain ⟨g4, o4, e4, hc4⟩ := hd4 _ _ HY.out
        cases e4
        have hb2 := blk_frm (blk_frm HB.out HF.out id) ((Frm.refl _ _).drew.trans hfw fun _ _ h => h) id
        have r1' : w2.cell? ⟨w.heap.size, 1, none⟩ = some (.int .i64 x.a) := blk_cell hb2 1
        have HR2 := Lib.hid (HR.out.frm0 ((Frm.refl _ _).drew.trans hfw fun _ _ h => h))
        have HF2 := Lib.hid (HF.out.drew.trans hfw fun _ _ h => h)
        clear hrw hfw hd4 hb2
        go_wp2_with fail
        refine And.intro ?_ ?_
        focus
          refine Plan.again_cons ?_ ?_
          focus
            go_big_quiet_step (fail)
            exact wpQuiet_nil rfl
          refine Plan.again_cons ?_ ?_
          focus
            go_big_quiet_step (fail)
            exact wpQuiet_nil rfl
          exact Plan.again_nil
        refine Plan.wpWay_last ?_
        repeat go_big_quiet_step (fail)
        refine wpQuiet_nil ?_
        refine NoPanic.normal ?_
        go_wp2_with (first | (at_builtin; refine wpList_append_row rfl _ _ 33 rfl 4 i0 (.bool false) 1 Try.underlying33 hi hz0 hz1 hz2 rfl (enc := Value.bool) u7 ((List.range k).map (doBit n x ts)) rfl (HR2.out.frm0 ((Frm.refl _ _).alloc _)) ⟨w2.heap.size, 0, none⟩ 1 (doBit n x ts k) rfl ?c1 rfl ?c2 ?c3 ?_) | go_in)
        case c1 => rw [HBIT.out]; exact blk_cell (blk_new _) 0
        case c2 => rw [Hlk.out]; have : maxLen = 9223372036854775807 := rfl; omega
        case c3 => rw [Hlk.out]; omega
        intro g cap w7 hrow hfr hg hlt7
        have HR' := Lib.hid hrow
        have HF' := Lib.hid ((HF2.out.alloc _).trans hfr fun x hx h => by have := Hown.out x h; omega)
        have Hg := Lib.hid hg
        clear hrow hfr hg
        go_wp2
        go_roundw
        case rel => exact ⟨k + 1, by omega, by go_num, Lib.hid (by rw [Htk.out]; exact HR'.out), HF', Lib.hid fun g' hg' => by cases hg'; rcases Hg.out with h | h; exact Hown.out _ h; have h3 := HF2.out.size; show _ ≤ g; first | omega | (simp at h h3; simp; omega)⟩
        case measure => simp [intOf]; omega
      have q0 : (x.kind == 0) = false := by simp [hk0]
      by_cases hk1 : x.kind = 1
      · have q1 : (x.kind == 1) = true := by simp [hk1]
        obtain ⟨a0, a1⟩ := HA.out hk0 |>.1
        obtain ⟨ga, oa, ca, ga2, oa2, ca2, e, hac, had⟩ := HT.out.bit (i := k) ⟨a0, a1⟩ (by rw [Hlen.out _ ⟨a0, a1⟩]; have := HN.out; omega)
        cases e
        have hla : (k : Int) < ((tab ts x.a).length : Int) := by rw [Hlen.out _ ⟨a0, a1⟩]; have := HN.out; omega
        obtain ⟨b0, b1⟩ := (HA.out hk0).2.1
        obtain ⟨gb, ob, cb, gb2, ob2, cb2, e, hbc, hbd⟩ := HT.out.bit (i := k) ⟨b0, b1⟩ (by rw [Hlen.out _ ⟨b0, b1⟩]; have := HN.out; omega)
        cases e
        have hlb : (k : Int) < ((tab ts x.b).length : Int) := by rw [Hlen.out _ ⟨b0, b1⟩]; have := HN.out; omega
        obtain ⟨c0, c1⟩ := (HA.out hk0).2.2
        obtain ⟨gc, oc, cc, gc2, oc2, cc2, e, hcc, hcd⟩ := HT.out.bit (i := k) ⟨c0, c1⟩ (by rw [Hlen.out _ ⟨c0, c1⟩]; have := HN.out; omega)
        cases e
        have hlc : (k : Int) < ((tab ts x.c).length : Int) := by rw [Hlen.out _ ⟨c0, c1⟩]; have := HN.out; omega
        have hbit : doBit n x ts k = ((tat (tab ts x.a) k && tat (tab ts x.b) k) || (!tat (tab ts x.a) k && tat (tab ts x.c) k)) := by unfold doBit; rw [if_neg hk0, if_pos hk1]
        generalize tat (tab ts x.a) k = la at *
        generalize tat (tab ts x.b) k = lb at *
        generalize tat (tab ts x.c) k = lc at *
        have HBIT := Lib.hid hbit
        clear hbit hk0 hk1
        cases la with
        | false =>
          go_wp2_with (first | (at_builtin; refine wpList_append_row rfl _ _ 33 rfl 4 i0 (.bool false) 1 Try.underlying33 hi hz0 hz1 hz2 rfl (enc := Value.bool) u7 ((List.range k).map (doBit n x ts)) rfl (HR.out.frm0 ((Frm.refl _ _).alloc _)) ⟨wr.heap.size, 0, none⟩ 1 (doBit n x ts k) rfl ?c1 rfl ?c2 ?c3 ?_) | go_in)
          case c1 => rw [HBIT.out]; exact blk_cell (blk_new _) 0
          case c2 => rw [Hlk.out]; have : maxLen = 9223372036854775807 := rfl; omega
          case c3 => rw [Hlk.out]; omega
          intro g cap w7 hrow hfr hg hlt7
          have HR' := Lib.hid hrow
          have HF' := Lib.hid ((HF.out.alloc _).trans hfr fun x hx h => by have := Hown.out x h; omega)
          have Hg := Lib.hid hg
          clear hrow hfr hg
          go_wp2
          go_roundw
          case rel => exact ⟨k + 1, by omega, by go_num, Lib.hid (by rw [Htk.out]; exact HR'.out), HF', Lib.hid fun g' hg' => by cases hg'; rcases Hg.out with h | h; exact Hown.out _ h; have h3 := HF.out.size; show _ ≤ g; first | omega | (simp at h h3; simp; omega)⟩
          case measure => simp [intOf]; omega
        | true =>
          cases lb with
          | false =>
            go_wp2_with (first | (at_builtin; refine wpList_append_row rfl _ _ 33 rfl 4 i0 (.bool false) 1 Try.underlying33 hi hz0 hz1 hz2 rfl (enc := Value.bool) u7 ((List.range k).map (doBit n x ts)) rfl (HR.out.frm0 ((Frm.refl _ _).alloc _)) ⟨wr.heap.size, 0, none⟩ 1 (doBit n x ts k) rfl ?c1 rfl ?c2 ?c3 ?_) | go_in)
            case c1 => rw [HBIT.out]; exact blk_cell (blk_new _) 0
            case c2 => rw [Hlk.out]; have : maxLen = 9223372036854775807 := rfl; omega
            case c3 => rw [Hlk.out]; omega
            intro g cap w7 hrow hfr hg hlt7
            have HR' := Lib.hid hrow
            have HF' := Lib.hid ((HF.out.alloc _).trans hfr fun x hx h => by have := Hown.out x h; omega)
            have Hg := Lib.hid hg
            clear hrow hfr hg
            go_wp2
            go_roundw
            case rel => exact ⟨k + 1, by omega, by go_num, Lib.hid (by rw [Htk.out]; exact HR'.out), HF', Lib.hid fun g' hg' => by cases hg'; rcases Hg.out with h | h; exact Hown.out _ h; have h3 := HF.out.size; show _ ≤ g; first | omega | (simp at h h3; simp; omega)⟩
            case measure => simp [intOf]; omega
          | true =>
            go_wp2_with (first | (at_builtin; refine wpList_append_row rfl _ _ 33 rfl 4 i0 (.bool false) 1 Try.underlying33 hi hz0 hz1 hz2 rfl (enc := Value.bool) u7 ((List.range k).map (doBit n x ts)) rfl (HR.out.frm0 ((Frm.refl _ _).alloc _)) ⟨wr.heap.size, 0, none⟩ 1 (doBit n x ts k) rfl ?c1 rfl ?c2 ?c3 ?_) | go_in)
            case c1 => rw [HBIT.out]; exact blk_cell (blk_new _) 0
            case c2 => rw [Hlk.out]; have : maxLen = 9223372036854775807 := rfl; omega
            case c3 => rw [Hlk.out]; omega
            intro g cap w7 hrow hfr hg hlt7
            have HR' := Lib.hid hrow
            have HF' := Lib.hid ((HF.out.alloc _).trans hfr fun x hx h => by have := Hown.out x h; omega)
            have Hg := Lib.hid hg
            clear hrow hfr hg
            go_wp2
            go_roundw
            case rel => exact ⟨k + 1, by omega, by go_num, Lib.hid (by rw [Htk.out]; exact HR'.out), HF', Lib.hid fun g' hg' => by cases hg'; rcases Hg.out with h | h; exact Hown.out _ h; have h3 := HF.out.size; show _ ≤ g; first | omega | (simp at h h3; simp; omega)⟩
            case measure => simp [intOf]; omega
      have q1 : (x.kind == 1) = false := by simp [hk1]
      by_cases hk2 : x.kind = 2
      · have q2 : (x.kind == 2) = true := by simp [hk2]
        obtain ⟨a0, a1⟩ := HA.out hk0 |>.1
        obtain ⟨ga, oa, ca, ga2, oa2, ca2, e, hac, had⟩ := HT.out.bit (i := k) ⟨a0, a1⟩ (by rw [Hlen.out _ ⟨a0, a1⟩]; have := HN.out; omega)
        cases e
        have hla : (k : Int) < ((tab ts x.a).length : Int) := by rw [Hlen.out _ ⟨a0, a1⟩]; have := HN.out; omega
        have hbit : doBit n x ts k = !tat (tab ts x.a) k := by unfold doBit; rw [if_neg hk0, if_neg hk1, if_pos hk2]
        generalize tat (tab ts x.a) k = la at *
        have HBIT := Lib.hid hbit
        clear hbit hk0 hk1 hk2
        go_wp2_with (first | (at_builtin; refine wpList_append_row rfl _ _ 33 rfl 4 i0 (.bool false) 1 Try.underlying33 hi hz0 hz1 hz2 rfl (enc := Value.bool) u7 ((List.range k).map (doBit n x ts)) rfl (HR.out.frm0 ((Frm.refl _ _).alloc _)) ⟨wr.heap.size, 0, none⟩ 1 (doBit n x ts k) rfl ?c1 rfl ?c2 ?c3 ?_) | go_in)
        case c1 => rw [HBIT.out]; exact blk_cell (blk_new _) 0
        case c2 => rw [Hlk.out]; have : maxLen = 9223372036854775807 := rfl; omega
        case c3 => rw [Hlk.out]; omega
        intro g cap w7 hrow hfr hg hlt7
        have HR' := Lib.hid hrow
        have HF' := Lib.hid ((HF.out.alloc _).trans hfr fun x hx h => by have := Hown.out x h; omega)
        have Hg := Lib.hid hg
        clear hrow hfr hg
        go_wp2
        go_roundw
        case rel => exact ⟨k + 1, by omega, by go_num, Lib.hid (by rw [Htk.out]; exact HR'.out), HF', Lib.hid fun g' hg' => by cases hg'; rcases Hg.out with h | h; exact Hown.out _ h; have h3 := HF.out.size; show _ ≤ g; first | omega | (simp at h h3; simp; omega)⟩
        case measure => simp [intOf]; omega
      have q2 : (x.kind == 2) = false := by simp [hk2]
      by_cases hk3 : x.kind = 3
      · have q3 : (x.kind == 3) = true := by simp [hk3]
        obtain ⟨a0, a1⟩ := HA.out hk0 |>.1
        obtain ⟨ga, oa, ca, ga2, oa2, ca2, e, hac, had⟩ := HT.out.bit (i := k) ⟨a0, a1⟩ (by rw [Hlen.out _ ⟨a0, a1⟩]; have := HN.out; omega)
        cases e
        have hla : (k : Int) < ((tab ts x.a).length : Int) := by rw [Hlen.out _ ⟨a0, a1⟩]; have := HN.out; omega
        obtain ⟨b0, b1⟩ := (HA.out hk0).2.1
        obtain ⟨gb, ob, cb, gb2, ob2, cb2, e, hbc, hbd⟩ := HT.out.bit (i := k) ⟨b0, b1⟩ (by rw [Hlen.out _ ⟨b0, b1⟩]; have := HN.out; omega)
        cases e
        have hlb : (k : Int) < ((tab ts x.b).length : Int) := by rw [Hlen.out _ ⟨b0, b1⟩]; have := HN.out; omega
        have hbit : doBit n x ts k = (tat (tab ts x.a) k && tat (tab ts x.b) k) := by unfold doBit; rw [if_neg hk0, if_neg hk1, if_neg hk2, if_pos hk3]
        generalize tat (tab ts x.a) k = la at *
        generalize tat (tab ts x.b) k = lb at *
        have HBIT := Lib.hid hbit
        clear hbit hk0 hk1 hk2 hk3
        cases la with
        | false =>
          go_wp2_with (first | (at_builtin; refine wpList_append_row rfl _ _ 33 rfl 4 i0 (.bool false) 1 Try.underlying33 hi hz0 hz1 hz2 rfl (enc := Value.bool) u7 ((List.range k).map (doBit n x ts)) rfl (HR.out.frm0 ((Frm.refl _ _).alloc _)) ⟨wr.heap.size, 0, none⟩ 1 (doBit n x ts k) rfl ?c1 rfl ?c2 ?c3 ?_) | go_in)
          case c1 => rw [HBIT.out]; exact blk_cell (blk_new _) 0
          case c2 => rw [Hlk.out]; have : maxLen = 9223372036854775807 := rfl; omega
          case c3 => rw [Hlk.out]; omega
          intro g cap w7 hrow hfr hg hlt7
          have HR' := Lib.hid hrow
          have HF' := Lib.hid ((HF.out.alloc _).trans hfr fun x hx h => by have := Hown.out x h; omega)
          have Hg := Lib.hid hg
          clear hrow hfr hg
          go_wp2
          go_roundw
          case rel => exact ⟨k + 1, by omega, by go_num, Lib.hid (by rw [Htk.out]; exact HR'.out), HF', Lib.hid fun g' hg' => by cases hg'; rcases Hg.out with h | h; exact Hown.out _ h; have h3 := HF.out.size; show _ ≤ g; first | omega | (simp at h h3; simp; omega)⟩
          case measure => simp [intOf]; omega
        | true =>
          go_wp2_with (first | (at_builtin; refine wpList_append_row rfl _ _ 33 rfl 4 i0 (.bool false) 1 Try.underlying33 hi hz0 hz1 hz2 rfl (enc := Value.bool) u7 ((List.range k).map (doBit n x ts)) rfl (HR.out.frm0 ((Frm.refl _ _).alloc _)) ⟨wr.heap.size, 0, none⟩ 1 (doBit n x ts k) rfl ?c1 rfl ?c2 ?c3 ?_) | go_in)
          case c1 => rw [HBIT.out]; exact blk_cell (blk_new _) 0
          case c2 => rw [Hlk.out]; have : maxLen = 9223372036854775807 := rfl; omega
          case c3 => rw [Hlk.out]; omega
          intro g cap w7 hrow hfr hg hlt7
          have HR' := Lib.hid hrow
          have HF' := Lib.hid ((HF.out.alloc _).trans hfr fun x hx h => by have := Hown.out x h; omega)
          have Hg := Lib.hid hg
          clear hrow hfr hg
          go_wp2
          go_roundw
          case rel => exact ⟨k + 1, by omega, by go_num, Lib.hid (by rw [Htk.out]; exact HR'.out), HF', Lib.hid fun g' hg' => by cases hg'; rcases Hg.out with h | h; exact Hown.out _ h; have h3 := HF.out.size; show _ ≤ g; first | omega | (simp at h h3; simp; omega)⟩
          case measure => simp [intOf]; omega
      have q3 : (x.kind == 3) = false := by simp [hk3]
      by_cases hk4 : x.kind = 4
      · have q4 : (x.kind == 4) = true := by simp [hk4]
        obtain ⟨a0, a1⟩ := HA.out hk0 |>.1
        obtain ⟨ga, oa, ca, ga2, oa2, ca2, e, hac, had⟩ := HT.out.bit (i := k) ⟨a0, a1⟩ (by rw [Hlen.out _ ⟨a0, a1⟩]; have := HN.out; omega)
        cases e
        have hla : (k : Int) < ((tab ts x.a).length : Int) := by rw [Hlen.out _ ⟨a0, a1⟩]; have := HN.out; omega
        obtain ⟨b0, b1⟩ := (HA.out hk0).2.1
        obtain ⟨gb, ob, cb, gb2, ob2, cb2, e, hbc, hbd⟩ := HT.out.bit (i := k) ⟨b0, b1⟩ (by rw [Hlen.out _ ⟨b0, b1⟩]; have := HN.out; omega)
        cases e
        have hlb : (k : Int) < ((tab ts x.b).length : Int) := by rw [Hlen.out _ ⟨b0, b1⟩]; have := HN.out; omega
        have hbit : doBit n x ts k = (tat (tab ts x.a) k || tat (tab ts x.b) k) := by unfold doBit; rw [if_neg hk0, if_neg hk1, if_neg hk2, if_neg hk3, if_pos hk4]
        generalize tat (tab ts x.a) k = la at *
        generalize tat (tab ts x.b) k = lb at *
        have HBIT := Lib.hid hbit
        clear hbit hk0 hk1 hk2 hk3 hk4
        cases la with
        | false =>
          go_wp2_with (first | (at_builtin; refine wpList_append_row rfl _ _ 33 rfl 4 i0 (.bool false) 1 Try.underlying33 hi hz0 hz1 hz2 rfl (enc := Value.bool) u7 ((List.range k).map (doBit n x ts)) rfl (HR.out.frm0 ((Frm.refl _ _).alloc _)) ⟨wr.heap.size, 0, none⟩ 1 (doBit n x ts k) rfl ?c1 rfl ?c2 ?c3 ?_) | go_in)
          case c1 => rw [HBIT.out]; exact blk_cell (blk_new _) 0
          case c2 => rw [Hlk.out]; have : maxLen = 9223372036854775807 := rfl; omega
          case c3 => rw [Hlk.out]; omega
          intro g cap w7 hrow hfr hg hlt7
          have HR' := Lib.hid hrow
          have HF' := Lib.hid ((HF.out.alloc _).trans hfr fun x hx h => by have := Hown.out x h; omega)
          have Hg := Lib.hid hg
          clear hrow hfr hg
          go_wp2
          go_roundw
          case rel => exact ⟨k + 1, by omega, by go_num, Lib.hid (by rw [Htk.out]; exact HR'.out), HF', Lib.hid fun g' hg' => by cases hg'; rcases Hg.out with h | h; exact Hown.out _ h; have h3 := HF.out.size; show _ ≤ g; first | omega | (simp at h h3; simp; omega)⟩
          case measure => simp [intOf]; omega
        | true =>
          go_wp2_with (first | (at_builtin; refine wpList_append_row rfl _ _ 33 rfl 4 i0 (.bool false) 1 Try.underlying33 hi hz0 hz1 hz2 rfl (enc := Value.bool) u7 ((List.range k).map (doBit n x ts)) rfl (HR.out.frm0 ((Frm.refl _ _).alloc _)) ⟨wr.heap.size, 0, none⟩ 1 (doBit n x ts k) rfl ?c1 rfl ?c2 ?c3 ?_) | go_in)
          case c1 => rw [HBIT.out]; exact blk_cell (blk_new _) 0
          case c2 => rw [Hlk.out]; have : maxLen = 9223372036854775807 := rfl; omega
          case c3 => rw [Hlk.out]; omega
          intro g cap w7 hrow hfr hg hlt7
          have HR' := Lib.hid hrow
          have HF' := Lib.hid ((HF.out.alloc _).trans hfr fun x hx h => by have := Hown.out x h; omega)
          have Hg := Lib.hid hg
          clear hrow hfr hg
          go_wp2
          go_roundw
          case rel => exact ⟨k + 1, by omega, by go_num, Lib.hid (by rw [Htk.out]; exact HR'.out), HF', Lib.hid fun g' hg' => by cases hg'; rcases Hg.out with h | h; exact Hown.out _ h; have h3 := HF.out.size; show _ ≤ g; first | omega | (simp at h h3; simp; omega)⟩
          case measure => simp [intOf]; omega
      have q4 : (x.kind == 4) = false := by simp [hk4]
      obtain ⟨a0, a1⟩ := HA.out hk0 |>.1
      obtain ⟨ga, oa, ca, ga2, oa2, ca2, e, hac, had⟩ := HT.out.bit (i := k) ⟨a0, a1⟩ (by rw [Hlen.out _ ⟨a0, a1⟩]; have := HN.out; omega)
      cases e
      have hla : (k : Int) < ((tab ts x.a).length : Int) := by rw [Hlen.out _ ⟨a0, a1⟩]; have := HN.out; omega
      obtain ⟨b0, b1⟩ := (HA.out hk0).2.1
      obtain ⟨gb, ob, cb, gb2, ob2, cb2, e, hbc, hbd⟩ := HT.out.bit (i := k) ⟨b0, b1⟩ (by rw [Hlen.out _ ⟨b0, b1⟩]; have := HN.out; omega)
      cases e
      have hlb : (k : Int) < ((tab ts x.b).length : Int) := by rw [Hlen.out _ ⟨b0, b1⟩]; have := HN.out; omega
      have hbit : doBit n x ts k = (tat (tab ts x.a) k == tat (tab ts x.b) k) := by unfold doBit; rw [if_neg hk0, if_neg hk1, if_neg hk2, if_neg hk3, if_neg hk4]
      generalize tat (tab ts x.a) k = la at *
      generalize tat (tab ts x.b) k = lb at *
      have HBIT := Lib.hid hbit
      clear hbit hk0 hk1 hk2 hk3 hk4
      go_wp2
      go_quiet (fail)
      rename_i nq
      have HR2 := Lib.hid (HR.out.frm0 ((Frm.refl _ _).drewN nq))
      have HF2 := Lib.hid (HF.out.drewN nq)
      go_wp2_with (first | (at_builtin; refine wpList_append_row rfl _ _ 33 rfl 4 i0 (.bool false) 1 Try.underlying33 hi hz0 hz1 hz2 rfl (enc := Value.bool) u7 ((List.range k).map (doBit n x ts)) rfl (HR2.out.frm0 ((Frm.refl _ _).alloc _)) ⟨wr.heap.size, 0, none⟩ 1 (doBit n x ts k) rfl ?c1 rfl ?c2 ?c3 ?_) | go_in)
      case c1 => rw [HBIT.out]; exact blk_cell (blk_new _) 0
      case c2 => rw [Hlk.out]; have : maxLen = 9223372036854775807 := rfl; omega
      case c3 => rw [Hlk.out]; omega
      intro g cap w7 hrow hfr hg hlt7
      have HR' := Lib.hid hrow
      have HF' := Lib.hid ((HF2.out.alloc _).trans hfr fun x hx h => by have := Hown.out x h; omega)
      have Hg := Lib.hid hg
      clear hrow hfr hg
      go_wp2
      go_roundw
      case rel => exact ⟨k + 1, by omega, by go_num, Lib.hid (by rw [Htk.out]; exact HR'.out), HF', Lib.hid fun g' hg' => by cases hg'; rcases Hg.out with h | h; exact Hown.out _ h; have h3 := HF2.out.size; show _ ≤ g; first | omega | (simp at h h3; simp; omega)⟩
      case measure => simp [intOf]; omega
    · have hke : k = N := by omega
      have hltN : ¬ (k : Int) < wrap64 (2 ^ n) := by rw [Hsh.out]; omega
      have hfin := Lib.hid (show DoPost w ok (doT n x ts) (.returned u7) wr from ⟨u7, rfl, by rw [hd'.out, ← hke]; exact HR.out.sees, hF1'.out.trans HF.out fun _ _ => id, fun g hg => by
        obtain ⟨o', n', c', e'⟩ := hg
        exact .inr (Nat.le_trans hF1'.out.size (Hown.out g (by rw [e']; rfl)))⟩)
      clear hke hsh
      go_wp2
      go_ret
      exact hfin.out
end TabW
end Go.Proofs.Ytjajpdmmoiiojaa
