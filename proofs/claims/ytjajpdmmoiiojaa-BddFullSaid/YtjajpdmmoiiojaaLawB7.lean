/- The statements, walked: BddFull. -/
import Derived.Test.YtjajpdmmoiiojaaLawB1
import Derived.Test.YtjajpdmmoiiojaaP9
namespace Go.Proofs.Ytjajpdmmoiiojaa
open Go.RowKit Go.Mem Go.Bdd
namespace LawW
open TabW BddW

theorem lay1 {wr : World} {own : Nat → Prop} {vl u9 u10 : Value} {N base : Nat} (ho : ∀ b, own b → b < base) (hb : base ≤ wr.heap.size) (hl : Row wr 3 (Value.int .i64) vl [0, 1]) (hlo : ∀ g, vl.ownBlock = some g → ¬ own g ∧ g < base)
    (h9 : Row wr 4 Value.bool u9 (List.replicate N false)) (h10 : Row wr 4 Value.bool u10 (List.replicate N true)) (o9 : ∀ g, u9.ownBlock = some g → base ≤ g) (o10 : ∀ g, u10.ownBlock = some g → base ≤ g) :
    Lay (wr.alloc (.cells #[u9, u10] 33)) own vl (.slice (some ⟨wr.heap.size, 0, none⟩) 2 2) [0, 1] [List.replicate N false, List.replicate N true] := by
  have hF2 : Frm (fun _ => False) wr (wr.alloc (.cells #[u9, u10] 33)) := (Frm.refl _ _).alloc _
  have tok : ∀ {u : Value} {b : Bool}, Row wr 4 Value.bool u (List.replicate N b) → (∀ g, u.ownBlock = some g → base ≤ g) → ∀ g, InBlk u g → TOk (wr.alloc (.cells #[u9, u10] 33)) own vl (.slice (some ⟨wr.heap.size, 0, none⟩) 2 2) g := fun hr hu g hg => by
    obtain ⟨o', n', c', e⟩ := hg
    have hg' := hr.lt g (by rw [e]; rfl)
    have hgb := hu g (by rw [e]; rfl)
    refine ⟨by simp; omega, fun o => by have := ho g o; omega, fun e => by have := (hlo g e).2; omega, fun e => ?_⟩
    have e' : wr.heap.size = g := by simpa [Value.ownBlock] using e
    omega
  refine ⟨hl.frm0 hF2, fun g hg => ⟨(hlo g hg).1, fun e => ?_⟩, fun g hg => ?_, [u9, u10], ⟨rfl, .inr ⟨wr.heap.size, 2, _, rfl, Nat.zero_le _, blk_new _, Nat.le_refl _, by decide, rfl, rfl⟩⟩, rfl, fun i u t hu ht => ?_⟩
  · have e' : wr.heap.size = g := by simpa [Value.ownBlock] using e
    have := (hlo g hg).2; omega
  · have e' : wr.heap.size = g := by simpa [Value.ownBlock] using hg
    exact fun o => by have := ho g o; omega
  · match i, hu, ht with
    | 0, hu, ht => simp at hu ht; subst hu; subst ht; exact ⟨(h9.frm0 hF2).sees, tok h9 o9⟩
    | 1, hu, ht => simp at hu ht; subst hu; subst ht; exact ⟨(h10.frm0 hF2).sees, tok h10 o10⟩
    | i + 2, hu, ht => simp at hu

set_option maxRecDepth 100000 in
set_option maxHeartbeats 1000000 in
theorem full_out (room : Int) (va : Value) (hr : ¬ (2 ≤ room ∧ room ≤ 16777216)) (w : World) : Calls Try.prog 8 #[.int .i64 room, va] w fun e w' => e = .returned (.bool true) ∧ Below w.heap.size w w' := by
  have HN := Lib.hid (New_no w 5 room (.inr hr))
  rw [if_pos (by omega)] at HN
  have HAW := Lib.hid (awake_calls w)
  by_cases h0 : room < 2
  · clear hr
    go_enter Try.func8, Try.ntmps8
    go_wp2_with fail
    refine HN.out.mono ?_
    rintro e w' ⟨rfl, rfl⟩
    go_wp2_with fail
    refine HAW.out.mono ?_
    rintro e w2 ⟨rfl, hf2⟩
    have HF := Lib.hid hf2
    clear hf2
    go_wp2
    go_ret
    exact ⟨rfl, HF.out.below⟩
  · have h1 : room > 16777216 := by omega
    clear hr
    go_enter Try.func8, Try.ntmps8
    go_wp2_with fail
    refine HN.out.mono ?_
    rintro e w' ⟨rfl, rfl⟩
    go_wp2_with fail
    refine HAW.out.mono ?_
    rintro e w2 ⟨rfl, hf2⟩
    have HF := Lib.hid hf2
    clear hf2
    go_wp2
    go_ret
    exact ⟨rfl, HF.out.below⟩

set_option maxRecDepth 100000 in
set_option maxHeartbeats 8000000 in
theorem full_in (room : Int) (va : Value) (hr0 : 2 ≤ room) (hr1 : room ≤ 16777216) (xs : List ActF) (W0 : World) (hA : ActsIn W0 (fun _ => False) va xs) : Calls Try.prog 8 #[.int .i64 room, va] W0 fun e w' => e = .returned (.bool true) ∧ Below W0.heap.size W0 w' := by
  obtain ⟨i0, hi0, hz0, hz1, hz2⟩ := info_parts BddW.info_bool
  obtain ⟨j0, hj0, hy0, hy1, hy2⟩ := info_parts info_int
  obtain ⟨k0, hk0, hq0, hq1, hq2⟩ := info_parts info_bools
  have HN := Lib.hid (New_ok W0 5 room (by omega) (by omega) hr0 hr1)
  have d0 : ¬ room < 2 := by omega
  have d1 : ¬ room > 16777216 := by omega
  obtain ⟨A2, c2, rfl, _, _⟩ := hA.slice
  have HA0 := Lib.hid hA
  clear hA
  go_enter Try.func8, Try.ntmps8
  go_wp2_with fail
  refine HN.out.mono ?_
  rintro e w1 ⟨own, p, rfl, hS, hnew, hF⟩
  have HAW := Lib.hid (awake_calls w1)
  have HM1 : Hid (Moves (fun _ => False) W0 own w1) := Lib.hid ⟨hF, fun b hb => .inr (hnew b hb)⟩
  have HS1 := Lib.hid hS
  clear hS hnew hF HN
  go_wp2_with fail
  refine HAW.out.mono ?_
  rintro e w ⟨rfl, hf2⟩
  have HMW := Lib.hid (HM1.out.trans (.of_frm (hf2.mono fun _ _ h => h.elim) fun _ h => .inl h))
  have HS := Lib.hid (HS1.out.frm hf2 fun _ _ => id)
  have HA := Lib.hid (HA0.out.move HMW.out)
  have HG : Hid (Go.Bdd.Good 5 (newSto 5 room) [0, 1] [List.replicate 32 false, List.replicate 32 true]) := Lib.hid (good0 (n := 5) hr0)
  clear hf2 HAW HA0 HM1 HS1
  go_wp2
  go_loopw [8, 9, 10] (fun v9 v10 v11 w' => ∃ k : Nat, k ≤ 32 ∧ v11 = .int .i64 k ∧ Hid (Row w' 4 Value.bool v9 (List.replicate k false)) ∧ Hid (Row w' 4 Value.bool v10 (List.replicate k true)) ∧ Hid (Frm (fun _ => False) (w.alloc (.cells #[.int .i64 0, .int .i64 1] 3)) w') ∧ Hid (∀ g, v9.ownBlock = some g → w.heap.size + 1 ≤ g ∧ v10.ownBlock ≠ some g) ∧ Hid (∀ g, v10.ownBlock = some g → w.heap.size + 1 ≤ g)) (fun _ _ v11 _ => 32 - (intOf v11).toNat)
  case atStart => exact ⟨0, Nat.zero_le _, rfl, Lib.hid ⟨by simp, .inr ⟨_, 0, _, rfl, Nat.zero_le _, blk_alloc (blk_new_at _ (by simp)) _, by simp⟩⟩, Lib.hid ⟨by simp, .inr ⟨_, 0, _, rfl, Nat.zero_le _, blk_new_at _ (by simp), by simp⟩⟩, Lib.hid (((Frm.refl _ _).alloc _).alloc _), Lib.hid fun g hg => by have e9 := own_eq hg; exact ⟨by first | omega | (simp at e9; omega), fun e => by have e8 := own_eq e; first | omega | (simp at e8 e9; omega)⟩, Lib.hid fun g hg => by have e9 := own_eq hg; first | omega | (simp at e9; omega)⟩
  case round =>
    obtain ⟨k, hk, rfl, H9, H10, HF, Ho9, Ho10⟩ := hrel
    have hwsz : w.heap.size + 1 ≤ wr.heap.size := by have := HF.out.size; simpa using this
    by_cases hlt : k < 32
    · have hltN : (k : Int) < 32 := by omega
      go_wp2_with (first | (at_builtin; refine wpList_append_row rfl _ _ 33 rfl 4 i0 (.bool false) 1 Try.underlying33 hi0 hz0 hz1 hz2 rfl (enc := Value.bool) u8 (List.replicate k false) rfl (H9.out.frm0 ((Frm.refl _ _).alloc _)) ⟨wr.heap.size, 0, none⟩ 1 false rfl ?c1 rfl ?c2 ?c3 ?_) | go_in)
      case c1 => exact blk_cell (blk_new _) 0
      case c2 => rw [List.length_replicate]; have : maxLen = 9223372036854775807 := rfl; omega
      case c3 => rw [List.length_replicate]; omega
      intro g cap w7 hrow hfr hg hlt7
      have K9 := Lib.hid hrow
      have KF := Lib.hid ((HF.out.alloc _).trans hfr fun x hx h => by have := (Ho9.out x h).1; simp at hx; omega)
      have K10 := Lib.hid ((H10.out.frm0 ((Frm.refl _ _).alloc _)).frm hfr fun x hx h => (Ho9.out x h).2 hx)
      have Kg := Lib.hid (show w.heap.size + 1 ≤ g ∧ u9.ownBlock ≠ some g from by
        rcases hg with h | h
        · exact Ho9.out _ h
        · refine ⟨?_, fun e => ?_⟩
          · first | omega | (simp at h; omega)
          · have := H10.out.lt g e; first | omega | (simp at h; omega))
      clear hrow hfr hg
      go_wp2_with (first | (at_builtin; refine wpList_append_row rfl _ _ 33 rfl 4 i0 (.bool false) 1 Try.underlying33 hi0 hz0 hz1 hz2 rfl (enc := Value.bool) u9 (List.replicate k true) rfl (K10.out.frm0 ((Frm.refl _ _).alloc _)) ⟨w7.heap.size, 0, none⟩ 1 true rfl ?d1 rfl ?d2 ?d3 ?_) | go_in)
      case d1 => exact blk_cell (blk_new _) 0
      case d2 => rw [List.length_replicate]; have : maxLen = 9223372036854775807 := rfl; omega
      case d3 => rw [List.length_replicate]; omega
      intro g2 cap2 w8 hrow hfr hg hlt8
      have L10 := Lib.hid hrow
      have LF := Lib.hid ((KF.out.alloc _).trans hfr fun x hx h => by have := Ho10.out x h; simp at hx; omega)
      have L9 := Lib.hid ((K9.out.frm0 ((Frm.refl _ _).alloc (.cells #[.bool true] 4))).frm hfr fun x hx h => by cases hx; exact Kg.out.2 h)
      have Lg := Lib.hid (show w.heap.size + 1 ≤ g2 ∧ g ≠ g2 from by
        rcases hg with h | h
        · exact ⟨Ho10.out _ h, fun e => Kg.out.2 (e ▸ h)⟩
        · have h9 := KF.out.size; have := hlt7; simp at h9; first | omega | (simp at h; omega))
      clear hrow hfr hg
      go_wp2
      go_roundw
      case rel => exact ⟨k + 1, by omega, by go_num, Lib.hid (by have h := L9.out; rw [← rep_succ] at h; exact h), Lib.hid (by have h := L10.out; rw [← rep_succ] at h; exact h), LF, Lib.hid fun g' hg' => by cases hg'; exact ⟨Kg.out.1, fun e => by cases e; exact Lg.out.2 rfl⟩, Lib.hid fun g' hg' => by cases hg'; exact Lg.out.1⟩
      case measure => simp [intOf]; omega
    · obtain rfl : k = 32 := by omega
      have hltN : ¬ ((32 : Nat) : Int) < 32 := by omega
      obtain ⟨g9, q9, rfl, _⟩ : ∃ g9 q9, u8 = .slice (some ⟨g9, 0, none⟩) 32 q9 ∧ True := by
        rcases H9.out.shape with ⟨_, e⟩ | ⟨g, c, e, _⟩
        · have := congrArg List.length e; simp at this
        · exact ⟨g, c, by rw [List.length_replicate] at e; exact e, trivial⟩
      obtain ⟨g10, q10, rfl, _⟩ : ∃ g10 q10, u9 = .slice (some ⟨g10, 0, none⟩) 32 q10 ∧ True := by
        rcases H10.out.shape with ⟨_, e⟩ | ⟨g, c, e, _⟩
        · have := congrArg List.length e; simp at this
        · exact ⟨g, c, by rw [List.length_replicate] at e; exact e, trivial⟩
      have HRL : Hid (Row wr 3 (Value.int .i64) (.slice (some ⟨w.heap.size, 0, none⟩) 2 2) [0, 1]) := Lib.hid (Row.frm0 (w := w.alloc (.cells #[.int .i64 0, .int .i64 1] 3)) ⟨rfl, .inr ⟨w.heap.size, 2, _, rfl, Nat.zero_le _, blk_new _, Nat.le_refl _, by decide, rfl, rfl⟩⟩ HF.out)
      have HL0 := Lib.hid (lay1 (base := w.heap.size + 1) (fun b hb => by have := HS.out.ownlt b hb; omega) hwsz HRL.out (fun g hg => by have e9 := own_eq hg; exact ⟨fun o => by have := HS.out.ownlt _ o; omega, by omega⟩) H9.out H10.out (fun g hg => (Ho9.out g hg).1) Ho10.out)
      have HF6 := Lib.hid ((((Frm.refl (fun _ => False) w).alloc (.cells #[.int .i64 0, .int .i64 1] 3)).trans HF.out fun _ _ h => h).alloc (.cells #[.slice (some ⟨g9, 0, none⟩) 32 q9, .slice (some ⟨g10, 0, none⟩) 32 q10] 33))
      have HS6 := Lib.hid (HS.out.frm HF6.out fun _ _ => id)
      have HM6 : Hid (Moves own w own _) := Lib.hid (.of_frm (HF6.out.mono fun _ _ h => h.elim) fun _ h => .inl h)
      have HWK0 := Lib.hid (Works_calls HS6.out)
      clear H9 H10 Ho9 Ho10 HF HRL
      go_wp2_with fail
      refine HWK0.out.mono ?_
      rintro e w' ⟨rfl, rfl⟩
      go_wp2
      clear hltN
      obtain ⟨wo, rfl⟩ : ∃ wo : World, wo = wr := ⟨_, rfl⟩
      go_loopw [7, 11, 12, 13] (fun v7 v11 v12 v13 w' => ∃ (j : Nat) (l : List Int) (t : List (List Bool)) (own' : Nat → Prop) (s' : Sto), j ≤ min xs.length 30 ∧ v13 = .int .i64 j ∧ v12 = .int .u64 s'.works ∧ Hid (StoreAt w' own' p s') ∧ Hid (Moves own w own' w') ∧ Hid (Go.Bdd.Good 5 s' l t) ∧ Hid (Lay w' own' v7 v11 l t) ∧ Hid (s'.room = room) ∧ Hid (s'.works ≤ 400 * j) ∧ Hid (l.length ≤ j + 2) ∧ Hid (∀ g, v7.ownBlock = some g → w.heap.size ≤ g) ∧ Hid (∀ g, v11.ownBlock = some g → w.heap.size ≤ g)) (fun _ _ _ v13 _ => min xs.length 30 - (intOf v13).toNat)
      case atStart => exact ⟨0, [0, 1], _, own, newSto 5 room, Nat.zero_le _, rfl, rfl, HS6, HM6, HG, HL0, Lib.hid rfl, Lib.hid (by show (0 : Int) ≤ _; omega), Lib.hid (by simp), Lib.hid fun g hg => by have e9 := own_eq hg; omega, Lib.hid fun g hg => by have e9 := own_eq hg; omega⟩
      case round =>
        obtain ⟨j, l, t, own1, s1, hj, rfl, rfl, KS, KM, KG, KL, KE, KW, KN, KO, KT⟩ := hrel
        have hmin : min xs.length 30 ≤ xs.length ∧ min xs.length 30 ≤ 30 := ⟨Nat.min_le_left _ _, Nat.min_le_right _ _⟩
        by_cases hlt : j < min xs.length 30
        · skip
          have hjx : j < xs.length := by omega
          have hx30 : (j : Int) < 30 := by omega
          have hxl : (j : Int) < (xs.length : Int) := by omega
          have hxj : xs[j]? = some xs[j] := List.getElem?_eq_getElem hjx
          obtain ⟨A, c, eA, _, hat⟩ := (HA.out.move KM.out).slice
          cases eA
          obtain ⟨g, o, vv, rfl, hgo, hact⟩ := hat j _ hxj
          generalize xs[j] = x at *
          clear hat hxj
          obtain ⟨B, d, rfl, _⟩ := seesW_slice hact.vars
          have hl2 := KG.out.two
          have hlN := KN.out
          obtain ⟨vs, rt1, rt2, rt3⟩ := KL.out.rt
          obtain ⟨gl, cl, rfl, hgl⟩ : ∃ gl cl, u7 = .slice (some ⟨gl, 0, none⟩) l.length cl ∧ gl < wr.heap.size := by
            rcases KL.out.rl.shape with ⟨_, e⟩ | ⟨g, c, e, e2, _⟩
            · subst e; simp at hl2
            · exact ⟨g, c, e, KL.out.rl.lt g e2⟩
          obtain ⟨gt, ct, rfl, hgt⟩ : ∃ gt ct, u11 = .slice (some ⟨gt, 0, none⟩) t.length ct ∧ gt < wr.heap.size := by
            rcases rt1.shape with ⟨_, e⟩ | ⟨g, c, e, e2, _⟩
            · subst e; have := KG.out.len; simp at rt2; omega
            · exact ⟨g, c, by rw [rt2] at e; exact e, rt1.lt g e2⟩
          have hlt' : l.length = t.length := KG.out.len
          clear rt1 rt2 rt3
          have c0 := hact.c0
          have c1 := hact.c1
          have c2' := hact.c2
          have c3 := hact.c3
          have c4 := hact.c4
          have HFT : Hid (Calls Try.prog 29 #[.agg #[.int .i64 x.kind, .int .i64 x.a, .int .i64 x.b, .int .i64 x.c, .slice B x.vars.length d], .int .i64 5, .int .i64 l.length] wr (FitPost wr (fittedF x 5 l.length))) := Lib.hid (fitted_calls wr x _ 5 l.length (by omega) (by omega) hact.vars hact.ints)
          have HFit : Hid (Fits (fittedF x 5 l.length) 5 l.length) := Lib.hid (fits_of x (n := 5) (made := l.length) (by omega) (by omega))
          generalize fittedF x 5 l.length = y at *
          have Hlt := Lib.hid hlt'
          clear hlt' hact hgo hmin
          go_wp2_with fail
          refine HFT.out.mono ?_
          rintro e w1 ⟨vx, rfl, hrx, hfx, hox⟩
          obtain ⟨Bx, dx, rfl, _⟩ := sees_slice hrx.sees
          have HRX := Lib.hid hrx
          have HFX := Lib.hid hfx
          have HOX := Lib.hid hox
          have hb := blk_new (w := w1) (.cells #[.int .i64 y.kind, .int .i64 y.a, .int .i64 y.b, .int .i64 y.c, .slice Bx y.vars.length dx] 55)
          have c0 : (w1.alloc (.cells #[.int .i64 y.kind, .int .i64 y.a, .int .i64 y.b, .int .i64 y.c, .slice Bx y.vars.length dx] 55)).cell? ⟨w1.heap.size, 0, none⟩ = some (.int .i64 y.kind) := blk_cell hb 0
          have c1 : (w1.alloc (.cells #[.int .i64 y.kind, .int .i64 y.a, .int .i64 y.b, .int .i64 y.c, .slice Bx y.vars.length dx] 55)).cell? ⟨w1.heap.size, 1, none⟩ = some (.int .i64 y.a) := blk_cell hb 1
          have c2' : (w1.alloc (.cells #[.int .i64 y.kind, .int .i64 y.a, .int .i64 y.b, .int .i64 y.c, .slice Bx y.vars.length dx] 55)).cell? ⟨w1.heap.size, 2, none⟩ = some (.int .i64 y.b) := blk_cell hb 2
          have c3 : (w1.alloc (.cells #[.int .i64 y.kind, .int .i64 y.a, .int .i64 y.b, .int .i64 y.c, .slice Bx y.vars.length dx] 55)).cell? ⟨w1.heap.size, 3, none⟩ = some (.int .i64 y.c) := blk_cell hb 3
          have c4 : (w1.alloc (.cells #[.int .i64 y.kind, .int .i64 y.a, .int .i64 y.b, .int .i64 y.c, .slice Bx y.vars.length dx] 55)).cell? ⟨w1.heap.size, 4, none⟩ = some (.slice Bx y.vars.length dx) := blk_cell hb 4
          have HB := Lib.hid hb
          have hsz : wr.heap.size ≤ w1.heap.size := hfx.size
          clear hrx hfx hox hb
          by_cases h7 : y.kind = 7
          case pos =>
            have e7 : (y.kind == 7) = true := by simp [h7]
            have HFA := Lib.hid (HFX.out.alloc (.cells #[.int .i64 y.kind, .int .i64 y.a, .int .i64 y.b, .int .i64 y.c, .slice Bx y.vars.length dx] 55))
            have HMA : Hid (Moves own1 wr own1 (w1.alloc (.cells #[.int .i64 y.kind, .int .i64 y.a, .int .i64 y.b, .int .i64 y.c, .slice Bx y.vars.length dx] 55))) := Lib.hid (.of_frm (HFA.out.mono fun _ _ h => h.elim) fun _ h => .inl h)
            have HS7 := Lib.hid (KS.out.frm HFA.out fun _ _ => id)
            have HM7 := Lib.hid (KM.out.trans HMA.out)
            have HL7 := Lib.hid (KL.out.move HMA.out)
            clear h7
            go_wp2
            go_roundw
            case rel => exact ⟨j + 1, l, t, own1, s1, by omega, by go_num, rfl, HS7, HM7, KG, HL7, KE, Lib.hid (by have := KW.out; omega), Lib.hid (by have := KN.out; omega), KO, KT⟩
            case measure => simp [intOf]; omega
          case neg =>
            have e7 : (y.kind == 7) = false := by simp [h7]
            have HP := Lib.hid (act_any KG.out HFit.out (by omega) (by have := KW.out; show _ ≤ (18446744073709551615 : Int); omega) h7)
            have H7 := Lib.hid h7
            have HKY := Lib.hid (show y.kind = 7 → (y.vars.length : Int) = s1.vars → ∀ out, supportF 100 s1 (lat l y.a) = some out → ∀ v ∈ out.map (·.1), (nth y.vars v).isSome = true from fun h => absurd h h7)
            clear h7
            obtain ⟨⟨f, g0⟩, s2, hdo, hI2, hE2, hW2, hor⟩ := HP.out
            have HSZ2 := Lib.hid ((KS.out.frm HFX.out fun _ _ => id).alloc (.cells #[.int .i64 y.kind, .int .i64 y.a, .int .i64 y.b, .int .i64 y.c, .slice Bx y.vars.length dx] 55))
            have XB := HB
            have HFA := Lib.hid (HFX.out.alloc (.cells #[.int .i64 y.kind, .int .i64 y.a, .int .i64 y.b, .int .i64 y.c, .slice Bx y.vars.length dx] 55))
            have HLZ := Lib.hid (KL.out.frm0 HFA.out)
            have HRX2 := Lib.hid (HRX.out.frm0 ((Frm.refl _ _).alloc (.cells #[.int .i64 y.kind, .int .i64 y.a, .int .i64 y.b, .int .i64 y.c, .slice Bx y.vars.length dx] 55)))
            have HD := Lib.hid (do_calls HSZ2.out 100 y _ _ l HRX2.out.sees HLZ.out.rl.sees (f, g0) s2 HFit.out.kind HFit.out.a (by have := HFit.out.len; omega) HKY.out hdo)
            have HE2 := Lib.hid hE2
            have HI2 := Lib.hid hI2
            have HR2 := Lib.hid (hE2.room.trans KE.out)
            have HW2 := Lib.hid (show s2.works ≤ 400 * (j + 1) from by have := KW.out; omega)
            have HOR := Lib.hid hor
            clear hdo hE2 hW2 hor hI2 HP
            go_wp2_with fail
            refine HD.out.mono ?_
            rintro e w2 ⟨rfl, own2, hS2, hM2⟩
            obtain ⟨hX2, _⟩ := hM2.keep XB.out (fun ho => by have := KS.out.ownlt _ ho; omega)
            have KS2 := Lib.hid hS2
            have KM2 := Lib.hid ((KM.out.trans (.of_frm (HFA.out.mono fun _ _ h => h.elim) fun _ h => .inl h)).trans hM2)
            have KL2 := Lib.hid (HLZ.out.move hM2)
            have HX0 := Lib.hid hX2
            have HSX2 := Lib.hid (HRX2.out.sees.frm hM2.1 fun g hg _ ho => by obtain ⟨o', n', c', e'⟩ := hg; have := HOX.out g (by rw [e']; rfl); have := KS.out.ownlt _ ho; omega)
            clear hS2 hM2 hX2

            have HND := Lib.hid (Nodes_calls KS2.out)
            have HWK := Lib.hid (Works_calls KS2.out)
            have hnle : (s2.l.length : Int) ≤ room := by have := HI2.out.room; have := HR2.out; omega
            have hwle : s1.works ≤ s2.works := HE2.out.works
            have hnd : ¬ (s2.l.length : Int) > room := by omega
            have hwd : ¬ s2.works < s1.works := by omega
            have hw0 : 0 ≤ s2.works := HI2.out.w0
            generalize hL2 : s2.l.length = L2 at *
            generalize hK2 : s2.works = K2 at *
            have HL2 := Lib.hid hL2
            have HK2 := Lib.hid hK2
            clear hL2 hK2
            go_wp2_with fail
            refine HND.out.mono ?_
            rintro e w' ⟨rfl, rfl⟩
            go_wp2_with fail
            refine HWK.out.mono ?_
            rintro e w' ⟨rfl, rfl⟩
            have hor := HOR.out
            rcases hor with ⟨hg0, hG2⟩ | ⟨hfg, hG2⟩
            case inr =>
              cases hfg
              have HG2 := Lib.hid hG2
              clear hG2
              go_wp2_with fail
              refine HWK.out.mono ?_
              rintro e w' ⟨rfl, rfl⟩
              go_wp2
              go_roundw
              case rel => exact ⟨j + 1, l, t, own2, s2, by omega, by go_num, by rw [HK2.out], KS2, KM2, HG2, KL2, HR2, Lib.hid (by rw [HK2.out]; exact HW2.out), Lib.hid (by have := KN.out; omega), KO, KT⟩
              case measure => simp [intOf]; omega
            case inl =>
              subst hg0
              have HG2 := Lib.hid hG2
              clear hG2
              have hX2 := HX0.out
              have x0 : w2.cell? ⟨w1.heap.size, 0, none⟩ = some (.int .i64 y.kind) := blk_cell hX2 0
              have x1 : w2.cell? ⟨w1.heap.size, 1, none⟩ = some (.int .i64 y.a) := blk_cell hX2 1
              have x2 : w2.cell? ⟨w1.heap.size, 2, none⟩ = some (.int .i64 y.b) := blk_cell hX2 2
              have x3 : w2.cell? ⟨w1.heap.size, 3, none⟩ = some (.int .i64 y.c) := blk_cell hX2 3
              have x4 : w2.cell? ⟨w1.heap.size, 4, none⟩ = some (.slice Bx y.vars.length dx) := blk_cell hX2 4
              have hX2a := blk_alloc hX2 (.cells #[.int .i64 f] 3)
              have a0 : (w2.alloc (.cells #[.int .i64 f] 3)).cell? ⟨w1.heap.size, 0, none⟩ = some (.int .i64 y.kind) := blk_cell hX2a 0
              have a1 : (w2.alloc (.cells #[.int .i64 f] 3)).cell? ⟨w1.heap.size, 1, none⟩ = some (.int .i64 y.a) := blk_cell hX2a 1
              have a2 : (w2.alloc (.cells #[.int .i64 f] 3)).cell? ⟨w1.heap.size, 2, none⟩ = some (.int .i64 y.b) := blk_cell hX2a 2
              have a3 : (w2.alloc (.cells #[.int .i64 f] 3)).cell? ⟨w1.heap.size, 3, none⟩ = some (.int .i64 y.c) := blk_cell hX2a 3
              have a4 : (w2.alloc (.cells #[.int .i64 f] 3)).cell? ⟨w1.heap.size, 4, none⟩ = some (.slice Bx y.vars.length dx) := blk_cell hX2a 4
              have HX2 := Lib.hid hX2
              clear hX2 hX2a
              go_wp2_with fail
              refine HWK.out.mono ?_
              rintro e w' ⟨rfl, rfl⟩
              go_wp2
              refine Plan.wp_region_plan [0, 0, 2, 7, 0, 0, 0, 111, 239, 511, 1023, 2047] (List.cons (Plan.Seg.mk (List.cons 0 (List.cons 1 (List.cons 4 (List.cons 5 (List.cons 6 List.nil))))) 2 (List.cons 0 (List.cons 4 (List.cons 5 (List.cons 6 List.nil))))) (List.cons (Plan.Seg.mk List.nil 3 (List.cons 4 (List.cons 5 (List.cons 6 List.nil)))) (List.cons (Plan.Seg.mk List.nil 7 (List.cons 4 List.nil)) (List.cons (Plan.Seg.mk List.nil 8 (List.cons 4 List.nil)) (List.cons (Plan.Seg.mk List.nil 9 List.nil) List.nil))))) (List.cons 10 (List.cons 11 List.nil)) (by kernel_rfl) (by kernel_rfl) ?_
              simp only [Plan.wayOf, Plan.pickAll, List.getElem?_cons_zero, List.getElem?_cons_succ, List.getD_eq_getElem?_getD, Option.getD_some]
              refine Plan.wpWay_seg ?_
              repeat go_big_quiet_step (fail)
              refine wpQuiet_nil ?_
              refine Plan.wpWay_act ?_
              go_wp2_with (fail)
              refine And.intro ?_ ?_
              focus
                refine Plan.again_cons ?_ ?_
                focus
                  go_big_quiet_step (fail)
                  exact wpQuiet_nil rfl
                refine Plan.again_cons ?_ ?_
                focus
                  go_big_quiet_step (fail)
                  exact wpQuiet_nil rfl
                refine Plan.again_cons ?_ ?_
                focus
                  go_big_quiet_step (fail)
                  exact wpQuiet_nil rfl
                refine Plan.again_cons ?_ ?_
                focus
                  go_big_quiet_step (fail)
                  exact wpQuiet_nil rfl
                exact Plan.again_nil
              refine Plan.wpWay_seg ?_
              refine wpQuiet_nil ?_
              refine Plan.wpWay_act ?_
              go_wp2_with (first | (at_builtin; refine wpList_append_row rfl _ _ 28 rfl 3 j0 (.int .i64 0) 8 Try.underlying28 hj0 hy0 hy1 hy2 rfl (enc := Value.int .i64) (.slice (some ⟨gl, 0, none⟩) l.length cl) l rfl (KL2.out.rl.frm0 ((Frm.refl _ _).alloc _).drew) ⟨w2.heap.size, 0, none⟩ 1 f rfl ?c1 rfl ?c2 ?c3 ?_) | go_in)
              case c1 => exact blk_cell (blk_new _) 0
              case c2 => have : maxLen = 9223372036854775807 := rfl; omega
              case c3 => omega
              intro gl2 cl2 w3 hrow hfr hg hlt3
              have AL := Lib.hid (after_l KS2.out KM2.out KL2.out KO.out HX2.out (fun e => by have := own_eq e; omega) HSX2.out (fun g hg1 hg2 => by have := HOX.out g hg2; have := own_eq hg1; omega) hrow hfr hg rfl)
              have t0 : w3.cell? ⟨w1.heap.size, 0, none⟩ = some (.int .i64 y.kind) := blk_cell AL.out.x 0
              have t1 : w3.cell? ⟨w1.heap.size, 1, none⟩ = some (.int .i64 y.a) := blk_cell AL.out.x 1
              have t2 : w3.cell? ⟨w1.heap.size, 2, none⟩ = some (.int .i64 y.b) := blk_cell AL.out.x 2
              have t3 : w3.cell? ⟨w1.heap.size, 3, none⟩ = some (.int .i64 y.c) := blk_cell AL.out.x 3
              have t4 : w3.cell? ⟨w1.heap.size, 4, none⟩ = some (.slice Bx y.vars.length dx) := blk_cell AL.out.x 4
              clear hrow hfr hg
              go_wp2_with fail
              refine And.intro ?_ ?_
              focus
                refine Plan.again_cons ?_ ?_
                focus
                  go_big_quiet_step (fail)
                  exact wpQuiet_nil rfl
                refine Plan.again_cons ?_ ?_
                focus
                  go_big_quiet_step (fail)
                  exact wpQuiet_nil rfl
                refine Plan.again_cons ?_ ?_
                focus
                  go_big_quiet_step (fail)
                  exact wpQuiet_nil rfl
                exact Plan.again_nil
              refine Plan.wpWay_seg ?_
              refine wpQuiet_nil ?_
              refine Plan.wpWay_act ?_
              go_wp2_with fail
              refine (Do_calls w3 (TOk w3 own2 _ _) 5 y _ _ t (by omega) (by omega) (Hlt.out ▸ HFit.out) AL.out.v AL.out.L.tabs (by have := Hlt.out; omega) (Good.tabLen KG.out) (fun h => absurd h H7.out)).mono ?_
              rintro e w4 ⟨vd, rfl, hsd, hfd, hbd⟩
              obtain ⟨Bd, dd, rfl, _⟩ := sees_slice hsd
              have HSD := Lib.hid hsd
              have HFD := Lib.hid hfd
              have HBD := Lib.hid hbd
              obtain ⟨vs4, r41, r42, r43⟩ := (AL.out.L.frm0 hfd).rt
              have R41 := Lib.hid r41
              have R42 := Lib.hid r42
              have R43 := Lib.hid r43
              clear hsd hfd hbd r41 r42 r43
              go_wp2_with fail
              refine And.intro ?_ ?_
              focus
                refine Plan.again_cons ?_ ?_
                focus
                  go_big_quiet_step (fail)
                  exact wpQuiet_nil rfl
                exact Plan.again_nil
              refine Plan.wpWay_seg ?_
              refine wpQuiet_nil ?_
              refine Plan.wpWay_act ?_
              go_wp2_with (fail)
              refine And.intro ?_ ?_
              focus
                refine Plan.again_cons ?_ ?_
                focus
                  go_big_quiet_step (fail)
                  exact wpQuiet_nil rfl
                exact Plan.again_nil
              refine Plan.wpWay_seg ?_
              refine wpQuiet_nil ?_
              refine Plan.wpWay_act ?_
              go_wp2_with (first | (at_builtin; refine wpList_append_row rfl _ _ 29 rfl 33 k0 (.slice none 0 0) 24 Try.underlying29 hk0 hq0 hq1 hq2 rfl (enc := fun u => u) (.slice (some ⟨gt, 0, none⟩) t.length ct) vs4 rfl (R41.out.frm0 ((Frm.refl _ _).alloc _)) ⟨w4.heap.size, 0, none⟩ 1 (.slice Bd (doT 5 y t).length dd) rfl ?d1 rfl ?d2 ?d3 ?_) | go_in)
              case d1 => exact blk_cell (blk_new _) 0
              case d2 => have := R42.out; have := Hlt.out; have : maxLen = 9223372036854775807 := rfl; omega
              case d3 => have := R42.out; have := Hlt.out; omega
              intro gt2 ct2 w5 hrow hfr hg hlt5
              have AT := Lib.hid (after_t AL.out.S AL.out.M AL.out.L HFD.out KT.out HSD.out (fun e => by have h2 := congrArg List.length e; rw [doT_len KG.out (Hlt.out ▸ HFit.out), List.length_nil] at h2; omega) HBD.out R41.out R42.out R43.out hrow hfr hg rfl)
              clear hrow hfr hg
              go_wp2_with fail
              refine And.intro Plan.again_nil ?_
              refine Plan.wpWay_last ?_
              repeat go_big_quiet_step (fail)
              refine wpQuiet_nil ?_
              refine NoPanic.normal ?_
              have hLay : Lay w5 own2 (.slice (some ⟨gl2, 0, none⟩) (l ++ [f]).length cl2) (.slice (some ⟨gt2, 0, none⟩) (t ++ [doT 5 y t]).length ct2) (l ++ [f]) (t ++ [doT 5 y t]) := by
                have h9 := AT.out.2.2.1
                rw [show vs4.length + 1 = (t ++ [doT 5 y t]).length by simp [R42.out], show l.length + 1 = (l ++ [f]).length by simp] at h9
                exact h9
              obtain ⟨_, u, hcu, hsu⟩ := hLay.at (i := l.length) (by simp) HG2.out.len
              obtain ⟨inf, htab⟩ := HG2.out.get (a := (l.length : Int)) (by omega) (by simp; omega)
              have hlat : lat (l ++ [f]) l.length = f := by simp [lat]
              rw [hlat] at inf htab
              have hvl : l.length = vs4.length := by rw [R42.out, Hlt.out]
              have hcu : w5.cell? ⟨gt2, vs4.length, none⟩ = some u := by rw [← hvl]; exact hcu
              generalize tab (t ++ [doT 5 y t]) l.length = tb at *
              have htl : tb.length = 32 := by rw [htab, tabOf_len]
              obtain ⟨Au, cu, rfl, hbit⟩ := sees_slice hsu
              rw [htl] at hcu
              have Hbit := Lib.hid hbit
              have Hcu := Lib.hid hcu
              have Htab := Lib.hid htab
              have Htl := Lib.hid htl
              have Hinf := Lib.hid inf
              have hvs : (vs4.length : Int) ≤ 64 := by have := KN.out; omega
              clear hLay hcu hsu htab hlat hvl htl hbit inf
              go_wp2
              obtain ⟨wo2, rfl⟩ : ∃ wo2 : World, wo2 = wr := ⟨_, rfl⟩
              go_loopw [17] (fun v17 w' => ∃ k : Nat, k ≤ 32 ∧ v17 = .int .i64 k ∧ Hid (Frm (fun _ => False) w5 w')) (fun v17 _ => 32 - (intOf v17).toNat)
              case atStart => exact ⟨0, Nat.zero_le _, rfl, Lib.hid (Frm.refl _ _)⟩
              case round =>
                obtain ⟨k, hk, rfl, HFK⟩ := hrel
                by_cases hk32 : k < 32
                · have hkI : (k : Int) < 32 := by omega
                  have hy := tat_get (t := tb) (i := k) (by rw [Htl.out]; exact hk32)
                  obtain ⟨gu, ou, e, hu⟩ := Hbit.out k _ hy
                  subst e
                  have HEV : Hid (evalF 100 s2 f (wayF 5 k) = some (tat tb k, 0)) := Lib.hid (by
                    rw [eval_res HI2.out Hinf.out (by rw [wayF_length]; exact HG2.out.vars) (by have := HG2.out.vars; omega), Htab.out, tabOf_at _ hk32]; rfl)
                  have HW : Hid (Calls Try.prog 27 #[.int .i64 5, .int .i64 k] wr _) := Lib.hid (Way_calls wr 5 k (by omega) hk32)
                  have Hu := Lib.hid hu
                  generalize tat tb k = b at *
                  clear hy hu
                  go_wp2_with fail
                  refine HW.out.mono ?_
                  rintro e w6 ⟨vw, rfl, hrw, hfw, _⟩
                  have HF6 := Lib.hid (HFK.out.trans hfw fun _ _ h => h)
                  have HRW := Lib.hid hrw.sees
                  clear hrw hfw
                  go_wp2_with fail
                  refine (Eval_calls (AT.out.1.frm HF6.out fun _ _ => id) 100 f vw (wayF 5 k) HRW.out _ HEV.out).mono ?_
                  rintro e w7 ⟨rfl, hf7⟩
                  have HF7 := Lib.hid (HF6.out.trans hf7 fun _ _ h => h)
                  have q2 := frm0_cell HF7.out Hcu.out
                  have q3 := frm0_cell HF7.out Hu.out
                  clear hf7
                  go_wp2
                  go_roundw
                  case rel => exact ⟨k + 1, by omega, by go_num, HF7⟩
                  case measure => simp [intOf]; omega
                · obtain rfl : k = 32 := by omega
                  have HM9 : Hid (Moves own2 w5 own2 wr) := Lib.hid (.of_frm (HFK.out.mono fun _ _ h => h.elim) fun _ h => .inl h)
                  have HS9 := Lib.hid (AT.out.1.frm HFK.out fun _ _ => id)
                  have HMM9 := Lib.hid (AT.out.2.1.trans HM9.out)
                  have HL9 := Lib.hid (AT.out.2.2.1.move HM9.out)
                  go_wp2
                  go_roundw
                  case rel => exact ⟨j + 1, l ++ [f], t ++ [doT 5 y t], own2, s2, by omega, by go_num, by rw [HK2.out], HS9, HMM9, HG2, HL9, HR2, Lib.hid (by rw [HK2.out]; exact HW2.out), Lib.hid (by have := KN.out; simp; omega), Lib.hid AL.out.n, Lib.hid AT.out.2.2.2⟩
                  case measure => simp [intOf]; omega
        · have hfin := Lib.hid (show Below W0.heap.size W0 wr from ((HMW.out.trans KM.out).1.below))
          by_cases hx : (j : Int) < (xs.length : Int)
          · have hx30 : ¬ (j : Int) < 30 := by omega
            clear hmin
            go_wp2
            go_ret
            exact ⟨rfl, hfin.out⟩
          · clear hmin
            go_wp2
            go_ret
            exact ⟨rfl, hfin.out⟩
end LawW
end Go.Proofs.Ytjajpdmmoiiojaa
