/- The law's own functions, walked: built. -/
import Derived.Test.YtjajpdmmoiiojaaLawW4
import Derived.Test.YtjajpdmmoiiojaaP8
import Derived.Outline
namespace Go.Proofs.Ytjajpdmmoiiojaa
open Go.RowKit Go.Mem Go.Bdd
namespace LawW
open TabW BddW

def BuiltPost (own : Nat → Prop) (w : World) (p n : Nat) (s : Sto) (e : Ending) (w' : World) : Prop :=
  ∃ vl vt l t own' s', e = .returned (.tuple #[vl, vt, .bool true]) ∧ StoreAt w' own' p s' ∧ Moves own w own' w' ∧ Go.Bdd.Good n s' l t ∧ Lay w' own' vl vt l t ∧ Ext s s' ∧ s'.works ≤ s.works + 12000 ∧ l.length ≤ 32
theorem rep_succ {α : Type} (a : α) (k : Nat) : List.replicate (k + 1) a = List.replicate k a ++ [a] := List.replicate_succ'

set_option maxRecDepth 100000 in
set_option maxHeartbeats 4000000 in
theorem built_calls {w : World} {own : Nat → Prop} {p : Nat} {s : Sto} (n : Nat) (hn1 : 1 ≤ n) (hn6 : n ≤ 6) (hS : StoreAt w own p s) (hG : Go.Bdd.Good n s [0, 1] [List.replicate (2 ^ n) false, List.replicate (2 ^ n) true]) (va : Value) (xs : List ActF) (hA : ActsIn w own va xs) (hr : s.works + 12002 < s.room) :
    Calls Try.prog 12 #[.pointer (some ⟨p, 0, none⟩), .int .i64 n, va] w (BuiltPost own w p n s) := by
  obtain ⟨i0, hi0, hz0, hz1, hz2⟩ := info_parts BddW.info_bool
  obtain ⟨j0, hj0, hy0, hy1, hy2⟩ := info_parts info_int
  obtain ⟨k0, hk0, hq0, hq1, hq2⟩ := info_parts info_bools
  obtain ⟨A2, c2, rfl, _, _⟩ := hA.slice
  have h30 : 2 ^ n ≤ 64 := by
    have h2 : 2 ^ n ≤ 2 ^ 6 := Nat.pow_le_pow_right (by omega) hn6
    have h3 : (2 : Nat) ^ 6 = 64 := by decide
    omega
  have hsh : wrap64 (2 ^ n) = ((2 ^ n : Nat) : Int) := by
    have e : (2 : Int) ^ n = ((2 ^ n : Nat) : Int) := by simp
    rw [e]; generalize 2 ^ n = M at *; unfold wrap64; omega
  have hpos : 0 < 2 ^ n := Nat.two_pow_pos n
  have hn64 : (n : Int) ≤ 64 := by omega
  generalize hN : 2 ^ n = N at *
  have HN := Lib.hid hN
  have Hsh := Lib.hid hsh
  have HS := Lib.hid hS
  have HG := Lib.hid hG
  have HA := Lib.hid hA
  clear hsh hS hG hA hN
  go_enter Try.func12, Try.ntmps12
  go_wp2
  go_loopw [9, 10, 11] (fun v9 v10 v11 w' => ∃ k : Nat, k ≤ N ∧ v11 = .int .i64 k ∧ Hid (Row w' 4 Value.bool v9 (List.replicate k false)) ∧ Hid (Row w' 4 Value.bool v10 (List.replicate k true)) ∧ Hid (Frm (fun _ => False) w w') ∧ Hid (∀ g, v9.ownBlock = some g → w.heap.size ≤ g ∧ v10.ownBlock ≠ some g) ∧ Hid (∀ g, v10.ownBlock = some g → w.heap.size ≤ g)) (fun _ _ v11 _ => N - (intOf v11).toNat)
  case atStart => exact ⟨0, Nat.zero_le _, rfl, Lib.hid ⟨by simp, .inr ⟨_, 0, _, rfl, Nat.zero_le _, blk_alloc (blk_new _) _, by simp⟩⟩, Lib.hid ⟨by simp, .inr ⟨_, 0, _, rfl, Nat.zero_le _, blk_new_at _ (by simp), by simp⟩⟩, Lib.hid (((Frm.refl _ _).alloc _).alloc _), Lib.hid fun g hg => by cases hg; exact ⟨Nat.le_refl _, by simp [Value.ownBlock]⟩, Lib.hid fun g hg => by cases hg; exact Nat.le_succ _⟩
  case round =>
    obtain ⟨k, hk, rfl, H9, H10, HF, Ho9, Ho10⟩ := hrel
    by_cases hlt : k < N
    · have hltN : (k : Int) < wrap64 (2 ^ n) := by rw [Hsh.out]; omega
      go_wp2_with (first | (at_builtin; refine wpList_append_row rfl _ _ 33 rfl 4 i0 (.bool false) 1 Try.underlying33 hi0 hz0 hz1 hz2 rfl (enc := Value.bool) u9 (List.replicate k false) rfl (H9.out.frm0 ((Frm.refl _ _).alloc _)) ⟨wr.heap.size, 0, none⟩ 1 false rfl ?c1 rfl ?c2 ?c3 ?_) | go_in)
      case c1 => exact blk_cell (blk_new _) 0
      case c2 => rw [List.length_replicate]; have : maxLen = 9223372036854775807 := rfl; omega
      case c3 => rw [List.length_replicate]; omega
      intro g cap w7 hrow hfr hg hlt7
      have K9 := Lib.hid hrow
      have KF := Lib.hid ((HF.out.alloc _).trans hfr fun x hx h => by have := Ho9.out x h; omega)
      have K10 := Lib.hid ((H10.out.frm0 ((Frm.refl _ _).alloc _)).frm hfr fun x hx h => (Ho9.out x h).2 hx)
      have Kg := Lib.hid (show w.heap.size ≤ g ∧ u10.ownBlock ≠ some g from by
        rcases hg with h | h
        · exact Ho9.out _ h
        · refine ⟨?_, fun e => ?_⟩
          · have := HF.out.size; first | omega | (simp at h; omega)
          · have := H10.out.lt g e; first | omega | (simp at h; omega))
      clear hrow hfr hg
      go_wp2_with (first | (at_builtin; refine wpList_append_row rfl _ _ 33 rfl 4 i0 (.bool false) 1 Try.underlying33 hi0 hz0 hz1 hz2 rfl (enc := Value.bool) u10 (List.replicate k true) rfl (K10.out.frm0 ((Frm.refl _ _).alloc _)) ⟨w7.heap.size, 0, none⟩ 1 true rfl ?d1 rfl ?d2 ?d3 ?_) | go_in)
      case d1 => exact blk_cell (blk_new _) 0
      case d2 => rw [List.length_replicate]; have : maxLen = 9223372036854775807 := rfl; omega
      case d3 => rw [List.length_replicate]; omega
      intro g2 cap2 w8 hrow hfr hg hlt8
      have L10 := Lib.hid hrow
      have LF := Lib.hid ((KF.out.alloc _).trans hfr fun x hx h => by have := Ho10.out x h; omega)
      have L9 := Lib.hid ((K9.out.frm0 ((Frm.refl _ _).alloc (.cells #[.bool true] 4))).frm hfr fun x hx h => by cases hx; exact Kg.out.2 h)
      have Lg := Lib.hid (show w.heap.size ≤ g2 ∧ g ≠ g2 from by
        rcases hg with h | h
        · exact ⟨Ho10.out _ h, fun e => Kg.out.2 (e ▸ h)⟩
        · have := KF.out.size; have := hlt7; first | omega | (simp at h; omega))
      clear hrow hfr hg
      go_wp2
      go_roundw
      case rel => exact ⟨k + 1, by omega, by go_num, Lib.hid (by have h := L9.out; rw [← rep_succ] at h; exact h), Lib.hid (by have h := L10.out; rw [← rep_succ] at h; exact h), LF, Lib.hid fun g' hg' => by cases hg'; exact ⟨Kg.out.1, fun e => by cases e; exact Lg.out.2 rfl⟩, Lib.hid fun g' hg' => by cases hg'; exact Lg.out.1⟩
      case measure => simp [intOf]; omega
    · obtain rfl : k = N := by omega
      have hltN : ¬ (k : Int) < wrap64 (2 ^ n) := by rw [Hsh.out]; omega
      obtain ⟨g9, q9, rfl, _⟩ : ∃ g9 q9, u9 = .slice (some ⟨g9, 0, none⟩) k q9 ∧ True := by
        rcases H9.out.shape with ⟨_, e⟩ | ⟨g, c, e, _⟩
        · have := congrArg List.length e; simp at this; omega
        · exact ⟨g, c, by rw [List.length_replicate] at e; exact e, trivial⟩
      obtain ⟨g10, q10, rfl, _⟩ : ∃ g10 q10, u10 = .slice (some ⟨g10, 0, none⟩) k q10 ∧ True := by
        rcases H10.out.shape with ⟨_, e⟩ | ⟨g, c, e, _⟩
        · have := congrArg List.length e; simp at this; omega
        · exact ⟨g, c, by rw [List.length_replicate] at e; exact e, trivial⟩
      have HL0 := Lib.hid (lay0 HF.out HS.out.ownlt H9.out H10.out (fun g hg => (Ho9.out g hg).1) Ho10.out)
      have HF6 := Lib.hid ((HF.out.alloc (.cells #[.int .i64 0, .int .i64 1] 3)).alloc (.cells #[.slice (some ⟨g9, 0, none⟩) k q9, .slice (some ⟨g10, 0, none⟩) k q10] 33))
      have HS6 := Lib.hid (HS.out.frm HF6.out fun _ _ => id)
      have HM6 : Hid (Moves own w own _) := Lib.hid (.of_frm (HF6.out.mono fun _ _ h => h.elim) fun _ h => .inl h)
      have hwsz : w.heap.size ≤ wr.heap.size := HF.out.size
      clear H9 H10 Ho9 Ho10 HF
      go_wp2
      clear hltN
      obtain ⟨wo, rfl⟩ : ∃ wo : World, wo = wr := ⟨_, rfl⟩
      go_loopw [12, 13, 14] (fun v12 v13 v14 w' => ∃ (j : Nat) (l : List Int) (t : List (List Bool)) (own' : Nat → Prop) (s' : Sto), j ≤ min xs.length 30 ∧ v14 = .int .i64 j ∧ Hid (StoreAt w' own' p s') ∧ Hid (Moves own w own' w') ∧ Hid (Go.Bdd.Good n s' l t) ∧ Hid (Lay w' own' v12 v13 l t) ∧ Hid (Ext s s') ∧ Hid (s'.works ≤ s.works + 400 * j) ∧ Hid (l.length ≤ j + 2) ∧ Hid (∀ g, v12.ownBlock = some g → w.heap.size ≤ g) ∧ Hid (∀ g, v13.ownBlock = some g → w.heap.size ≤ g)) (fun _ _ v14 _ => min xs.length 30 - (intOf v14).toNat)
      case atStart => exact ⟨0, [0, 1], _, own, s, Nat.zero_le _, rfl, HS6, HM6, HG, HL0, Lib.hid (Ext.refl s), Lib.hid (by omega), Lib.hid (by simp), Lib.hid fun g hg => by cases hg; exact hwsz, Lib.hid fun g hg => by cases hg; exact Nat.le_succ_of_le hwsz⟩
      case round =>
        obtain ⟨j, l, t, own1, s1, hj, rfl, KS, KM, KG, KL, KE, KW, KN, KO, KT⟩ := hrel
        have hmin : min xs.length 30 ≤ xs.length ∧ min xs.length 30 ≤ 30 := ⟨Nat.min_le_left _ _, Nat.min_le_right _ _⟩
        by_cases hlt : j < min xs.length 30
        · skip
          have hjx : j < xs.length := by omega
          have hx30 : (j : Int) < 30 := by omega
          have hxl : (j : Int) < (xs.length : Int) := by omega
          have hxj : xs[j]? = some xs[j] := List.getElem?_eq_getElem hjx
          obtain ⟨A, c, eA, _, hat⟩ := (HA.out.move KM.out).slice
          cases eA
          obtain ⟨g, o, vv, rfl, hgo, hact⟩ := hat j _ hxj
          generalize xs[j] = x at *
          clear hat hxj
          obtain ⟨B, d, rfl, _⟩ := seesW_slice hact.vars
          have hl2 := KG.out.two
          have hlN := KN.out
          obtain ⟨vs, rt1, rt2, rt3⟩ := KL.out.rt
          obtain ⟨gl, cl, rfl, hgl⟩ : ∃ gl cl, u12 = .slice (some ⟨gl, 0, none⟩) l.length cl ∧ gl < wr.heap.size := by
            rcases KL.out.rl.shape with ⟨_, e⟩ | ⟨g, c, e, e2, _⟩
            · subst e; simp at hl2
            · exact ⟨g, c, e, KL.out.rl.lt g e2⟩
          obtain ⟨gt, ct, rfl, hgt⟩ : ∃ gt ct, u13 = .slice (some ⟨gt, 0, none⟩) t.length ct ∧ gt < wr.heap.size := by
            rcases rt1.shape with ⟨_, e⟩ | ⟨g, c, e, e2, _⟩
            · subst e; have := KG.out.len; simp at rt2; omega
            · exact ⟨g, c, by rw [rt2] at e; exact e, rt1.lt g e2⟩
          have hlt' : l.length = t.length := KG.out.len
          clear rt1 rt2 rt3
          have c0 := hact.c0
          have c1 := hact.c1
          have c2' := hact.c2
          have c3 := hact.c3
          have c4 := hact.c4
          have HFT := Lib.hid (fitted_calls wr x _ n l.length (by omega) (by omega) hact.vars hact.ints)
          have HFit := Lib.hid (fits_of x (n := n) (made := l.length) (by omega) (by omega))
          generalize fittedF x n l.length = y at *
          have Hlt := Lib.hid hlt'
          clear hlt' hact hgo hmin
          go_wp2_with fail
          refine HFT.out.mono ?_
          rintro e w1 ⟨vx, rfl, hrx, hfx, hox⟩
          obtain ⟨Bx, dx, rfl, _⟩ := sees_slice hrx.sees
          have HRX := Lib.hid hrx
          have HFX := Lib.hid hfx
          have HOX := Lib.hid hox
          have hb := blk_new (w := w1) (.cells #[.int .i64 y.kind, .int .i64 y.a, .int .i64 y.b, .int .i64 y.c, .slice Bx y.vars.length dx] 55)
          have c0 : (w1.alloc (.cells #[.int .i64 y.kind, .int .i64 y.a, .int .i64 y.b, .int .i64 y.c, .slice Bx y.vars.length dx] 55)).cell? ⟨w1.heap.size, 0, none⟩ = some (.int .i64 y.kind) := blk_cell hb 0
          have c1 : (w1.alloc (.cells #[.int .i64 y.kind, .int .i64 y.a, .int .i64 y.b, .int .i64 y.c, .slice Bx y.vars.length dx] 55)).cell? ⟨w1.heap.size, 1, none⟩ = some (.int .i64 y.a) := blk_cell hb 1
          have c2' : (w1.alloc (.cells #[.int .i64 y.kind, .int .i64 y.a, .int .i64 y.b, .int .i64 y.c, .slice Bx y.vars.length dx] 55)).cell? ⟨w1.heap.size, 2, none⟩ = some (.int .i64 y.b) := blk_cell hb 2
          have c3 : (w1.alloc (.cells #[.int .i64 y.kind, .int .i64 y.a, .int .i64 y.b, .int .i64 y.c, .slice Bx y.vars.length dx] 55)).cell? ⟨w1.heap.size, 3, none⟩ = some (.int .i64 y.c) := blk_cell hb 3
          have c4 : (w1.alloc (.cells #[.int .i64 y.kind, .int .i64 y.a, .int .i64 y.b, .int .i64 y.c, .slice Bx y.vars.length dx] 55)).cell? ⟨w1.heap.size, 4, none⟩ = some (.slice Bx y.vars.length dx) := blk_cell hb 4
          have HB := Lib.hid hb
          have hsz : wr.heap.size ≤ w1.heap.size := hfx.size
          clear hrx hfx hox hb
          by_cases h7 : y.kind = 7
          case neg =>
            have e7 : (y.kind == 7) = false := by simp [h7]
            have HP := Lib.hid (act_ok KG.out HFit.out hn6 (by have := KE.out.room; have := KW.out; omega) (by obtain ⟨_, _, _, H⟩ := KS.out; exact H.room) fun h => absurd h h7)
            have H7 := Lib.hid (show y.kind = 7 → renamesF (tab t y.a) n y.vars = true from fun h => absurd h h7)
            have HKY := Lib.hid (show y.kind = 7 → (y.vars.length : Int) = s1.vars → ∀ out, supportF 100 s1 (lat l y.a) = some out → ∀ v ∈ out.map (·.1), (nth y.vars v).isSome = true from fun h => absurd h h7)
            clear h7
            go_wp2
            refine Plan.wp_region_plan [0, 1, 3, 7, 15, 15, 47, 127, 255, 15, 15, 1039, 4095, 8191, 16383] (List.cons (Plan.Seg.mk (List.cons 0 (List.cons 1 (List.cons 2 (List.cons 3 (List.cons 4 (List.cons 5 (List.cons 6 (List.cons 7 (List.cons 8 (List.cons 9 (List.cons 10 (List.cons 11 List.nil)))))))))))) 12 List.nil) List.nil) (List.cons 13 (List.cons 14 List.nil)) (by kernel_rfl) (by kernel_rfl) ?_
            simp only [Plan.wayOf, Plan.pickAll, List.getElem?_cons_zero, List.getElem?_cons_succ, List.getD_eq_getElem?_getD, Option.getD_some]
            refine Plan.wpWay_seg ?_
            repeat go_big_quiet_step (fail)
            refine wpQuiet_nil ?_
            refine Plan.wpWay_act ?_
            go_wp2_with (fail)
            refine And.intro Plan.again_nil ?_
            refine Plan.wpWay_last ?_
            repeat go_big_quiet_step (fail)
            refine wpQuiet_nil ?_
            refine NoPanic.normal ?_
            have HFZ : Hid (Frm (fun _ => False) (w1.alloc (.cells #[.int .i64 y.kind, .int .i64 y.a, .int .i64 y.b, .int .i64 y.c, .slice Bx y.vars.length dx] 55)) (w1.alloc (.cells #[.int .i64 y.kind, .int .i64 y.a, .int .i64 y.b, .int .i64 y.c, .slice Bx y.vars.length dx] 55)).drew) := Lib.hid (Frm.refl _ _).drew
            obtain ⟨f, s2, hdo, hE2, hW2, hG2⟩ := HP.out
            have HSZ2 := Lib.hid (((KS.out.frm HFX.out fun _ _ => id).alloc (.cells #[.int .i64 y.kind, .int .i64 y.a, .int .i64 y.b, .int .i64 y.c, .slice Bx y.vars.length dx] 55)).frm HFZ.out fun _ _ => id)
            have XB := Lib.hid (blk_frm HB.out HFZ.out id)
            have HFA := Lib.hid ((HFX.out.alloc (.cells #[.int .i64 y.kind, .int .i64 y.a, .int .i64 y.b, .int .i64 y.c, .slice Bx y.vars.length dx] 55)).trans HFZ.out fun _ _ h => h)
            have HLZ := Lib.hid (KL.out.frm0 HFA.out)
            have HRX2 := Lib.hid ((HRX.out.frm0 ((Frm.refl _ _).alloc (.cells #[.int .i64 y.kind, .int .i64 y.a, .int .i64 y.b, .int .i64 y.c, .slice Bx y.vars.length dx] 55))).frm0 HFZ.out)
            have HD := Lib.hid (do_calls HSZ2.out 100 y _ _ l HRX2.out.sees HLZ.out.rl.sees (f, 0) s2 HFit.out.kind HFit.out.a (by have := HFit.out.len; omega) HKY.out hdo)
            have z0 : (w1.alloc (.cells #[.int .i64 y.kind, .int .i64 y.a, .int .i64 y.b, .int .i64 y.c, .slice Bx y.vars.length dx] 55)).drew.cell? ⟨w1.heap.size, 0, none⟩ = some (.int .i64 y.kind) := blk_cell XB.out 0
            have z1 : (w1.alloc (.cells #[.int .i64 y.kind, .int .i64 y.a, .int .i64 y.b, .int .i64 y.c, .slice Bx y.vars.length dx] 55)).drew.cell? ⟨w1.heap.size, 1, none⟩ = some (.int .i64 y.a) := blk_cell XB.out 1
            have z2 : (w1.alloc (.cells #[.int .i64 y.kind, .int .i64 y.a, .int .i64 y.b, .int .i64 y.c, .slice Bx y.vars.length dx] 55)).drew.cell? ⟨w1.heap.size, 2, none⟩ = some (.int .i64 y.b) := blk_cell XB.out 2
            have z3 : (w1.alloc (.cells #[.int .i64 y.kind, .int .i64 y.a, .int .i64 y.b, .int .i64 y.c, .slice Bx y.vars.length dx] 55)).drew.cell? ⟨w1.heap.size, 3, none⟩ = some (.int .i64 y.c) := blk_cell XB.out 3
            have z4 : (w1.alloc (.cells #[.int .i64 y.kind, .int .i64 y.a, .int .i64 y.b, .int .i64 y.c, .slice Bx y.vars.length dx] 55)).drew.cell? ⟨w1.heap.size, 4, none⟩ = some (.slice Bx y.vars.length dx) := blk_cell XB.out 4
            have HE2 := Lib.hid (KE.out.trans hE2)
            have HW2 := Lib.hid (show s2.works ≤ s.works + 400 * (j + 1) from by have := KW.out; omega)
            have HG2 := Lib.hid hG2
            clear hdo hE2 hW2 hG2 HP
            go_wp2_with fail
            refine HD.out.mono ?_
            rintro e w2 ⟨rfl, own2, hS2, hM2⟩
            obtain ⟨hX2, _⟩ := hM2.keep XB.out (fun ho => by have := KS.out.ownlt _ ho; omega)
            have KS2 := Lib.hid hS2
            have KM2 := Lib.hid ((KM.out.trans (.of_frm (HFA.out.mono fun _ _ h => h.elim) fun _ h => .inl h)).trans hM2)
            have KL2 := Lib.hid (HLZ.out.move hM2)
            have HSX2 := Lib.hid (HRX2.out.sees.frm hM2.1 fun g hg _ ho => by obtain ⟨o', n', c', e'⟩ := hg; have := HOX.out g (by rw [e']; rfl); have := KS.out.ownlt _ ho; omega)
            have x0 : w2.cell? ⟨w1.heap.size, 0, none⟩ = some (.int .i64 y.kind) := blk_cell hX2 0
            have x1 : w2.cell? ⟨w1.heap.size, 1, none⟩ = some (.int .i64 y.a) := blk_cell hX2 1
            have x2 : w2.cell? ⟨w1.heap.size, 2, none⟩ = some (.int .i64 y.b) := blk_cell hX2 2
            have x3 : w2.cell? ⟨w1.heap.size, 3, none⟩ = some (.int .i64 y.c) := blk_cell hX2 3
            have x4 : w2.cell? ⟨w1.heap.size, 4, none⟩ = some (.slice Bx y.vars.length dx) := blk_cell hX2 4
            have hX2a := blk_alloc hX2 (.cells #[.int .i64 f] 3)
            have a0 : (w2.alloc (.cells #[.int .i64 f] 3)).cell? ⟨w1.heap.size, 0, none⟩ = some (.int .i64 y.kind) := blk_cell hX2a 0
            have a1 : (w2.alloc (.cells #[.int .i64 f] 3)).cell? ⟨w1.heap.size, 1, none⟩ = some (.int .i64 y.a) := blk_cell hX2a 1
            have a2 : (w2.alloc (.cells #[.int .i64 f] 3)).cell? ⟨w1.heap.size, 2, none⟩ = some (.int .i64 y.b) := blk_cell hX2a 2
            have a3 : (w2.alloc (.cells #[.int .i64 f] 3)).cell? ⟨w1.heap.size, 3, none⟩ = some (.int .i64 y.c) := blk_cell hX2a 3
            have a4 : (w2.alloc (.cells #[.int .i64 f] 3)).cell? ⟨w1.heap.size, 4, none⟩ = some (.slice Bx y.vars.length dx) := blk_cell hX2a 4
            have HX2 := Lib.hid hX2
            clear hX2 hX2a hS2 hM2 z0 z1 z2 z3 z4
            go_wp2
            refine Plan.wp_region_plan [0, 0, 2, 7, 0, 0, 0, 0, 239, 495, 1023, 2047, 4095] (List.cons (Plan.Seg.mk (List.cons 0 (List.cons 1 (List.cons 4 (List.cons 5 (List.cons 6 (List.cons 7 List.nil)))))) 2 (List.cons 0 (List.cons 4 (List.cons 5 (List.cons 6 (List.cons 7 List.nil)))))) (List.cons (Plan.Seg.mk List.nil 3 (List.cons 4 (List.cons 5 (List.cons 6 (List.cons 7 List.nil))))) (List.cons (Plan.Seg.mk List.nil 8 (List.cons 4 List.nil)) (List.cons (Plan.Seg.mk List.nil 9 (List.cons 4 List.nil)) (List.cons (Plan.Seg.mk List.nil 10 List.nil) List.nil))))) (List.cons 11 (List.cons 12 List.nil)) (by kernel_rfl) (by kernel_rfl) ?_
            simp only [Plan.wayOf, Plan.pickAll, List.getElem?_cons_zero, List.getElem?_cons_succ, List.getD_eq_getElem?_getD, Option.getD_some]
            refine Plan.wpWay_seg ?_
            repeat go_big_quiet_step (fail)
            refine wpQuiet_nil ?_
            refine Plan.wpWay_act ?_
            go_wp2_with (fail)
            refine And.intro ?_ ?_
            focus
              refine Plan.again_cons ?_ ?_
              focus
                go_big_quiet_step (fail)
                exact wpQuiet_nil rfl
              refine Plan.again_cons ?_ ?_
              focus
                go_big_quiet_step (fail)
                exact wpQuiet_nil rfl
              refine Plan.again_cons ?_ ?_
              focus
                go_big_quiet_step (fail)
                exact wpQuiet_nil rfl
              refine Plan.again_cons ?_ ?_
              focus
                go_big_quiet_step (fail)
                exact wpQuiet_nil rfl
              refine Plan.again_cons ?_ ?_
              focus
                go_big_quiet_step (fail)
                exact wpQuiet_nil rfl
              exact Plan.again_nil
            refine Plan.wpWay_seg ?_
            refine wpQuiet_nil ?_
            refine Plan.wpWay_act ?_
            go_wp2_with (first | (at_builtin; refine wpList_append_row rfl _ _ 28 rfl 3 j0 (.int .i64 0) 8 Try.underlying28 hj0 hy0 hy1 hy2 rfl (enc := Value.int .i64) (.slice (some ⟨gl, 0, none⟩) l.length cl) l rfl (KL2.out.rl.frm0 ((Frm.refl _ _).alloc _).drew) ⟨w2.heap.size, 0, none⟩ 1 f rfl ?c1 rfl ?c2 ?c3 ?_) | go_in)
            case c1 => exact blk_cell (blk_new _) 0
            case c2 => have : maxLen = 9223372036854775807 := rfl; omega
            case c3 => omega
            intro gl2 cl2 w3 hrow hfr hg hlt3
            have AL := Lib.hid (after_l KS2.out KM2.out KL2.out KO.out HX2.out (fun e => by have := own_eq e; omega) HSX2.out (fun g hg1 hg2 => by have := HOX.out g hg2; have := own_eq hg1; omega) hrow hfr hg rfl)
            have t0 : w3.cell? ⟨w1.heap.size, 0, none⟩ = some (.int .i64 y.kind) := blk_cell AL.out.x 0
            have t1 : w3.cell? ⟨w1.heap.size, 1, none⟩ = some (.int .i64 y.a) := blk_cell AL.out.x 1
            have t2 : w3.cell? ⟨w1.heap.size, 2, none⟩ = some (.int .i64 y.b) := blk_cell AL.out.x 2
            have t3 : w3.cell? ⟨w1.heap.size, 3, none⟩ = some (.int .i64 y.c) := blk_cell AL.out.x 3
            have t4 : w3.cell? ⟨w1.heap.size, 4, none⟩ = some (.slice Bx y.vars.length dx) := blk_cell AL.out.x 4
            clear hrow hfr hg
            go_wp2_with fail
            refine And.intro ?_ ?_
            focus
              refine Plan.again_cons ?_ ?_
              focus
                go_big_quiet_step (fail)
                exact wpQuiet_nil rfl
              refine Plan.again_cons ?_ ?_
              focus
                go_big_quiet_step (fail)
                exact wpQuiet_nil rfl
              refine Plan.again_cons ?_ ?_
              focus
                go_big_quiet_step (fail)
                exact wpQuiet_nil rfl
              refine Plan.again_cons ?_ ?_
              focus
                go_big_quiet_step (fail)
                exact wpQuiet_nil rfl
              exact Plan.again_nil
            refine Plan.wpWay_seg ?_
            refine wpQuiet_nil ?_
            refine Plan.wpWay_act ?_
            go_wp2_with fail
            refine (Do_calls w3 (TOk w3 own2 _ _) n y _ _ t (by omega) (by omega) (Hlt.out ▸ HFit.out) AL.out.v AL.out.L.tabs (by have := Hlt.out; omega) (Good.tabLen KG.out) H7.out).mono ?_
            rintro e w4 ⟨vd, rfl, hsd, hfd, hbd⟩
            obtain ⟨Bd, dd, rfl, _⟩ := sees_slice hsd
            have HSD := Lib.hid hsd
            have HFD := Lib.hid hfd
            have HBD := Lib.hid hbd
            obtain ⟨vs4, r41, r42, r43⟩ := (AL.out.L.frm0 hfd).rt
            have R41 := Lib.hid r41
            have R42 := Lib.hid r42
            have R43 := Lib.hid r43
            clear hsd hfd hbd r41 r42 r43
            go_wp2_with fail
            refine And.intro ?_ ?_
            focus
              refine Plan.again_cons ?_ ?_
              focus
                go_big_quiet_step (fail)
                exact wpQuiet_nil rfl
              exact Plan.again_nil
            refine Plan.wpWay_seg ?_
            refine wpQuiet_nil ?_
            refine Plan.wpWay_act ?_
            go_wp2_with (fail)
            refine And.intro ?_ ?_
            focus
              refine Plan.again_cons ?_ ?_
              focus
                go_big_quiet_step (fail)
                exact wpQuiet_nil rfl
              exact Plan.again_nil
            refine Plan.wpWay_seg ?_
            refine wpQuiet_nil ?_
            refine Plan.wpWay_act ?_
            go_wp2_with (first | (at_builtin; refine wpList_append_row rfl _ _ 29 rfl 33 k0 (.slice none 0 0) 24 Try.underlying29 hk0 hq0 hq1 hq2 rfl (enc := fun u => u) (.slice (some ⟨gt, 0, none⟩) t.length ct) vs4 rfl (R41.out.frm0 ((Frm.refl _ _).alloc _)) ⟨w4.heap.size, 0, none⟩ 1 (.slice Bd (doT n y t).length dd) rfl ?d1 rfl ?d2 ?d3 ?_) | go_in)
            case d1 => exact blk_cell (blk_new _) 0
            case d2 => have := R42.out; have := Hlt.out; have : maxLen = 9223372036854775807 := rfl; omega
            case d3 => have := R42.out; have := Hlt.out; omega
            intro gt2 ct2 w5 hrow hfr hg hlt5
            have AT := Lib.hid (after_t AL.out.S AL.out.M AL.out.L HFD.out KT.out HSD.out (fun e => by have h2 := congrArg List.length e; rw [doT_len KG.out (Hlt.out ▸ HFit.out), HN.out, List.length_nil] at h2; omega) HBD.out R41.out R42.out R43.out hrow hfr hg rfl)
            clear hrow hfr hg
            go_wp2_with fail
            refine And.intro Plan.again_nil ?_
            refine Plan.wpWay_last ?_
            repeat go_big_quiet_step (fail)
            refine wpQuiet_nil ?_
            refine NoPanic.normal ?_
            go_wp2
            go_roundw
            case rel => exact ⟨j + 1, l ++ [f], t ++ [doT n y t], own2, s2, by omega, by go_num, Lib.hid AT.out.1, Lib.hid AT.out.2.1, HG2, Lib.hid AT.out.2.2.1, HE2, HW2, Lib.hid (by have := KN.out; simp; omega), Lib.hid AL.out.n, Lib.hid AT.out.2.2.2⟩
            case measure => simp [intOf]; omega
          case pos =>
            have e7 : (y.kind == 7) = true := by simp [h7]
            have hya := (HFit.out.a (by omega)).1
            obtain ⟨ya0, ya1⟩ := hya
            have hta : y.a < (t.length : Int) := by have := Hlt.out; omega
            obtain ⟨gt', ot', ct', u, et, hcu, hsu, _⟩ := ((KL.out.frm0 HFX.out).frm0 ((Frm.refl _ _).alloc (.cells #[.int .i64 y.kind, .int .i64 y.a, .int .i64 y.b, .int .i64 y.c, .slice Bx y.vars.length dx] 55))).tabs.at ⟨ya0, hta⟩
            cases et
            rw [Nat.zero_add] at hcu
            have hlen := Good.tabLen KG.out _ ⟨ya0, hta⟩
            have HRN := Lib.hid (Renames_calls (w1.alloc (.cells #[.int .i64 y.kind, .int .i64 y.a, .int .i64 y.b, .int .i64 y.c, .slice Bx y.vars.length dx] 55)).drew u (.slice Bx y.vars.length dx) (tab t y.a) n y.vars (by omega) hlen (hsu.frm (Frm.refl (fun _ => False) _).drew fun _ _ _ => id) ((HRX.out.frm0 ((Frm.refl _ _).alloc _)).frm0 (Frm.refl _ _).drew).sees)
            have HKY := Lib.hid (act_keys KG.out HFit.out hn6)
            clear hsu hlen
            cases hren : renamesF (tab t y.a) n y.vars with
            | true =>
              have HP := Lib.hid (act_ok KG.out HFit.out hn6 (by have := KE.out.room; have := KW.out; omega) (by obtain ⟨_, _, _, H⟩ := KS.out; exact H.room) fun _ => hren)
              have H7 := Lib.hid (show y.kind = 7 → renamesF (tab t y.a) n y.vars = true from fun _ => hren)
              rw [hren] at HRN
              clear hren h7
              go_wp2
              refine Plan.wp_region_plan [0, 1, 3, 7, 15, 15, 47, 127, 255, 15, 15, 1039, 4095, 8191, 16383] (List.cons (Plan.Seg.mk (List.cons 0 (List.cons 1 (List.cons 2 (List.cons 3 (List.cons 4 (List.cons 5 (List.cons 6 (List.cons 7 (List.cons 8 (List.cons 9 (List.cons 10 (List.cons 11 List.nil)))))))))))) 12 List.nil) List.nil) (List.cons 13 (List.cons 14 List.nil)) (by kernel_rfl) (by kernel_rfl) ?_
              simp only [Plan.wayOf, Plan.pickAll, List.getElem?_cons_zero, List.getElem?_cons_succ, List.getD_eq_getElem?_getD, Option.getD_some]
              refine Plan.wpWay_seg ?_
              repeat go_big_quiet_step (fail)
              refine wpQuiet_nil ?_
              refine Plan.wpWay_act ?_
              go_wp2_with fail
              refine HRN.out.mono ?_
              rintro e wz ⟨rfl, hfz⟩
              have HFZ : Hid (Frm (fun _ => False) (w1.alloc (.cells #[.int .i64 y.kind, .int .i64 y.a, .int .i64 y.b, .int .i64 y.c, .slice Bx y.vars.length dx] 55)) wz) := Lib.hid ((Frm.refl _ _).drew.trans hfz fun _ _ h => h)
              clear hfz
              go_wp2_with fail
              refine And.intro Plan.again_nil ?_
              refine Plan.wpWay_last ?_
              repeat go_big_quiet_step (fail)
              refine wpQuiet_nil ?_
              refine NoPanic.normal ?_
              obtain ⟨f, s2, hdo, hE2, hW2, hG2⟩ := HP.out
              have HSZ2 := Lib.hid (((KS.out.frm HFX.out fun _ _ => id).alloc (.cells #[.int .i64 y.kind, .int .i64 y.a, .int .i64 y.b, .int .i64 y.c, .slice Bx y.vars.length dx] 55)).frm HFZ.out fun _ _ => id)
              have XB := Lib.hid (blk_frm HB.out HFZ.out id)
              have HFA := Lib.hid ((HFX.out.alloc (.cells #[.int .i64 y.kind, .int .i64 y.a, .int .i64 y.b, .int .i64 y.c, .slice Bx y.vars.length dx] 55)).trans HFZ.out fun _ _ h => h)
              have HLZ := Lib.hid (KL.out.frm0 HFA.out)
              have HRX2 := Lib.hid ((HRX.out.frm0 ((Frm.refl _ _).alloc (.cells #[.int .i64 y.kind, .int .i64 y.a, .int .i64 y.b, .int .i64 y.c, .slice Bx y.vars.length dx] 55))).frm0 HFZ.out)
              have HD := Lib.hid (do_calls HSZ2.out 100 y _ _ l HRX2.out.sees HLZ.out.rl.sees (f, 0) s2 HFit.out.kind HFit.out.a (by have := HFit.out.len; omega) HKY.out hdo)
              have z0 : wz.cell? ⟨w1.heap.size, 0, none⟩ = some (.int .i64 y.kind) := blk_cell XB.out 0
              have z1 : wz.cell? ⟨w1.heap.size, 1, none⟩ = some (.int .i64 y.a) := blk_cell XB.out 1
              have z2 : wz.cell? ⟨w1.heap.size, 2, none⟩ = some (.int .i64 y.b) := blk_cell XB.out 2
              have z3 : wz.cell? ⟨w1.heap.size, 3, none⟩ = some (.int .i64 y.c) := blk_cell XB.out 3
              have z4 : wz.cell? ⟨w1.heap.size, 4, none⟩ = some (.slice Bx y.vars.length dx) := blk_cell XB.out 4
              have HE2 := Lib.hid (KE.out.trans hE2)
              have HW2 := Lib.hid (show s2.works ≤ s.works + 400 * (j + 1) from by have := KW.out; omega)
              have HG2 := Lib.hid hG2
              clear hdo hE2 hW2 hG2 HP
              go_wp2_with fail
              refine HD.out.mono ?_
              rintro e w2 ⟨rfl, own2, hS2, hM2⟩
              obtain ⟨hX2, _⟩ := hM2.keep XB.out (fun ho => by have := KS.out.ownlt _ ho; omega)
              have KS2 := Lib.hid hS2
              have KM2 := Lib.hid ((KM.out.trans (.of_frm (HFA.out.mono fun _ _ h => h.elim) fun _ h => .inl h)).trans hM2)
              have KL2 := Lib.hid (HLZ.out.move hM2)
              have HSX2 := Lib.hid (HRX2.out.sees.frm hM2.1 fun g hg _ ho => by obtain ⟨o', n', c', e'⟩ := hg; have := HOX.out g (by rw [e']; rfl); have := KS.out.ownlt _ ho; omega)
              have x0 : w2.cell? ⟨w1.heap.size, 0, none⟩ = some (.int .i64 y.kind) := blk_cell hX2 0
              have x1 : w2.cell? ⟨w1.heap.size, 1, none⟩ = some (.int .i64 y.a) := blk_cell hX2 1
              have x2 : w2.cell? ⟨w1.heap.size, 2, none⟩ = some (.int .i64 y.b) := blk_cell hX2 2
              have x3 : w2.cell? ⟨w1.heap.size, 3, none⟩ = some (.int .i64 y.c) := blk_cell hX2 3
              have x4 : w2.cell? ⟨w1.heap.size, 4, none⟩ = some (.slice Bx y.vars.length dx) := blk_cell hX2 4
              have hX2a := blk_alloc hX2 (.cells #[.int .i64 f] 3)
              have a0 : (w2.alloc (.cells #[.int .i64 f] 3)).cell? ⟨w1.heap.size, 0, none⟩ = some (.int .i64 y.kind) := blk_cell hX2a 0
              have a1 : (w2.alloc (.cells #[.int .i64 f] 3)).cell? ⟨w1.heap.size, 1, none⟩ = some (.int .i64 y.a) := blk_cell hX2a 1
              have a2 : (w2.alloc (.cells #[.int .i64 f] 3)).cell? ⟨w1.heap.size, 2, none⟩ = some (.int .i64 y.b) := blk_cell hX2a 2
              have a3 : (w2.alloc (.cells #[.int .i64 f] 3)).cell? ⟨w1.heap.size, 3, none⟩ = some (.int .i64 y.c) := blk_cell hX2a 3
              have a4 : (w2.alloc (.cells #[.int .i64 f] 3)).cell? ⟨w1.heap.size, 4, none⟩ = some (.slice Bx y.vars.length dx) := blk_cell hX2a 4
              have HX2 := Lib.hid hX2
              clear hX2 hX2a hS2 hM2 z0 z1 z2 z3 z4
              go_wp2
              refine Plan.wp_region_plan [0, 0, 2, 7, 0, 0, 0, 0, 239, 495, 1023, 2047, 4095] (List.cons (Plan.Seg.mk (List.cons 0 (List.cons 1 (List.cons 4 (List.cons 5 (List.cons 6 (List.cons 7 List.nil)))))) 2 (List.cons 0 (List.cons 4 (List.cons 5 (List.cons 6 (List.cons 7 List.nil)))))) (List.cons (Plan.Seg.mk List.nil 3 (List.cons 4 (List.cons 5 (List.cons 6 (List.cons 7 List.nil))))) (List.cons (Plan.Seg.mk List.nil 8 (List.cons 4 List.nil)) (List.cons (Plan.Seg.mk List.nil 9 (List.cons 4 List.nil)) (List.cons (Plan.Seg.mk List.nil 10 List.nil) List.nil))))) (List.cons 11 (List.cons 12 List.nil)) (by kernel_rfl) (by kernel_rfl) ?_
              simp only [Plan.wayOf, Plan.pickAll, List.getElem?_cons_zero, List.getElem?_cons_succ, List.getD_eq_getElem?_getD, Option.getD_some]
              refine Plan.wpWay_seg ?_
              repeat go_big_quiet_step (fail)
              refine wpQuiet_nil ?_
              refine Plan.wpWay_act ?_
              go_wp2_with (fail)
              refine And.intro ?_ ?_
              focus
                refine Plan.again_cons ?_ ?_
                focus
                  go_big_quiet_step (fail)
                  exact wpQuiet_nil rfl
                refine Plan.again_cons ?_ ?_
                focus
                  go_big_quiet_step (fail)
                  exact wpQuiet_nil rfl
                refine Plan.again_cons ?_ ?_
                focus
                  go_big_quiet_step (fail)
                  exact wpQuiet_nil rfl
                refine Plan.again_cons ?_ ?_
                focus
                  go_big_quiet_step (fail)
                  exact wpQuiet_nil rfl
                refine Plan.again_cons ?_ ?_
                focus
                  go_big_quiet_step (fail)
                  exact wpQuiet_nil rfl
                exact Plan.again_nil
              refine Plan.wpWay_seg ?_
              refine wpQuiet_nil ?_
              refine Plan.wpWay_act ?_
              go_wp2_with (first | (at_builtin; refine wpList_append_row rfl _ _ 28 rfl 3 j0 (.int .i64 0) 8 Try.underlying28 hj0 hy0 hy1 hy2 rfl (enc := Value.int .i64) (.slice (some ⟨gl, 0, none⟩) l.length cl) l rfl (KL2.out.rl.frm0 ((Frm.refl _ _).alloc _).drew) ⟨w2.heap.size, 0, none⟩ 1 f rfl ?c1 rfl ?c2 ?c3 ?_) | go_in)
              case c1 => exact blk_cell (blk_new _) 0
              case c2 => have : maxLen = 9223372036854775807 := rfl; omega
              case c3 => omega
              intro gl2 cl2 w3 hrow hfr hg hlt3
              have AL := Lib.hid (after_l KS2.out KM2.out KL2.out KO.out HX2.out (fun e => by have := own_eq e; omega) HSX2.out (fun g hg1 hg2 => by have := HOX.out g hg2; have := own_eq hg1; omega) hrow hfr hg rfl)
              have t0 : w3.cell? ⟨w1.heap.size, 0, none⟩ = some (.int .i64 y.kind) := blk_cell AL.out.x 0
              have t1 : w3.cell? ⟨w1.heap.size, 1, none⟩ = some (.int .i64 y.a) := blk_cell AL.out.x 1
              have t2 : w3.cell? ⟨w1.heap.size, 2, none⟩ = some (.int .i64 y.b) := blk_cell AL.out.x 2
              have t3 : w3.cell? ⟨w1.heap.size, 3, none⟩ = some (.int .i64 y.c) := blk_cell AL.out.x 3
              have t4 : w3.cell? ⟨w1.heap.size, 4, none⟩ = some (.slice Bx y.vars.length dx) := blk_cell AL.out.x 4
              clear hrow hfr hg
              go_wp2_with fail
              refine And.intro ?_ ?_
              focus
                refine Plan.again_cons ?_ ?_
                focus
                  go_big_quiet_step (fail)
                  exact wpQuiet_nil rfl
                refine Plan.again_cons ?_ ?_
                focus
                  go_big_quiet_step (fail)
                  exact wpQuiet_nil rfl
                refine Plan.again_cons ?_ ?_
                focus
                  go_big_quiet_step (fail)
                  exact wpQuiet_nil rfl
                refine Plan.again_cons ?_ ?_
                focus
                  go_big_quiet_step (fail)
                  exact wpQuiet_nil rfl
                exact Plan.again_nil
              refine Plan.wpWay_seg ?_
              refine wpQuiet_nil ?_
              refine Plan.wpWay_act ?_
              go_wp2_with fail
              refine (Do_calls w3 (TOk w3 own2 _ _) n y _ _ t (by omega) (by omega) (Hlt.out ▸ HFit.out) AL.out.v AL.out.L.tabs (by have := Hlt.out; omega) (Good.tabLen KG.out) H7.out).mono ?_
              rintro e w4 ⟨vd, rfl, hsd, hfd, hbd⟩
              obtain ⟨Bd, dd, rfl, _⟩ := sees_slice hsd
              have HSD := Lib.hid hsd
              have HFD := Lib.hid hfd
              have HBD := Lib.hid hbd
              obtain ⟨vs4, r41, r42, r43⟩ := (AL.out.L.frm0 hfd).rt
              have R41 := Lib.hid r41
              have R42 := Lib.hid r42
              have R43 := Lib.hid r43
              clear hsd hfd hbd r41 r42 r43
              go_wp2_with fail
              refine And.intro ?_ ?_
              focus
                refine Plan.again_cons ?_ ?_
                focus
                  go_big_quiet_step (fail)
                  exact wpQuiet_nil rfl
                exact Plan.again_nil
              refine Plan.wpWay_seg ?_
              refine wpQuiet_nil ?_
              refine Plan.wpWay_act ?_
              go_wp2_with (fail)
              refine And.intro ?_ ?_
              focus
                refine Plan.again_cons ?_ ?_
                focus
                  go_big_quiet_step (fail)
                  exact wpQuiet_nil rfl
                exact Plan.again_nil
              refine Plan.wpWay_seg ?_
              refine wpQuiet_nil ?_
              refine Plan.wpWay_act ?_
              go_wp2_with (first | (at_builtin; refine wpList_append_row rfl _ _ 29 rfl 33 k0 (.slice none 0 0) 24 Try.underlying29 hk0 hq0 hq1 hq2 rfl (enc := fun u => u) (.slice (some ⟨gt, 0, none⟩) t.length ct) vs4 rfl (R41.out.frm0 ((Frm.refl _ _).alloc _)) ⟨w4.heap.size, 0, none⟩ 1 (.slice Bd (doT n y t).length dd) rfl ?d1 rfl ?d2 ?d3 ?_) | go_in)
              case d1 => exact blk_cell (blk_new _) 0
              case d2 => have := R42.out; have := Hlt.out; have : maxLen = 9223372036854775807 := rfl; omega
              case d3 => have := R42.out; have := Hlt.out; omega
              intro gt2 ct2 w5 hrow hfr hg hlt5
              have AT := Lib.hid (after_t AL.out.S AL.out.M AL.out.L HFD.out KT.out HSD.out (fun e => by have h2 := congrArg List.length e; rw [doT_len KG.out (Hlt.out ▸ HFit.out), HN.out, List.length_nil] at h2; omega) HBD.out R41.out R42.out R43.out hrow hfr hg rfl)
              clear hrow hfr hg
              go_wp2_with fail
              refine And.intro Plan.again_nil ?_
              refine Plan.wpWay_last ?_
              repeat go_big_quiet_step (fail)
              refine wpQuiet_nil ?_
              refine NoPanic.normal ?_
              go_wp2
              go_roundw
              case rel => exact ⟨j + 1, l ++ [f], t ++ [doT n y t], own2, s2, by omega, by go_num, Lib.hid AT.out.1, Lib.hid AT.out.2.1, HG2, Lib.hid AT.out.2.2.1, HE2, HW2, Lib.hid (by have := KN.out; simp; omega), Lib.hid AL.out.n, Lib.hid AT.out.2.2.2⟩
              case measure => simp [intOf]; omega
            | false =>
              have HP := Lib.hid (act_no KG.out HFit.out hn6 h7 hren)
              rw [hren] at HRN
              clear hren h7
              go_wp2
              refine Plan.wp_region_plan [0, 1, 3, 7, 15, 15, 47, 127, 255, 15, 15, 1039, 4095, 8191, 16383] (List.cons (Plan.Seg.mk (List.cons 0 (List.cons 1 (List.cons 2 (List.cons 3 (List.cons 4 (List.cons 5 (List.cons 6 (List.cons 7 (List.cons 8 (List.cons 9 (List.cons 10 (List.cons 11 List.nil)))))))))))) 12 List.nil) List.nil) (List.cons 13 (List.cons 14 List.nil)) (by kernel_rfl) (by kernel_rfl) ?_
              simp only [Plan.wayOf, Plan.pickAll, List.getElem?_cons_zero, List.getElem?_cons_succ, List.getD_eq_getElem?_getD, Option.getD_some]
              refine Plan.wpWay_seg ?_
              repeat go_big_quiet_step (fail)
              refine wpQuiet_nil ?_
              refine Plan.wpWay_act ?_
              go_wp2_with fail
              refine HRN.out.mono ?_
              rintro e wz ⟨rfl, hfz⟩
              have HFZ : Hid (Frm (fun _ => False) (w1.alloc (.cells #[.int .i64 y.kind, .int .i64 y.a, .int .i64 y.b, .int .i64 y.c, .slice Bx y.vars.length dx] 55)) wz) := Lib.hid ((Frm.refl _ _).drew.trans hfz fun _ _ h => h)
              clear hfz
              go_wp2_with fail
              refine And.intro Plan.again_nil ?_
              refine Plan.wpWay_last ?_
              repeat go_big_quiet_step (fail)
              refine wpQuiet_nil ?_
              refine NoPanic.normal ?_
              have HSZ2 := Lib.hid (((KS.out.frm HFX.out fun _ _ => id).alloc (.cells #[.int .i64 y.kind, .int .i64 y.a, .int .i64 y.b, .int .i64 y.c, .slice Bx y.vars.length dx] 55)).frm HFZ.out fun _ _ => id)
              have XB := Lib.hid (blk_frm HB.out HFZ.out id)
              have HFA := Lib.hid ((HFX.out.alloc (.cells #[.int .i64 y.kind, .int .i64 y.a, .int .i64 y.b, .int .i64 y.c, .slice Bx y.vars.length dx] 55)).trans HFZ.out fun _ _ h => h)
              have HLZ := Lib.hid (KL.out.frm0 HFA.out)
              have HRX2 := Lib.hid ((HRX.out.frm0 ((Frm.refl _ _).alloc (.cells #[.int .i64 y.kind, .int .i64 y.a, .int .i64 y.b, .int .i64 y.c, .slice Bx y.vars.length dx] 55))).frm0 HFZ.out)
              have HD := Lib.hid (do_calls HSZ2.out 100 y _ _ l HRX2.out.sees HLZ.out.rl.sees (0, 91) s1 HFit.out.kind HFit.out.a (by have := HFit.out.len; omega) HKY.out HP.out)
              have z0 : wz.cell? ⟨w1.heap.size, 0, none⟩ = some (.int .i64 y.kind) := blk_cell XB.out 0
              have z1 : wz.cell? ⟨w1.heap.size, 1, none⟩ = some (.int .i64 y.a) := blk_cell XB.out 1
              have z2 : wz.cell? ⟨w1.heap.size, 2, none⟩ = some (.int .i64 y.b) := blk_cell XB.out 2
              have z3 : wz.cell? ⟨w1.heap.size, 3, none⟩ = some (.int .i64 y.c) := blk_cell XB.out 3
              have z4 : wz.cell? ⟨w1.heap.size, 4, none⟩ = some (.slice Bx y.vars.length dx) := blk_cell XB.out 4
              go_wp2_with fail
              refine HD.out.mono ?_
              rintro e w2 ⟨rfl, own2, hS2, hM2⟩
              have KS2 := Lib.hid hS2
              have KM2 := Lib.hid ((KM.out.trans (.of_frm (HFA.out.mono fun _ _ h => h.elim) fun _ h => .inl h)).trans hM2)
              have KL2 := Lib.hid (HLZ.out.move hM2)
              clear hS2 hM2 z0 z1 z2 z3 z4
              go_wp2
              go_roundw
              case rel => exact ⟨j + 1, l, t, own2, s1, by omega, by go_num, KS2, KM2, KG, KL2, KE, Lib.hid (by have := KW.out; omega), Lib.hid (by have := KN.out; omega), KO, KT⟩
              case measure => simp [intOf]; omega
        · have hfin := Lib.hid (show BuiltPost own w p n s (.returned (.tuple #[u12, u13, .bool true])) wr from ⟨_, _, l, t, own1, s1, rfl, KS.out, KM.out, KG.out, KL.out, KE.out, by have := KW.out; omega, by have := KN.out; omega⟩)
          by_cases hx : (j : Int) < (xs.length : Int)
          · have hx30 : ¬ (j : Int) < 30 := by omega
            clear hmin
            go_wp2
            go_ret3
            exact hfin.out
          · clear hmin
            go_wp2
            go_ret3
            exact hfin.out
end LawW
end Go.Proofs.Ytjajpdmmoiiojaa
