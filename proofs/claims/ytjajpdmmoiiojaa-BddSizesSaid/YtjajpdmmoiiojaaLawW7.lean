/- The law's own functions, walked: nodes. -/
import Derived.Test.YtjajpdmmoiiojaaLawW4
import Derived.Outline
namespace Go.Bdd
open Go.Mem Go.RowKit
theorem addPart_len (ps : List (List Bool)) (p : List Bool) (h : Nat) : (addPart ps p h).length ≤ ps.length + 1 := by unfold addPart; split <;> simp
theorem partsV_len (t : List Bool) (n v : Nat) (ps : List (List Bool)) : ∀ j, (partsV t n v ps j).length ≤ ps.length + j
  | 0 => Nat.le_refl _
  | j + 1 => by
    rw [partsV_succ]
    have := addPart_len (partsV t n v ps j) (subT t n v j) (2 ^ (n - v - 1))
    have := partsV_len t n v ps j
    omega
theorem partsF_len (t : List Bool) (n : Nat) : ∀ v, (partsF t n v).length ≤ 2 ^ v
  | 0 => by simp [partsF]
  | v + 1 => by
    rw [partsF_succ, Nat.pow_succ]
    have := partsV_len t n v (partsF t n v) (2 ^ v)
    have := partsF_len t n v
    omega
theorem mem_take_succ (ps : List (List Bool)) (p d : List Bool) (k : Nat) (hk : k < ps.length) : decide (p ∈ ps.take (k + 1)) = (decide (p ∈ ps.take k) || decide (ps.getD k d = p)) := by
  rw [List.take_add_one, Bool.eq_iff_iff]
  have : ps[k]? = some (ps.getD k d) := by simp [hk]
  rw [this, decide_eq_true_eq, Bool.or_eq_true, decide_eq_true_eq, decide_eq_true_eq, Option.toList_some, List.mem_append, List.mem_singleton]
  constructor
  · rintro (h | h)
    · exact .inl h
    · exact .inr h.symm
  · rintro (h | h)
    · exact .inl h
    · exact .inr h.symm
theorem sees_cut {α : Type} {w : World} {enc : α → Value} {g o n c : Nat} {xs : List α} (h : Sees w enc (.slice (some ⟨g, o, none⟩) n c) xs) (hn : n = xs.length) {a b : Nat} (hb : a + b ≤ xs.length) : Sees w enc (.slice (some ⟨g, o + a, none⟩) b (c - a)) ((xs.drop a).take b) := by
  rcases h with ⟨e, _⟩ | ⟨g', o', c', e, h1, h2, h3⟩
  · cases e
  · cases e
    have hl : ((xs.drop a).take b).length = b := by rw [List.length_take, List.length_drop]; omega
    refine .inr ⟨g, o + a, c - a, by rw [hl], by rw [hl]; omega, by omega, fun i x hx => ?_⟩
    have hi : i < b := by have := (List.getElem?_eq_some_iff.1 hx).1; rw [hl] at this; exact this
    rw [List.getElem?_take_of_lt hi, List.getElem?_drop] at hx
    have := h3 _ _ hx
    rwa [← Nat.add_assoc] at this
theorem sees_cap {α : Type} {w : World} {enc : α → Value} {g o n c : Nat} {xs : List α} (h : Sees w enc (.slice (some ⟨g, o, none⟩) n c) xs) : xs.length ≤ c ∧ c ≤ maxLen := by
  rcases h with ⟨e, _⟩ | ⟨g', o', c', e, h1, h2, h3⟩
  · cases e
  · cases e; exact ⟨h1, h2⟩
end Go.Bdd
namespace Go.Proofs.Ytjajpdmmoiiojaa
open Go.RowKit Go.Mem Go.Bdd
namespace LawW
open TabW BddW

/-- The row of parts: each lies in the table's own block. -/
structure PartsAt (w w' : World) (gu : Nat) (v : Value) (ps : List (List Bool)) : Prop where
  new : ∀ g, v.ownBlock = some g → w.heap.size ≤ g
  row : ∃ vs : List Value, Row w' 33 (fun u => u) v vs ∧ vs.length = ps.length ∧ ∀ (i : Nat) u p, vs[i]? = some u → ps[i]? = some p → Sees w' Value.bool u p ∧ ∀ g, InBlk u g → g = gu
theorem PartsAt.frm0 {w w' w2 : World} {gu : Nat} {v : Value} {ps : List (List Bool)} (h : PartsAt w w' gu v ps) (hf : Frm (fun _ => False) w' w2) : PartsAt w w2 gu v ps := by
  obtain ⟨vs, r1, r2, r3⟩ := h.row
  exact ⟨h.new, vs, r1.frm0 hf, r2, fun i u p hu hp => ⟨(r3 i u p hu hp).1.frm hf fun _ _ _ => id, (r3 i u p hu hp).2⟩⟩
theorem PartsAt.push {w w' w2 : World} {gu : Nat} {v v' u : Value} {ps : List (List Bool)} {p : List Bool} {vs : List Value} (h : PartsAt w w' gu v ps) (hgu : gu < w.heap.size) (hw : w.heap.size ≤ w'.heap.size)
    (r2 : vs.length = ps.length) (r3 : ∀ (i : Nat) u p, vs[i]? = some u → ps[i]? = some p → Sees w' Value.bool u p ∧ ∀ g, InBlk u g → g = gu)
    (hr : Row w2 33 (fun u => u) v' (vs ++ [u])) (hf : Frm (fun b => v.ownBlock = some b) w' w2) (hg : ∀ g, v'.ownBlock = some g → v.ownBlock = some g ∨ w'.heap.size ≤ g) (hu : Sees w' Value.bool u p) (hub : ∀ g, InBlk u g → g = gu) : PartsAt w w2 gu v' (ps ++ [p]) := by
  have far : ∀ {u : Value} {p : List Bool}, Sees w' Value.bool u p → (∀ g, InBlk u g → g = gu) → Sees w2 Value.bool u p := fun hs hb => hs.frm hf fun g hg _ e => by
    have := hb g hg
    subst this
    have := h.new _ e
    omega
  refine ⟨fun g hg' => ?_, vs ++ [u], hr, by simp [r2], fun i u' p' hu' hp' => ?_⟩
  · rcases hg g hg' with h1 | h1
    · exact h.new g h1
    · omega
  · by_cases hi : i < vs.length
    · rw [List.getElem?_append_left hi] at hu'
      rw [List.getElem?_append_left (by omega)] at hp'
      obtain ⟨a, b⟩ := r3 i u' p' hu' hp'
      exact ⟨far a b, b⟩
    · have hi' : i = vs.length := by
        have := (List.getElem?_eq_some_iff.1 hu').1
        simp at this; omega
      subst hi'
      rw [List.getElem?_append_right (by omega)] at hu'
      rw [List.getElem?_append_right (by omega), r2] at hp'
      simp at hu' hp'
      subst hu'; subst hp'
      exact ⟨far hu hub, hub⟩
theorem PartsAt.at {w w' : World} {gu : Nat} {v : Value} {ps : List (List Bool)} (h : PartsAt w w' gu v ps) {k : Nat} (hk : k < ps.length) : ∃ g c u, v = .slice (some ⟨g, 0, none⟩) ps.length c ∧ w'.cell? ⟨g, k, none⟩ = some u ∧ Sees w' Value.bool u (ps.getD k []) := by
  obtain ⟨vs, r1, r2, r3⟩ := h.row
  rcases r1.shape with ⟨_, e⟩ | ⟨g, c, e, _, _, _, hc, _⟩
  · subst e; simp at r2; omega
  · have hv : vs[k]? = some (vs[k]'(by omega)) := List.getElem?_eq_getElem _
    have hp : ps[k]? = some (ps.getD k []) := by simp [hk]
    exact ⟨g, c, _, by rw [e, r2], hc k _ hv, (r3 k _ _ hv hp).1⟩
theorem PartsAt.slice {w w' : World} {gu : Nat} {v : Value} {ps : List (List Bool)} (h : PartsAt w w' gu v ps) : ∃ A c, v = .slice A ps.length c := by
  obtain ⟨vs, r1, r2, r3⟩ := h.row
  obtain ⟨A, c, e, _⟩ := sees_slice r1.sees
  exact ⟨A, c, by rw [e, r2]⟩

set_option maxRecDepth 100000 in
set_option maxHeartbeats 4000000 in
theorem nodes_calls (w : World) (vt : Value) (t : List Bool) (n : Nat) (hn1 : 1 ≤ n) (hn : n ≤ 6) (ht : t.length = 2 ^ n) (hs : Sees w Value.bool vt t) :
    Calls Try.prog 24 #[vt, .int .i64 n] w fun e w' => e = .returned (.int .i64 (partsF t n n).length) ∧ Frm (fun _ => False) w w' := by
  obtain ⟨k0, hk0, hq0, hq1, hq2⟩ := info_parts info_bools
  have h64 : 2 ^ n ≤ 64 := by
    have h2 : 2 ^ n ≤ 2 ^ 6 := Nat.pow_le_pow_right (by omega) hn
    have h3 : (2 : Nat) ^ 6 = 64 := by decide
    omega
  have hp := Nat.two_pow_pos n
  obtain ⟨gu, ou, cu, rfl, hgu⟩ : ∃ gu ou cu, vt = .slice (some ⟨gu, ou, none⟩) t.length cu ∧ gu < w.heap.size := by
    rcases hs with ⟨_, e⟩ | ⟨g, o, c, e, _, _, hc⟩
    · subst e; simp at ht; omega
    · exact ⟨g, o, c, e, World.block_lt_of_cell? _ _ (hc 0 _ (List.getElem?_eq_getElem (by omega)))⟩
  obtain ⟨hcu, hcm⟩ := sees_cap hs
  have hcm' : cu ≤ 9223372036854775807 := hcm
  have Hs := Lib.hid hs
  have Ht := Lib.hid ht
  have htl : t.length ≤ 64 := by omega
  have hnI : (n : Int) ≤ 64 := by omega
  clear hs ht h64 hp hcm
  go_enter Try.func24, Try.ntmps24
  go_wp2
  go_loopw [5, 6] (fun v5 v6 w' => ∃ v : Nat, v ≤ n ∧ v6 = .int .i64 v ∧ Hid (PartsAt w w' gu v5 (partsF t n v)) ∧ Hid (Frm (fun _ => False) w w')) (fun _ v6 _ => n - (intOf v6).toNat)
  case atStart => exact ⟨0, Nat.zero_le _, rfl, Lib.hid ⟨fun g hg => by cases hg; exact Nat.le_refl _, [], ⟨rfl, .inr ⟨_, 0, _, rfl, Nat.zero_le _, blk_new _, by simp⟩⟩, rfl, fun i u p hu => by simp at hu⟩, Lib.hid ((Frm.refl _ _).alloc _)⟩
  case round =>
    obtain ⟨v, hv, rfl, HP, HF⟩ := hrel
    by_cases hvn : v < n
    · have hvI : (v : Int) < (n : Int) := by omega
      obtain ⟨m, hm⟩ : ∃ m, n - v = m + 1 := ⟨n - v - 1, by omega⟩
      have hnv : (n : Int) - (v : Int) = ((m + 1 : Nat) : Int) := by omega
      obtain ⟨S, hS⟩ : ∃ S, S = 2 ^ (m + 1) := ⟨_, rfl⟩
      obtain ⟨h, hh⟩ : ∃ h, h = 2 ^ m := ⟨_, rfl⟩
      have hS2 : S = 2 * h := by rw [hS, hh, Nat.pow_succ, Nat.mul_comm]
      have hSb : S ≤ 64 := by
        have h2 : 2 ^ (m + 1) ≤ 2 ^ 6 := Nat.pow_le_pow_right (by omega) (by omega)
        have h3 : (2 : Nat) ^ 6 = 64 := by decide
        omega
      have hhp : 0 < h := by rw [hh]; exact Nat.two_pow_pos m
      have hsh : wrap64 (2 ^ (m + 1)) = (S : Int) := by
        have e : (2 : Int) ^ (m + 1) = (S : Int) := by rw [hS]; simp
        rw [e]; unfold wrap64; omega
      have htS : t.length = S * 2 ^ v := by
        rw [Ht.out, hS, ← Nat.pow_add]; congr 1; omega
      have hq : (S : Int) / 2 = (h : Int) := by omega
      have HtS := Lib.hid htS
      have HS := Lib.hid hS
      have HH := Lib.hid hh
      have Hm := Lib.hid hm
      have HS2 := Lib.hid hS2
      clear htS hS hh hm hS2
      go_wp2
      simp only [hsh]
      clear hnv hsh
      obtain ⟨wo, rfl⟩ : ∃ wo : World, wo = wr := ⟨_, rfl⟩
      go_loopw [5, 8] (fun v5 v8 w' => ∃ j a : Nat, j ≤ 2 ^ v ∧ Hid (a = S * j) ∧ v8 = .int .i64 a ∧ Hid (PartsAt w w' gu v5 (partsV t n v (partsF t n v) j)) ∧ Hid (Frm (fun _ => False) w w')) (fun _ v8 _ => t.length - (intOf v8).toNat)
      case atStart => exact ⟨0, 0, Nat.zero_le _, Lib.hid (by simp), rfl, HP, HF⟩
      case round =>
        obtain ⟨j, a, hj, HA, rfl, HP2, HF2⟩ := hrel
        by_cases hjv : j < 2 ^ v
        · have haS : a + S ≤ t.length := by
            rw [HA.out, HtS.out, ← Nat.mul_succ]; exact Nat.mul_le_mul_left _ hjv
          have haI : (a : Int) < (t.length : Int) := by omega
          have hSI : (a : Int) + (S : Int) ≤ (t.length : Int) := by omega
          obtain ⟨A5, c5, rfl⟩ := HP2.out.slice
          have hpsl : (partsV t n v (partsF t n v) j).length ≤ 128 := by
            have h1 := partsV_len t n v (partsF t n v) j
            have h2 := partsF_len t n v
            have h3 : 2 ^ v ≤ 2 ^ 6 := Nat.pow_le_pow_right (by omega) (by omega)
            have h4 : (2 : Nat) ^ 6 = 64 := by decide
            omega
          have hsub : subT t n v j = (t.drop a).take S := by
            have h1 : 2 ^ (n - v) = S := by rw [Hm.out, HS.out]
            unfold subT; rw [h1, HA.out, Nat.mul_comm]
          have hst : (subT t n v j).take h = (t.drop a).take h := by
            rw [hsub, List.take_take, Nat.min_eq_left (by have := HS2.out; omega)]
          have hsd : (subT t n v j).drop h = (t.drop (a + h)).take h := by
            rw [hsub, List.drop_take, List.drop_drop]; congr 1; have := HS2.out; omega
          have hS2 := HS2.out
          have h2I : (h : Int) ≤ (S : Int) := by omega
          have hSh : S - h = h := by omega
          have hch : ¬ cu - a = h := by omega
          have hca : (a : Int) + (h : Int) ≤ (cu : Int) := by omega
          have hcah : h ≤ cu - a := by omega
          have hSee := Hs.out.frm HF2.out fun _ _ _ => id
          have hs0 := sees_cut Hs.out rfl haS
          have hs1 := sees_cut (a := a) (b := h) hSee rfl (by omega)
          have hs2 := sees_cut (a := a + h) (b := h) hSee rfl (by omega)
          rw [← hsub] at hs0
          rw [← hst] at hs1
          rw [← hsd, ← Nat.add_assoc, show cu - (a + h) = cu - a - h by omega] at hs2
          have HSM := Lib.hid (Same_calls _ _ _ _ wr.drew (hs1.frm (Frm.refl (fun _ => False) _).drew fun _ _ _ => id) (hs2.frm (Frm.refl (fun _ => False) _).drew fun _ _ _ => id))
          have HPP := Lib.hid hs0
          have hps : partsV t n v (partsF t n v) (j + 1) = addPart (partsV t n v (partsF t n v) j) (subT t n v j) h := by
            rw [partsV_succ]; congr 1
            rw [HH.out, show n - v - 1 = m by have := Hm.out; omega]
          have HAS : Hid (a + S = S * (j + 1)) := Lib.hid (by rw [HA.out, Nat.mul_succ])
          generalize hpp : subT t n v j = pp at *
          generalize hpv : partsV t n v (partsF t n v) j = ps at *
          have Hps := Lib.hid hps
          have Hj := Lib.hid hjv
          clear hsub hst hsd hSee hs0 hs1 hs2 hpp hpv hps hjv hS2
          by_cases hd : pp.take h = pp.drop h
          · have hask : asksPart pp h = false := by simp [asksPart, hd]
            have hnext : addPart ps pp h = ps := by unfold addPart; rw [if_neg (by rw [hask]; simp)]
            have Hn := Lib.hid hnext
            rw [decide_eq_true hd] at HSM
            clear hd hask hnext
            go_wp2
            simp only [Nat.add_sub_cancel_left]
            refine Plan.wp_region_plan [0, 0, 2, 7, 0, 0, 32, 112, 255] (List.cons (Plan.Seg.mk (List.cons 0 (List.cons 1 (List.cons 2 (List.cons 3 (List.cons 4 (List.cons 5 (List.cons 6 (List.cons 7 List.nil)))))))) 8 List.nil) List.nil) List.nil (by kernel_rfl) (by kernel_rfl) ?_
            simp only [Plan.wayOf, Plan.pickAll, List.getElem?_cons_zero, List.getElem?_cons_succ, List.getD_eq_getElem?_getD, Option.getD_some]
            refine Plan.wpWay_seg ?_
            repeat go_big_quiet_step (fail)
            refine wpQuiet_nil ?_
            refine Plan.wpWay_act ?_
            go_wp2_with fail
            refine HSM.out.mono ?_
            rintro e w4 ⟨rfl, hf4⟩
            have HF4 := Lib.hid (HF2.out.drew.trans hf4 fun _ _ h => h)
            have HP4 := Lib.hid ((HP2.out.frm0 (Frm.refl _ _).drew).frm0 hf4)
            clear hf4
            go_wp2_with fail
            refine And.intro Plan.again_nil ?_
            refine Plan.wpWay_last ?_
            refine wpQuiet_nil ?_
            refine NoPanic.normal ?_
            go_wp2
            go_roundw
            case rel => exact ⟨j + 1, a + S, by have := Hj.out; omega, HAS, by go_num, Lib.hid (by rw [Hps.out, Hn.out]; exact HP4.out), HF4⟩
            case measure => simp [intOf]; omega
          · have hask : asksPart pp h = true := by simp [asksPart, hd]
            have hnext : addPart ps pp h = if pp ∉ ps then ps ++ [pp] else ps := by unfold addPart; rw [hask]; simp
            have Hn := Lib.hid hnext
            rw [decide_eq_false hd] at HSM
            clear hd hask hnext
            go_wp2
            simp only [Nat.add_sub_cancel_left]
            refine Plan.wp_region_plan [0, 0, 2, 7, 0, 0, 32, 112, 255] (List.cons (Plan.Seg.mk (List.cons 0 (List.cons 1 (List.cons 2 (List.cons 3 (List.cons 4 (List.cons 5 (List.cons 6 (List.cons 7 List.nil)))))))) 8 List.nil) List.nil) List.nil (by kernel_rfl) (by kernel_rfl) ?_
            simp only [Plan.wayOf, Plan.pickAll, List.getElem?_cons_zero, List.getElem?_cons_succ, List.getD_eq_getElem?_getD, Option.getD_some]
            refine Plan.wpWay_seg ?_
            repeat go_big_quiet_step (fail)
            refine wpQuiet_nil ?_
            refine Plan.wpWay_act ?_
            go_wp2_with fail
            refine HSM.out.mono ?_
            rintro e w4 ⟨rfl, hf4⟩
            have HF4 := Lib.hid (HF2.out.drew.trans hf4 fun _ _ h => h)
            have HP4 := Lib.hid ((HP2.out.frm0 (Frm.refl _ _).drew).frm0 hf4)
            clear hf4
            go_wp2_with fail
            refine And.intro Plan.again_nil ?_
            refine Plan.wpWay_last ?_
            refine wpQuiet_nil ?_
            refine NoPanic.normal ?_
            go_wp2
            obtain ⟨w6, rfl⟩ : ∃ w6 : World, w6 = wr := ⟨_, rfl⟩
            go_loopw [10, 11] (fun v10 v11 w' => ∃ k : Nat, k ≤ ps.length ∧ v11 = .int .i64 k ∧ v10 = .bool (decide (pp ∈ ps.take k)) ∧ Hid (PartsAt w w' gu (.slice A5 ps.length c5) ps) ∧ Hid (Frm (fun _ => False) w w')) (fun _ v11 _ => ps.length - (intOf v11).toNat)
            case atStart => exact ⟨0, Nat.zero_le _, rfl, by simp, HP4, HF4⟩
            case round =>
              obtain ⟨k, hk, rfl, rfl, HP5, HF5⟩ := hrel
              by_cases hkp : k < ps.length
              · have hkI : (k : Int) < (ps.length : Int) := by omega
                have hnx := mem_take_succ ps pp [] k hkp
                have Hnx := Lib.hid hnx
                obtain ⟨g5, q5, u, e5, hu, hsu⟩ := HP5.out.at hkp
                cases e5
                have HSU := Lib.hid (Same_calls u _ (ps.getD k []) pp wr hsu (HPP.out.frm HF5.out fun _ _ _ => id))
                generalize ps.getD k [] = pk at *
                generalize hb0 : decide (pp ∈ ps.take k) = b0 at *
                clear hsu hnx hb0
                cases b0 with
                | true =>
                  go_wp2
                  go_roundw
                  case rel => exact ⟨k + 1, by omega, by go_num, by rw [Hnx.out]; rfl, HP5, HF5⟩
                  case measure => simp [intOf]; omega
                | false =>
                  go_wp2_with fail
                  refine HSU.out.mono ?_
                  rintro e w7 ⟨rfl, hf7⟩
                  have HF7 := Lib.hid (HF5.out.trans hf7 fun _ _ h => h)
                  have HP7 := Lib.hid (HP5.out.frm0 hf7)
                  have Hbb : Hid ((false || decide (pk = pp)) = decide (pk = pp)) := Lib.hid (Bool.false_or _)
                  clear hf7
                  generalize hb1 : decide (pk = pp) = b1 at *
                  clear hb1
                  go_wp2
                  go_roundw
                  case rel => exact ⟨k + 1, by omega, by go_num, by rw [Hnx.out, Hbb.out], HP7, HF7⟩
                  case measure => simp [intOf]; omega
              · obtain rfl : k = ps.length := by omega
                have hkn : ¬ ((ps.length : Nat) : Int) < (ps.length : Int) := by omega
                have htk : ps.take ps.length = ps := List.take_length
                rw [htk]
                by_cases hin : pp ∈ ps
                · rw [decide_eq_true hin]
                  have Hin := Lib.hid (show addPart ps pp h = ps by rw [Hn.out, if_neg (by simpa using hin)])
                  clear hin htk
                  go_wp2
                  go_roundw
                  case rel => exact ⟨j + 1, a + S, by have := Hj.out; omega, HAS, by go_num, Lib.hid (by rw [Hps.out, Hin.out]; exact HP5.out), HF5⟩
                  case measure => simp [intOf]; omega
                · rw [decide_eq_false hin]
                  have Hin := Lib.hid (show addPart ps pp h = ps ++ [pp] by rw [Hn.out, if_pos hin])
                  obtain ⟨vs, r1, r2, r3⟩ := HP5.out.row
                  have R1 := Lib.hid r1
                  have R2 := Lib.hid r2
                  have R3 := Lib.hid r3
                  clear hin htk r1 r2 r3
                  go_wp2_with (first | (at_builtin; refine wpList_append_row rfl _ _ 29 rfl 33 k0 (.slice none 0 0) 24 Try.underlying29 hk0 hq0 hq1 hq2 rfl (enc := fun u => u) (.slice A5 ps.length c5) vs rfl (R1.out.frm0 ((Frm.refl _ _).alloc _)) ⟨wr.heap.size, 0, none⟩ 1 (.slice (some ⟨gu, ou + a, none⟩) S (cu - a)) rfl ?d1 rfl ?d2 ?d3 ?_) | go_in)
                  case d2 => have := R2.out; have : maxLen = 9223372036854775807 := rfl; omega
                  case d3 => have := R2.out; omega
                  intro gt2 ct2 w8 hrow hfr hg hlt8
                  have HF8 := Lib.hid ((HF5.out.alloc _).trans hfr fun x hx h => by have := HP5.out.new x h; omega)
                  have HP8 := Lib.hid (PartsAt.push (HP5.out.frm0 ((Frm.refl _ _).alloc (.cells #[.slice (some ⟨gu, ou + a, none⟩) S (cu - a)] 33))) hgu (by have := HF5.out.size; simp; omega) R2.out (fun i u p hu hp => ⟨(R3.out i u p hu hp).1.frm ((Frm.refl (fun _ => False) _).alloc _) fun _ _ _ => id, (R3.out i u p hu hp).2⟩) hrow hfr (fun g hg' => by
                    cases hg'
                    rcases hg with h | h
                    · exact .inl h
                    · exact .inr (by first | omega | (simp at h ⊢; omega))) ((HPP.out.frm HF5.out fun _ _ _ => id).frm ((Frm.refl (fun _ => False) _).alloc _) fun _ _ _ => id) (fun g hg' => by obtain ⟨o', n', c', e'⟩ := hg'; cases e'; rfl))
                  clear hrow hfr hg
                  go_wp2
                  go_roundw
                  case rel => exact ⟨j + 1, a + S, by have := Hj.out; omega, HAS, by go_num, Lib.hid (by rw [Hps.out, Hin.out]; exact HP8.out), HF8⟩
                  case measure => simp [intOf]; omega
        · have hj' : j = 2 ^ v := by omega
          have ha : ¬ (a : Int) < (t.length : Int) := by
            have : a = t.length := by rw [HA.out, HtS.out, hj']
            omega
          have HX := Lib.hid (show partsV t n v (partsF t n v) j = partsF t n (v + 1) by rw [partsF_succ, hj'])
          clear hj'
          go_wp2
          go_roundw
          case rel => exact ⟨v + 1, by omega, by go_num, Lib.hid (by rw [← HX.out]; exact HP2.out), HF2⟩
          case measure => simp [intOf]; omega
    · obtain rfl : v = n := by omega
      have hvI : ¬ (v : Int) < (v : Int) := by omega
      obtain ⟨A5, c5, rfl⟩ := HP.out.slice
      go_wp2
      go_ret
      exact ⟨rfl, HF.out⟩
end LawW
end Go.Proofs.Ytjajpdmmoiiojaa
