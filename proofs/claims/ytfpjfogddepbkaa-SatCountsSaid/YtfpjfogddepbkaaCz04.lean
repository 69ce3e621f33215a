/- The heap of a solver, walked: down. -/
import Derived.Test.YtfpjfogddepbkaaCz03
import Derived.Test.YtfpjfogddepbkaaCz01
import Derived.Deep.MidRow
set_option linter.unusedSimpArgs false
set_option linter.unusedVariables false
namespace Go.Proofs.Ytfpjfogddepbkaa
open Go.RowKit Go.Mem Go.Sat
namespace SaW
section
variable {w : World} {R : Nat → Option Role} {p : Nat} {s s' : St}
set_option maxRecDepth 100000 in
set_option maxHeartbeats 1000000 in
theorem down_calls (h : SolverAt w R p s) (i : Int) (hs : downF s i = some s') (hroom : s.heap.length ≤ 1099511627776) : Calls Try.prog 80 #[.pointer (some ⟨p, 0, none⟩), .int .i64 i] w (SPost R w p (.tuple #[]) s') := by
  have h0 := h
  obtain ⟨ids, vv, hv, pv, lv, tv, mv, bm, kvs, H⟩ := h
  have HS := Lib.hid H
  obtain ⟨c0, c1, c2, c3, c4, c5, c6, c7, c8, c9, c10, c11⟩ := H.cells
  unfold downF at hs
  obtain ⟨x, hx, hs⟩ := Option.bind_eq_some_iff.1 hs
  obtain ⟨k, rfl, hk, hkl⟩ := nth_get hx
  obtain ⟨g, c, rfl, ho, hml, x0, z0⟩ := row_at H.heap hkl
  rw [Option.some.inj ((List.getElem?_eq_getElem hkl).symm.trans hk)] at x0
  have hkI : (k : Int) < (s.heap.length : Int) := by omega
  have hw1 : wrap64 (2 * (k : Int)) = 2 * (k : Int) := by unfold wrap64; omega
  have hw2 : wrap64 (2 * (k : Int) + 1) = 2 * (k : Int) + 1 := by unfold wrap64; omega
  have HU := Lib.hid hs
  have HS0 := Lib.hid h0
  have Hroom := Lib.hid hroom
  have Hkl := Lib.hid hkl
  clear H hs hx h0 hk HS hkl hroom
  go_enter Try.func80, Try.ntmps80
  go_wp2_with fail
  go_loopw [1, 5] (fun v1 v5 w' => ∃ m n : Nat, v1 = .int .i64 m ∧ v5 = .int .i64 n ∧ Hid (n = 2 * m + 1) ∧ ∃ f s1 R1, m < s1.heap.length ∧ Hid (s1.heap.length = s.heap.length) ∧ Hid (downL f s1 x m = some s') ∧ Hid (SolverAt w' R1 p s1) ∧ Hid (SMoves R w R1 w')) (fun v1 _ _ => s.heap.length - (intOf v1).toNat)
  case atStart => exact ⟨k, 2 * k + 1, rfl, by rw [hw2]; rfl, Lib.hid rfl, _, s, R, Hkl.out, Lib.hid rfl, HU, HS0, Lib.hid (SMov.of0 (Frm.refl _ _))⟩
  case round =>
    obtain ⟨m, n, rfl, rfl, Hn, f, s1, R1, hm, HLn, HU1, HS1, HM1⟩ := hrel
    clear HU HS0 c0 c1 c2 c3 c4 c5 c6 c7 c8 c9 c10 c11 x0 z0 hkI hw1 hw2 hml
    cases f with
    | zero => exact absurd HU1.out (by simp [downL])
    | succ f =>
    obtain ⟨ids, vv, hv, pv, lv, tv, mv, bm, kvs, H⟩ := HS1.out
    obtain ⟨_, c1, _⟩ := H.cells
    have HH := Lib.hid H
    have hl40 : s1.heap.length ≤ 1099511627776 := by have := HLn.out; have := Hroom.out; omega
    have hnI : 2 * (m : Int) + 1 = (n : Int) := by have := Hn.out; omega
    by_cases hin : n < s1.heap.length
    · have hinI : (n : Int) < (s1.heap.length : Int) := by omega
      have e := HU1.out
      rw [downL, hnI, if_pos hinI] at e
      split at e
      case h_1 => cases e
      rename_i qI hq
      split at e
      case h_1 => cases e
      rename_i y hy
      obtain ⟨q, rfl, hqy, hql⟩ := nth_get hy
      obtain ⟨g3, cc3, rfl, _, hml3, x3, _⟩ := row_at H.heap hql
      rw [Option.some.inj ((List.getElem?_eq_getElem hql).symm.trans hqy)] at x3
      have hqI : (q : Int) < (s1.heap.length : Int) := by omega
      obtain ⟨bb, hbb⟩ : ∃ bb, aheadF s1 y x = some bb := by
        cases hh : aheadF s1 y x with
        | none => rw [hh] at e; cases e
        | some bb => exact ⟨bb, rfl⟩
      have HT := Lib.hid (show cond bb ((layF s1 y m).bind fun s' => downL f s' x (q : Int)) (layF s1 x m) = some s' by rw [hbb] at e; cases bb <;> exact e)
      have HA2 := Lib.hid (fun w1 (hf : Frm (fun _ => False) wr w1) => ahead_calls (HS1.out.frm0 hf) y x bb hbb)
      have Hq := Lib.hid hql
      have HL40 := Lib.hid hl40
      have C1 := Lib.hid c1
      have X3 := Lib.hid x3
      have hwa : wrap64 ((n : Int) + 1) = (n : Int) + 1 := by unfold wrap64; omega
      have hwb : IntKind.i64.wrap ((n : Int) + 1) = (n : Int) + 1 := by first | exact hwa | (simp only [IntKind.wrap, IntKind.bits, IntKind.signed]; simp; omega)
      unfold lowF at hq
      by_cases hin2 : n + 1 < s1.heap.length
      · have hin2I : (n : Int) + 1 < (s1.heap.length : Int) := by omega
        rw [if_pos hin2I] at hq
        split at hq
        case h_2 => cases hq
        rename_i z1 z2 hz1 hz2
        obtain ⟨b1, hb1, hqb⟩ := Option.map_eq_some_iff.1 hq
        obtain ⟨n1, hn1, hz1', hl1⟩ := nth_get hz1
        obtain ⟨n2, hn2, hz2', hl2⟩ := nth_get hz2
        obtain rfl : n2 = n := by omega
        obtain rfl : n1 = n2 + 1 := by omega
        obtain ⟨g4, cc4, e4, _, _, y1, _⟩ := row_at H.heap hl1
        cases e4
        obtain ⟨g4, cc4, e4, _, _, y2, _⟩ := row_at H.heap hl2
        cases e4
        rw [Option.some.inj ((List.getElem?_eq_getElem hl1).symm.trans hz1')] at y1
        rw [Option.some.inj ((List.getElem?_eq_getElem hl2).symm.trans hz2')] at y2
        have HA1 := Lib.hid (fun w1 (hf : Frm (fun _ => False) wr w1) => ahead_calls (HS1.out.frm0 hf) z1 z2 b1 hb1)
        have hd2 := decide_eq_true hin2I
        have Hqb := Lib.hid hqb
        have HqI := Lib.hid hqI
        clear e hq hy hqy hql H HU1 hbb hin hin2 hml3 hnI hz1 hz2 hz1' hz2' hl1 hl2 hb1 hqb x3 hqI hn1 hn2
        go_wp2_with fail
        refine Plan.wp_region_plan [0, 1, 0, 4, 12, 28, 60, 127, 255, 511, 511, 1535, 3583, 7679, 511, 16895, 65023, 130559, 511, 262655, 786943, 1835519, 511, 8126975, 16515583, 33554431, 67108863] [.mk [0, 1, 2, 3, 4, 5, 6, 7, 8, 9, 10, 11, 12, 13, 14, 15, 16, 17, 18, 19, 20, 21, 22, 23, 24] 25 []] [26] (by kernel_rfl) (by kernel_rfl) ?_
        simp only [Plan.wayOf, Plan.pickAll, List.getElem?_cons_zero, List.getElem?_cons_succ, List.getD_eq_getElem?_getD, Option.getD_some]
        refine Plan.wpWay_seg ?_
        repeat go_big_quiet_step (fail)
        refine wpQuiet_nil ?_; refine Plan.wpWay_act ?_
        go_wp2_with fail
        refine (HA1.out _ (Frm.refl _ _).drew).mono ?_
        rintro e3 w2 ⟨rfl, hf⟩
        have HF2 := Lib.hid (show Frm (fun _ => False) wr w2 from frm_then (Frm.refl _ _).drew hf)
        clear hf
        go_wp2_with fail
        refine And.intro Plan.again_nil ?_
        refine Plan.wpWay_last ?_
        repeat go_big_quiet_step (fail)
        refine wpQuiet_nil ?_; refine NoPanic.normal ?_
        have c1 := frm_cell HF2.out C1.out
        have x3 := frm_cell HF2.out X3.out
        clear y1 y2
        cases b1 with
        | true =>
          obtain rfl : q = n2 + 1 := by have h : (n2 : Int) + 1 = q := Hqb.out; omega
          have Hqm := Lib.hid (show m < n2 + 1 by have := Hn.out; omega)
          have hqI := HqI.out
          go_wp2_with fail
          refine (HA2.out _ HF2.out).mono ?_
          rintro e3 w3 ⟨rfl, hf⟩
          have HF3 := Lib.hid (frm_then HF2.out hf)
          have HS3 := Lib.hid (HS1.out.frm0 HF3.out)
          have HM3 := Lib.hid (HM1.out.trans (SMov.of0 HF3.out))
          have c1 := frm_cell HF3.out C1.out
          have x3 := frm_cell HF3.out X3.out
          clear hf
          cases bb with
          | false =>
            have HE := Lib.hid (show layF s1 x m = some s' from HT.out)
            clear c1 x3
            go_wp2_with fail
            refine (lay_calls HS3.out x m HE.out).mono ?_
            rintro e4 w4 ⟨rfl, R4, HS4, HM4⟩
            have HM5 := Lib.hid (HM3.out.trans HM4)
            have HS5 := Lib.hid HS4
            clear HS4 HM4
            go_wp2
            go_end0
            exact ⟨rfl, R4, HS5.out, HM5.out⟩
          | true =>
            obtain ⟨s2, hl2, hu2⟩ := Option.bind_eq_some_iff.1 (show ((layF s1 y m).bind fun s' => downL f s' x ((n2 + 1 : Nat) : Int)) = some s' from HT.out)
            have HL2 := Lib.hid hl2
            have HU2 := Lib.hid hu2
            have hln2 := Lib.hid (show s2.heap.length = s1.heap.length from lay_len hl2)
            clear hl2 hu2
            go_wp2_with fail
            refine (lay_calls HS3.out y m HL2.out).mono ?_
            rintro e4 w4 ⟨rfl, R4, HS4, HM4⟩
            have HM5 := Lib.hid (HM3.out.trans HM4)
            have HS5 := Lib.hid HS4
            have hw5 : wrap64 (2 * ((n2 + 1 : Nat) : Int)) = 2 * ((n2 + 1 : Nat) : Int) := by have := Hq.out; have := HL40.out; unfold wrap64; omega
            have hw6 : wrap64 (2 * ((n2 + 1 : Nat) : Int) + 1) = 2 * ((n2 + 1 : Nat) : Int) + 1 := by have := Hq.out; have := HL40.out; unfold wrap64; omega
            clear HS4 HM4 c1 x3
            go_wp2
            go_roundw
            case rel => exact ⟨n2 + 1, 2 * (n2 + 1) + 1, by first | rfl | go_num, rfl, Lib.hid rfl, f, s2, R4, by rw [hln2.out]; exact Hq.out, Lib.hid (by rw [hln2.out]; exact HLn.out), HU2, HS5, HM5⟩
            case measure => have := Hq.out; have := HLn.out; have := Hqm.out; simp [intOf]; omega
        | false =>
          obtain rfl : q = n2 := by have h : (n2 : Int) = q := Hqb.out; omega
          have Hqm := Lib.hid (show m < q by have := Hn.out; omega)
          have hqI := HqI.out
          go_wp2_with fail
          refine (HA2.out _ HF2.out).mono ?_
          rintro e3 w3 ⟨rfl, hf⟩
          have HF3 := Lib.hid (frm_then HF2.out hf)
          have HS3 := Lib.hid (HS1.out.frm0 HF3.out)
          have HM3 := Lib.hid (HM1.out.trans (SMov.of0 HF3.out))
          have c1 := frm_cell HF3.out C1.out
          have x3 := frm_cell HF3.out X3.out
          clear hf
          cases bb with
          | false =>
            have HE := Lib.hid (show layF s1 x m = some s' from HT.out)
            clear c1 x3
            go_wp2_with fail
            refine (lay_calls HS3.out x m HE.out).mono ?_
            rintro e4 w4 ⟨rfl, R4, HS4, HM4⟩
            have HM5 := Lib.hid (HM3.out.trans HM4)
            have HS5 := Lib.hid HS4
            clear HS4 HM4
            go_wp2
            go_end0
            exact ⟨rfl, R4, HS5.out, HM5.out⟩
          | true =>
            obtain ⟨s2, hl2, hu2⟩ := Option.bind_eq_some_iff.1 (show ((layF s1 y m).bind fun s' => downL f s' x (q : Int)) = some s' from HT.out)
            have HL2 := Lib.hid hl2
            have HU2 := Lib.hid hu2
            have hln2 := Lib.hid (show s2.heap.length = s1.heap.length from lay_len hl2)
            clear hl2 hu2
            go_wp2_with fail
            refine (lay_calls HS3.out y m HL2.out).mono ?_
            rintro e4 w4 ⟨rfl, R4, HS4, HM4⟩
            have HM5 := Lib.hid (HM3.out.trans HM4)
            have HS5 := Lib.hid HS4
            have hw5 : wrap64 (2 * (q : Int)) = 2 * (q : Int) := by have := Hq.out; have := HL40.out; unfold wrap64; omega
            have hw6 : wrap64 (2 * (q : Int) + 1) = 2 * (q : Int) + 1 := by have := Hq.out; have := HL40.out; unfold wrap64; omega
            clear HS4 HM4 c1 x3
            go_wp2
            go_roundw
            case rel => exact ⟨q, 2 * q + 1, by first | rfl | go_num, rfl, Lib.hid rfl, f, s2, R4, by rw [hln2.out]; exact Hq.out, Lib.hid (by rw [hln2.out]; exact HLn.out), HU2, HS5, HM5⟩
            case measure => have := Hq.out; have := HLn.out; have := Hqm.out; simp [intOf]; omega
      · have hin2I : ¬ ((n : Int) + 1 < (s1.heap.length : Int)) := by omega
        rw [if_neg hin2I] at hq
        obtain rfl : q = n := by have := Option.some.inj hq; omega
        have Hqm := Lib.hid (show m < q by have := Hn.out; omega)
        have hd2 := decide_eq_false hin2I
        clear e hq hy hqy hql H HU1 hbb hin hin2 hml3 hnI c1 x3
        have c1 := C1.out
        have x3 := X3.out
        go_wp2_with fail
        go_quiet (fail)
        go_wp2_with fail
        have HF2 := Lib.hid (show Frm (fun _ => False) wr (wr.drewN nq) from (Frm.refl _ _).drewN _)
        refine (HA2.out _ HF2.out).mono ?_
        rintro e3 w3 ⟨rfl, hf⟩
        have HF3 := Lib.hid (frm_then HF2.out hf)
        have HS3 := Lib.hid (HS1.out.frm0 HF3.out)
        have HM3 := Lib.hid (HM1.out.trans (SMov.of0 HF3.out))
        have c1 := frm_cell HF3.out C1.out
        have x3 := frm_cell HF3.out X3.out
        clear hf
        cases bb with
        | false =>
          have HE := Lib.hid (show layF s1 x m = some s' from HT.out)
          clear c1 x3
          go_wp2_with fail
          refine (lay_calls HS3.out x m HE.out).mono ?_
          rintro e4 w4 ⟨rfl, R4, HS4, HM4⟩
          have HM5 := Lib.hid (HM3.out.trans HM4)
          have HS5 := Lib.hid HS4
          clear HS4 HM4
          go_wp2
          go_end0
          exact ⟨rfl, R4, HS5.out, HM5.out⟩
        | true =>
          obtain ⟨s2, hl2, hu2⟩ := Option.bind_eq_some_iff.1 (show ((layF s1 y m).bind fun s' => downL f s' x (q : Int)) = some s' from HT.out)
          have HL2 := Lib.hid hl2
          have HU2 := Lib.hid hu2
          have hln2 := Lib.hid (show s2.heap.length = s1.heap.length from lay_len hl2)
          clear hl2 hu2
          go_wp2_with fail
          refine (lay_calls HS3.out y m HL2.out).mono ?_
          rintro e4 w4 ⟨rfl, R4, HS4, HM4⟩
          have HM5 := Lib.hid (HM3.out.trans HM4)
          have HS5 := Lib.hid HS4
          have hw5 : wrap64 (2 * (q : Int)) = 2 * (q : Int) := by have := Hq.out; have := HL40.out; unfold wrap64; omega
          have hw6 : wrap64 (2 * (q : Int) + 1) = 2 * (q : Int) + 1 := by have := Hq.out; have := HL40.out; unfold wrap64; omega
          clear HS4 HM4 c1 x3
          go_wp2
          go_roundw
          case rel => exact ⟨q, 2 * q + 1, by first | rfl | go_num, rfl, Lib.hid rfl, f, s2, R4, by rw [hln2.out]; exact Hq.out, Lib.hid (by rw [hln2.out]; exact HLn.out), HU2, HS5, HM5⟩
          case measure => have := Hq.out; have := HLn.out; have := Hqm.out; simp [intOf]; omega
    · have hinI : ¬ ((n : Int) < (s1.heap.length : Int)) := by omega
      have e := HU1.out
      rw [downL, hnI, if_neg hinI] at e
      have HE := Lib.hid e
      obtain ⟨A, cc, rfl, _⟩ := sees_slice H.heap.sees
      clear e HU1 H hin
      go_wp2_with fail
      refine (lay_calls HS1.out x m HE.out).mono ?_
      rintro e4 w4 ⟨rfl, R4, HS4, HM4⟩
      have HM5 := Lib.hid (HM1.out.trans HM4)
      have HS5 := Lib.hid HS4
      clear HS4 HM4
      go_wp2
      go_end0
      exact ⟨rfl, R4, HS5.out, HM5.out⟩
end
end SaW
end Go.Proofs.Ytfpjfogddepbkaa
/- The heap of a solver, walked: pop. -/
namespace Go.Proofs.Ytfpjfogddepbkaa
open Go.RowKit Go.Mem Go.Sat
namespace SaW
/-- The first ones of a row. -/
theorem Row.first {α : Type} {w : World} {e : TypeId} {enc : α → Value} {g n c : Nat} {xs : List α} (h : Row w e enc (.slice (some ⟨g, 0, none⟩) n c) xs) {k : Nat} (hk : k ≤ xs.length) : Row w e enc (.slice (some ⟨g, 0, none⟩) k c) (xs.take k) := by
  obtain ⟨h1, ⟨h2, _⟩ | ⟨g', cap, cur, e1, hb, hg, hn, hm, hs, ht⟩⟩ := h
  · cases h2
  · cases e1
    refine ⟨by simp, .inr ⟨g, c, cur, ?_, Nat.zero_le _, hg, by simp; omega, hm, hs, ?_⟩⟩
    · rw [List.length_take, Nat.min_eq_left hk]
    · rw [List.length_take, Nat.min_eq_left hk, List.map_take, ← ht, List.take_take, Nat.mul_one, Nat.mul_one, Nat.min_eq_left hk]
section
variable {w : World} {R : Nat → Option Role} {p : Nat} {s s' : St}
theorem SRep.cut_heap {ids : List Nat} {vv pv lv tv mv : Value} {bm : Nat} {kvs : List (Int × Value)} {g c n k : Nat} (h : SRep w R p s ids vv (.slice (some ⟨g, 0, none⟩) n c) pv lv tv mv bm kvs) (hk : k ≤ s.heap.length) :
    SRep (w.setCell ⟨p, 1, none⟩ (.slice (some ⟨g, 0, none⟩) k c)) (upd R g .heap) p { s with heap := s.heap.take k } ids vv (.slice (some ⟨g, 0, none⟩) k c) pv lv tv mv bm kvs ∧ SMoves R w (upd R g .heap) (w.setCell ⟨p, 1, none⟩ (.slice (some ⟨g, 0, none⟩) k c)) := by
  have hr := h.rheap g rfl
  have hgp : g ≠ p := fun e => by subst e; rw [h.rme] at hr; cases hr
  have hf2 : Frm (fun b => R b = some .heap ∨ R b = some .me) w (w.setCell ⟨p, 1, none⟩ (.slice (some ⟨g, 0, none⟩) k c)) := (Frm.refl _ w).set (.inl (.inr h.rme)) _
  have hrow := Row.first h.heap hk
  refine ⟨h.new_heap hf2 (blk_set h.box 1 _ rfl) (own_set_ne hrow (by intro e; exact hgp (Option.some.inj e)) _) (fun g' e => (Option.some.inj e).symm) (.inr hr) (by have := h.lt g _ hr; simpa using this), ?_, fun b r hb => upd_old hb (.inr hr), fun b hb => .inl ?_⟩
  · exact hf2.mono fun b _ hb => by rcases hb with hb | hb; exact ⟨_, hb, .inl rfl⟩; exact ⟨_, hb, .inr (.inr rfl)⟩
  · unfold upd at hb
    split at hb
    · rename_i e
      subst e
      rw [hr]; exact fun e => by cases e
    · exact hb
set_option maxRecDepth 100000 in
set_option maxHeartbeats 1000000 in
theorem pop_calls0 (h : SolverAt w R p s) (v : Int) (hs : popF0 s = some (v, s')) (hroom : s.heap.length ≤ 1099511627776) : Calls Try.prog 65 #[.pointer (some ⟨p, 0, none⟩)] w (SPost R w p (.int .i64 v) s') := by
  obtain ⟨ids, vv, hv, pv, lv, tv, mv, bm, kvs, H⟩ := h
  have HS := Lib.hid H
  obtain ⟨c0, c1, c2, c3, c4, c5, c6, c7, c8, c9, c10, c11⟩ := H.cells
  unfold popF0 at hs
  split at hs
  case h_2 => cases hs
  rename_i v0 last hv0 hlast
  obtain ⟨pl, hpl, hs⟩ := Option.bind_eq_some_iff.1 hs
  obtain ⟨k, rfl, hkl, rfl⟩ := setN_get hpl
  obtain ⟨L, hL⟩ : ∃ L, s.heap.length = L + 1 := by
    cases hh : s.heap with
    | nil => rw [hh] at hv0; cases hv0
    | cons a l => exact ⟨l.length, rfl⟩
  have hx0 : s.heap[0]'(by omega) = (k : Int) := by
    rw [List.head?_eq_getElem?, List.getElem?_eq_getElem (by omega)] at hv0
    exact Option.some.inj hv0
  have hxL : s.heap[L]'(by omega) = last := by
    rw [List.getLast?_eq_getElem?, List.getElem?_eq_getElem (by omega)] at hlast
    simpa [hL] using Option.some.inj hlast
  obtain ⟨g, c, rfl, ho, hml, x0, _⟩ := row_at H.heap (k := 0) (by omega)
  obtain ⟨g1, c1', e1, _, _, xL, _⟩ := row_at H.heap (k := L) (by omega)
  cases e1
  obtain ⟨g', c', rfl, ho', hml', y0, z1⟩ := row_at H.place hkl
  rw [hx0] at x0
  rw [hxL] at xL
  rw [hL] at c1
  have hg'p : g' ≠ p := fun e => by have h1 := H.rplace g' rfl; rw [e, H.rme] at h1; cases h1
  have hkI : (k : Int) < (s.place.length : Int) := by omega
  have hzp : w.frozen? ⟨p, 1, none⟩ = false := blk_free H.box 1
  have hl40 : L + 1 ≤ 1099511627776 := by omega
  have hLI : ¬ ((L : Int) < 0) := by omega
  have hcap : L + 1 ≤ c := by
    rcases H.heap.shape with ⟨e, _⟩ | ⟨_, _, e, _, h1, _⟩
    · cases e
    · cases e; omega
  have HL := Lib.hid hL
  have HSs := Lib.hid hs
  have Hkl := Lib.hid hkl
  clear H hs hpl hv0 hlast hx0 hxL hL hroom hml hml' c0 c3 c4 c5 c6 c7 c8 c9 c10 c11
  go_enter Try.func65, Try.ntmps65
  go_wp2_with fail
  go_quiet (fail)
  go_wp2_with fail
  refine Plan.wp_region_plan [0, 0, 2, 6, 14, 0, 32, 96, 224, 480, 992, 2046, 4095, 8191, 16383] [.mk [0, 1, 2, 3, 4, 5, 6, 7, 8, 9, 10, 11, 12, 13] 14 []] [] (by kernel_rfl) (by kernel_rfl) ?_
  simp only [Plan.wayOf, Plan.pickAll, List.getElem?_cons_zero, List.getElem?_cons_succ, List.getD_eq_getElem?_getD, Option.getD_some]
  refine Plan.wpWay_seg ?_
  repeat go_big_quiet_step (fail)
  refine wpQuiet_nil ?_; refine Plan.wpWay_act ?_
  go_wp2_with (fail)
  refine And.intro Plan.again_nil ?_
  refine Plan.wpWay_last ?_
  refine wpQuiet_nil ?_; refine NoPanic.normal ?_
  have HF1 := Lib.hid (show Frm (fun _ => False) w (w.drewN (nq + 1)) from (Frm.refl _ _).drewN _)
  have k1 := (HS.out.frm0 HF1.out).cut_heap (k := L) (by have := HL.out; omega)
  obtain ⟨w1, hw1⟩ : ∃ w1, w1 = (w.drewN (nq + 1)).setCell ⟨p, 1, none⟩ (.slice (some ⟨g, 0, none⟩) L c) := ⟨_, rfl⟩
  rw [← hw1] at k1 ⊢
  have HR1 := Lib.hid k1.1
  have HM1 := Lib.hid ((SMov.of0 HF1.out).trans k1.2)
  have c1 := k1.1.cells.2.1
  have c2 := k1.1.cells.2.2.1
  obtain ⟨g2, cc2, e2, _, _, y0, z1⟩ := row_at k1.1.place Hkl.out
  cases e2
  clear k1 hw1 x0 xL hzp
  have k2 := HR1.out.in_place (w' := w1.setCell ⟨g', k, none⟩ (iI (-1))) ((Frm.refl _ _).set (.inl (HR1.out.rplace g' rfl)) _) (row_set HR1.out.place k Hkl.out (-1))
  have HR2 := Lib.hid k2
  have HM2 := Lib.hid (HM1.out.trans ⟨(Frm.refl _ w1).set (p := ⟨g', k, none⟩) (.inl ⟨_, HR1.out.rplace g' rfl, .inr (.inl rfl)⟩) (iI (-1)), fun _ _ h => h, fun _ h => .inl h⟩)
  have c1' := k2.cells.2.1
  have hdl : s.heap.dropLast = s.heap.take L := by rw [List.dropLast_eq_take, HL.out]; rfl
  rw [hdl] at HSs
  obtain ⟨w2, hw2⟩ : ∃ w2, w2 = w1.setCell ⟨g', k, none⟩ (iI (-1)) := ⟨_, rfl⟩
  clear k2
  rw [← hw2] at HR2 HM2 c1'
  by_cases hL0 : 0 < L
  · have hLI0 : (0 : Int) < (L : Int) := by omega
    have hs := HSs.out
    rw [if_neg (by have := HL.out; omega)] at hs
    obtain ⟨s1, hl1, hd1⟩ := Option.bind_eq_some_iff.1 hs
    obtain ⟨s2, hd2, hd3⟩ := Option.map_eq_some_iff.1 hd1
    have HLy := Lib.hid hl1
    have HD := Lib.hid hd2
    have HEq := Lib.hid hd3
    clear hs hl1 hd1 hd2 hd3 HSs hL0 hdl
    go_wp2_with fail
    rw [← hw2]
    refine (lay_calls ⟨_, _, _, _, _, _, _, _, _, HR2.out⟩ last 0 HLy.out).mono ?_
    rintro e4 w4 ⟨rfl, R4, HS4, HM4⟩
    have HM5 := Lib.hid (HM2.out.trans HM4)
    have HS5 := Lib.hid HS4
    have hlen := Lib.hid (show s1.heap.length ≤ 1099511627776 by have h1 := lay_len HLy.out; have h2 : (s.heap.take L).length ≤ L := List.length_take_le _ _; have h3 : s1.heap.length = (s.heap.take L).length := h1; omega)
    clear HS4 HM4 hw2
    go_wp2_with fail
    refine (down_calls HS5.out 0 HD.out hlen.out).mono ?_
    rintro e5 w5 ⟨rfl, R5, HS6, HM6⟩
    have HM7 := Lib.hid (HM5.out.trans HM6)
    have HS7 := Lib.hid HS6
    clear HS6 HM6
    go_wp2
    go_ret
    have h1 := HEq.out
    cases h1
    exact ⟨rfl, R5, HS7.out, HM7.out⟩
  · obtain rfl : L = 0 := by omega
    have hs := HSs.out
    rw [if_pos HL.out] at hs
    have h1 := Option.some.inj hs
    cases h1
    clear hs hL0 hdl HSs
    go_wp2
    rw [← hw2]
    go_ret
    exact ⟨rfl, _, ⟨_, _, _, _, _, _, _, _, _, HR2.out⟩, HM2.out⟩
end
end SaW
end Go.Proofs.Ytfpjfogddepbkaa
/- A row of a solver's put longer, or cut; its own numbers told. (By a program: genSaP.py.) -/
namespace Go.Proofs.Ytfpjfogddepbkaa
open Go.RowKit Go.Mem Go.Sat
namespace SaW
theorem none_of {w : World} {R : Nat → Option Role} {p : Nat} {s : St} {ids : List Nat} {vv hv pv lv tv mv : Value} {bm : Nat} {kvs : List (Int × Value)} (h : SRep w R p s ids vv hv pv lv tv mv bm kvs) {g : Nat} (hge : w.heap.size ≤ g) : R g = none := by
  cases hr : R g with
  | none => rfl
  | some r => have := h.lt g r hr; omega
section
variable {w w' w7 : World} {R : Nat → Option Role} {p : Nat} {s : St} {ids : List Nat} {vv hv pv lv tv mv : Value} {bm : Nat} {kvs : List (Int × Value)}
theorem SRep.push_vars {g c n : Nat} {x : Fact} (h : SRep w R p s ids vv hv pv lv tv mv bm kvs) (hrow : SRow w7 73 (encF ids) (.slice (some ⟨g, 0, none⟩) n c) (s.vars ++ [x])) (hf : Frm (fun b => vv.ownBlock = some b) w w7) (hg' : vv.ownBlock = some g ∨ w.heap.size ≤ g) (hlt : g < w7.heap.size) (hx : x.reason = none) :
    SRep (w7.setCell ⟨p, 0, none⟩ (.slice (some ⟨g, 0, none⟩) n c)) (upd R g .vars) p { s with vars := s.vars ++ [x] } ids (.slice (some ⟨g, 0, none⟩) n c) hv pv lv tv mv bm kvs ∧ SMov (fun r => r = .vars ∨ r = .me) R w (upd R g .vars) (w7.setCell ⟨p, 0, none⟩ (.slice (some ⟨g, 0, none⟩) n c)) := by
  have hg : vv.ownBlock = some g ∨ R g = none := hg'.imp id (none_of h)
  have hp : ¬ vv.ownBlock = some p := fun e => by have h1 := h.rvars p e; rw [h.rme] at h1; cases h1
  have hgp : g ≠ p := fun e => by
    subst e
    rcases hg with h1 | h1
    · exact hp h1
    · rw [h.rme] at h1; cases h1
  have hbox := blk_frm h.box hf hp
  have hlt2 : g < (w7.setCell ⟨p, 0, none⟩ (.slice (some ⟨g, 0, none⟩) n c)).heap.size := by simpa using hlt
  have hf2 : Frm (fun b => R b = some .vars ∨ R b = some .me) w (w7.setCell ⟨p, 0, none⟩ (.slice (some ⟨g, 0, none⟩) n c)) := (hf.mono fun b _ hb => .inl (h.rvars b hb)).set (.inl (.inr h.rme)) _
  refine ⟨h.new_vars hf2 (blk_set hbox 0 _ rfl) (own_set_ne hrow (by intro e; exact hgp (Option.some.inj e)) _) (fun g' e => (Option.some.inj e).symm) (hg.elim (fun h1 => .inr (h.rvars g h1)) .inl) hlt2 (fun y hy c hc => by rcases List.mem_append.1 hy with hy | hy; exact h.refs.1 y hy c hc; rw [List.mem_singleton.1 hy, hx] at hc; cases hc), ?_, fun b r hb => upd_old hb (hg.elim (fun h1 => .inr (h.rvars g h1)) .inl), fun b hb => ?_⟩
  · exact hf2.mono fun b _ hb => by rcases hb with hb | hb; exact ⟨_, hb, .inl rfl⟩; exact ⟨_, hb, .inr rfl⟩
  · unfold upd at hb
    split at hb
    · rename_i e
      subst e
      exact hg'.imp (fun h1 => by rw [h.rvars b h1]; exact fun e => by cases e) id
    · exact .inl hb
theorem SRep.push_place {g c n : Nat} {x : Int} (h : SRep w R p s ids vv hv pv lv tv mv bm kvs) (hrow : Row w7 3 iI (.slice (some ⟨g, 0, none⟩) n c) (s.place ++ [x])) (hf : Frm (fun b => pv.ownBlock = some b) w w7) (hg' : pv.ownBlock = some g ∨ w.heap.size ≤ g) (hlt : g < w7.heap.size) :
    SRep (w7.setCell ⟨p, 2, none⟩ (.slice (some ⟨g, 0, none⟩) n c)) (upd R g .place) p { s with place := s.place ++ [x] } ids vv hv (.slice (some ⟨g, 0, none⟩) n c) lv tv mv bm kvs ∧ SMov (fun r => r = .place ∨ r = .me) R w (upd R g .place) (w7.setCell ⟨p, 2, none⟩ (.slice (some ⟨g, 0, none⟩) n c)) := by
  have hg : pv.ownBlock = some g ∨ R g = none := hg'.imp id (none_of h)
  have hp : ¬ pv.ownBlock = some p := fun e => by have h1 := h.rplace p e; rw [h.rme] at h1; cases h1
  have hgp : g ≠ p := fun e => by
    subst e
    rcases hg with h1 | h1
    · exact hp h1
    · rw [h.rme] at h1; cases h1
  have hbox := blk_frm h.box hf hp
  have hlt2 : g < (w7.setCell ⟨p, 2, none⟩ (.slice (some ⟨g, 0, none⟩) n c)).heap.size := by simpa using hlt
  have hf2 : Frm (fun b => R b = some .place ∨ R b = some .me) w (w7.setCell ⟨p, 2, none⟩ (.slice (some ⟨g, 0, none⟩) n c)) := (hf.mono fun b _ hb => .inl (h.rplace b hb)).set (.inl (.inr h.rme)) _
  refine ⟨h.new_place hf2 (blk_set hbox 2 _ rfl) (own_set_ne hrow (by intro e; exact hgp (Option.some.inj e)) _) (fun g' e => (Option.some.inj e).symm) (hg.elim (fun h1 => .inr (h.rplace g h1)) .inl) hlt2, ?_, fun b r hb => upd_old hb (hg.elim (fun h1 => .inr (h.rplace g h1)) .inl), fun b hb => ?_⟩
  · exact hf2.mono fun b _ hb => by rcases hb with hb | hb; exact ⟨_, hb, .inl rfl⟩; exact ⟨_, hb, .inr rfl⟩
  · unfold upd at hb
    split at hb
    · rename_i e
      subst e
      exact hg'.imp (fun h1 => by rw [h.rplace b h1]; exact fun e => by cases e) id
    · exact .inl hb
theorem SRep.push_learnt {g c n : Nat} {x : Nat} (h : SRep w R p s ids vv hv pv lv tv mv bm kvs) (hrow : Row w7 58 (encC ids) (.slice (some ⟨g, 0, none⟩) n c) (s.learnt ++ [x])) (hf : Frm (fun b => lv.ownBlock = some b) w w7) (hg' : lv.ownBlock = some g ∨ w.heap.size ≤ g) (hlt : g < w7.heap.size) (hx : x < s.cls.length) :
    SRep (w7.setCell ⟨p, 4, none⟩ (.slice (some ⟨g, 0, none⟩) n c)) (upd R g .learnt) p { s with learnt := s.learnt ++ [x] } ids vv hv pv (.slice (some ⟨g, 0, none⟩) n c) tv mv bm kvs ∧ SMov (fun r => r = .learnt ∨ r = .me) R w (upd R g .learnt) (w7.setCell ⟨p, 4, none⟩ (.slice (some ⟨g, 0, none⟩) n c)) := by
  have hg : lv.ownBlock = some g ∨ R g = none := hg'.imp id (none_of h)
  have hp : ¬ lv.ownBlock = some p := fun e => by have h1 := h.rlearnt p e; rw [h.rme] at h1; cases h1
  have hgp : g ≠ p := fun e => by
    subst e
    rcases hg with h1 | h1
    · exact hp h1
    · rw [h.rme] at h1; cases h1
  have hbox := blk_frm h.box hf hp
  have hlt2 : g < (w7.setCell ⟨p, 4, none⟩ (.slice (some ⟨g, 0, none⟩) n c)).heap.size := by simpa using hlt
  have hf2 : Frm (fun b => R b = some .learnt ∨ R b = some .me) w (w7.setCell ⟨p, 4, none⟩ (.slice (some ⟨g, 0, none⟩) n c)) := (hf.mono fun b _ hb => .inl (h.rlearnt b hb)).set (.inl (.inr h.rme)) _
  refine ⟨h.new_learnt hf2 (blk_set hbox 4 _ rfl) (own_set_ne hrow (by intro e; exact hgp (Option.some.inj e)) _) (fun g' e => (Option.some.inj e).symm) (hg.elim (fun h1 => .inr (h.rlearnt g h1)) .inl) hlt2 (fun y hy => by rcases List.mem_append.1 hy with hy | hy; exact h.refs.2.2 y hy; rw [List.mem_singleton.1 hy]; exact hx), ?_, fun b r hb => upd_old hb (hg.elim (fun h1 => .inr (h.rlearnt g h1)) .inl), fun b hb => ?_⟩
  · exact hf2.mono fun b _ hb => by rcases hb with hb | hb; exact ⟨_, hb, .inl rfl⟩; exact ⟨_, hb, .inr rfl⟩
  · unfold upd at hb
    split at hb
    · rename_i e
      subst e
      exact hg'.imp (fun h1 => by rw [h.rlearnt b h1]; exact fun e => by cases e) id
    · exact .inl hb
theorem SRep.push_trail {g c n : Nat} {x : Int} (h : SRep w R p s ids vv hv pv lv tv mv bm kvs) (hrow : Row w7 3 iI (.slice (some ⟨g, 0, none⟩) n c) (s.trail ++ [x])) (hf : Frm (fun b => tv.ownBlock = some b) w w7) (hg' : tv.ownBlock = some g ∨ w.heap.size ≤ g) (hlt : g < w7.heap.size) :
    SRep (w7.setCell ⟨p, 5, none⟩ (.slice (some ⟨g, 0, none⟩) n c)) (upd R g .trail) p { s with trail := s.trail ++ [x] } ids vv hv pv lv (.slice (some ⟨g, 0, none⟩) n c) mv bm kvs ∧ SMov (fun r => r = .trail ∨ r = .me) R w (upd R g .trail) (w7.setCell ⟨p, 5, none⟩ (.slice (some ⟨g, 0, none⟩) n c)) := by
  have hg : tv.ownBlock = some g ∨ R g = none := hg'.imp id (none_of h)
  have hp : ¬ tv.ownBlock = some p := fun e => by have h1 := h.rtrail p e; rw [h.rme] at h1; cases h1
  have hgp : g ≠ p := fun e => by
    subst e
    rcases hg with h1 | h1
    · exact hp h1
    · rw [h.rme] at h1; cases h1
  have hbox := blk_frm h.box hf hp
  have hlt2 : g < (w7.setCell ⟨p, 5, none⟩ (.slice (some ⟨g, 0, none⟩) n c)).heap.size := by simpa using hlt
  have hf2 : Frm (fun b => R b = some .trail ∨ R b = some .me) w (w7.setCell ⟨p, 5, none⟩ (.slice (some ⟨g, 0, none⟩) n c)) := (hf.mono fun b _ hb => .inl (h.rtrail b hb)).set (.inl (.inr h.rme)) _
  refine ⟨h.new_trail hf2 (blk_set hbox 5 _ rfl) (own_set_ne hrow (by intro e; exact hgp (Option.some.inj e)) _) (fun g' e => (Option.some.inj e).symm) (hg.elim (fun h1 => .inr (h.rtrail g h1)) .inl) hlt2, ?_, fun b r hb => upd_old hb (hg.elim (fun h1 => .inr (h.rtrail g h1)) .inl), fun b hb => ?_⟩
  · exact hf2.mono fun b _ hb => by rcases hb with hb | hb; exact ⟨_, hb, .inl rfl⟩; exact ⟨_, hb, .inr rfl⟩
  · unfold upd at hb
    split at hb
    · rename_i e
      subst e
      exact hg'.imp (fun h1 => by rw [h.rtrail b h1]; exact fun e => by cases e) id
    · exact .inl hb
theorem SRep.push_limits {g c n : Nat} {x : Int} (h : SRep w R p s ids vv hv pv lv tv mv bm kvs) (hrow : Row w7 3 iI (.slice (some ⟨g, 0, none⟩) n c) (s.limits ++ [x])) (hf : Frm (fun b => mv.ownBlock = some b) w w7) (hg' : mv.ownBlock = some g ∨ w.heap.size ≤ g) (hlt : g < w7.heap.size) :
    SRep (w7.setCell ⟨p, 6, none⟩ (.slice (some ⟨g, 0, none⟩) n c)) (upd R g .limits) p { s with limits := s.limits ++ [x] } ids vv hv pv lv tv (.slice (some ⟨g, 0, none⟩) n c) bm kvs ∧ SMov (fun r => r = .limits ∨ r = .me) R w (upd R g .limits) (w7.setCell ⟨p, 6, none⟩ (.slice (some ⟨g, 0, none⟩) n c)) := by
  have hg : mv.ownBlock = some g ∨ R g = none := hg'.imp id (none_of h)
  have hp : ¬ mv.ownBlock = some p := fun e => by have h1 := h.rlimits p e; rw [h.rme] at h1; cases h1
  have hgp : g ≠ p := fun e => by
    subst e
    rcases hg with h1 | h1
    · exact hp h1
    · rw [h.rme] at h1; cases h1
  have hbox := blk_frm h.box hf hp
  have hlt2 : g < (w7.setCell ⟨p, 6, none⟩ (.slice (some ⟨g, 0, none⟩) n c)).heap.size := by simpa using hlt
  have hf2 : Frm (fun b => R b = some .limits ∨ R b = some .me) w (w7.setCell ⟨p, 6, none⟩ (.slice (some ⟨g, 0, none⟩) n c)) := (hf.mono fun b _ hb => .inl (h.rlimits b hb)).set (.inl (.inr h.rme)) _
  refine ⟨h.new_limits hf2 (blk_set hbox 6 _ rfl) (own_set_ne hrow (by intro e; exact hgp (Option.some.inj e)) _) (fun g' e => (Option.some.inj e).symm) (hg.elim (fun h1 => .inr (h.rlimits g h1)) .inl) hlt2, ?_, fun b r hb => upd_old hb (hg.elim (fun h1 => .inr (h.rlimits g h1)) .inl), fun b hb => ?_⟩
  · exact hf2.mono fun b _ hb => by rcases hb with hb | hb; exact ⟨_, hb, .inl rfl⟩; exact ⟨_, hb, .inr rfl⟩
  · unfold upd at hb
    split at hb
    · rename_i e
      subst e
      exact hg'.imp (fun h1 => by rw [h.rlimits b h1]; exact fun e => by cases e) id
    · exact .inl hb
theorem SRep.cut_trail {g c n k : Nat} (h : SRep w R p s ids vv hv pv lv (.slice (some ⟨g, 0, none⟩) n c) mv bm kvs) (hk : k ≤ s.trail.length) :
    SRep (w.setCell ⟨p, 5, none⟩ (.slice (some ⟨g, 0, none⟩) k c)) (upd R g .trail) p { s with trail := s.trail.take k } ids vv hv pv lv (.slice (some ⟨g, 0, none⟩) k c) mv bm kvs ∧ SMov (fun r => r = .trail ∨ r = .me) R w (upd R g .trail) (w.setCell ⟨p, 5, none⟩ (.slice (some ⟨g, 0, none⟩) k c)) := by
  have hr := h.rtrail g rfl
  have hgp : g ≠ p := fun e => by subst e; rw [h.rme] at hr; cases hr
  have hf2 : Frm (fun b => R b = some .trail ∨ R b = some .me) w (w.setCell ⟨p, 5, none⟩ (.slice (some ⟨g, 0, none⟩) k c)) := (Frm.refl _ w).set (.inl (.inr h.rme)) _
  have hrow := Row.first h.trail hk
  refine ⟨h.new_trail hf2 (blk_set h.box 5 _ rfl) (own_set_ne hrow (by intro e; exact hgp (Option.some.inj e)) _) (fun g' e => (Option.some.inj e).symm) (.inr hr) (by have := h.lt g _ hr; simpa using this), ?_, fun b r hb => upd_old hb (.inr hr), fun b hb => .inl ?_⟩
  · exact hf2.mono fun b _ hb => by rcases hb with hb | hb; exact ⟨_, hb, .inl rfl⟩; exact ⟨_, hb, .inr rfl⟩
  · unfold upd at hb
    split at hb
    · rename_i e
      subst e
      rw [hr]; exact fun e => by cases e
    · exact hb
theorem SRep.cut_limits {g c n k : Nat} (h : SRep w R p s ids vv hv pv lv tv (.slice (some ⟨g, 0, none⟩) n c) bm kvs) (hk : k ≤ s.limits.length) :
    SRep (w.setCell ⟨p, 6, none⟩ (.slice (some ⟨g, 0, none⟩) k c)) (upd R g .limits) p { s with limits := s.limits.take k } ids vv hv pv lv tv (.slice (some ⟨g, 0, none⟩) k c) bm kvs ∧ SMov (fun r => r = .limits ∨ r = .me) R w (upd R g .limits) (w.setCell ⟨p, 6, none⟩ (.slice (some ⟨g, 0, none⟩) k c)) := by
  have hr := h.rlimits g rfl
  have hgp : g ≠ p := fun e => by subst e; rw [h.rme] at hr; cases hr
  have hf2 : Frm (fun b => R b = some .limits ∨ R b = some .me) w (w.setCell ⟨p, 6, none⟩ (.slice (some ⟨g, 0, none⟩) k c)) := (Frm.refl _ w).set (.inl (.inr h.rme)) _
  have hrow := Row.first h.limits hk
  refine ⟨h.new_limits hf2 (blk_set h.box 6 _ rfl) (own_set_ne hrow (by intro e; exact hgp (Option.some.inj e)) _) (fun g' e => (Option.some.inj e).symm) (.inr hr) (by have := h.lt g _ hr; simpa using this), ?_, fun b r hb => upd_old hb (.inr hr), fun b hb => .inl ?_⟩
  · exact hf2.mono fun b _ hb => by rcases hb with hb | hb; exact ⟨_, hb, .inl rfl⟩; exact ⟨_, hb, .inr rfl⟩
  · unfold upd at hb
    split at hb
    · rename_i e
      subst e
      rw [hr]; exact fun e => by cases e
    · exact hb
theorem SRep.tell_head (h : SRep w R p s ids vv hv pv lv tv mv bm kvs) (x : Int) : SRep (w.setCell ⟨p, 7, none⟩ (.int .i64 x)) R p { s with head := x } ids vv hv pv lv tv mv bm kvs ∧ SMov (fun r => r = .me) R w R (w.setCell ⟨p, 7, none⟩ (.int .i64 x)) := by
  have hf : Frm (fun b => R b = some .me) w (w.setCell ⟨p, 7, none⟩ (.int .i64 x)) := (Frm.refl _ w).set (.inl h.rme) _
  refine ⟨⟨blk_set h.box 7 _ rfl, h.vars.frm hf fun g hg => (not_role (h.rvars g hg) (by intro e; cases e)),
    h.heap.frm hf fun g hg => (not_role (h.rheap g hg) (by intro e; cases e)),
    h.place.frm hf fun g hg => (not_role (h.rplace g hg) (by intro e; cases e)),
    h.learnt.frm hf fun g hg => (not_role (h.rlearnt g hg) (by intro e; cases e)),
    h.trail.frm hf fun g hg => (not_role (h.rtrail g hg) (by intro e; cases e)),
    h.limits.frm hf fun g hg => (not_role (h.rlimits g hg) (by intro e; cases e)),
    h.map.frm hf (not_role (h.rmap) (by intro e; cases e)), h.keys,
    fun i n v l h1 h2 => ⟨(h.rows i n v l h1 h2).1.frm hf fun g hg => (not_role ((h.rows i n v l h1 h2).2 g hg) (by intro e; cases e)), (h.rows i n v l h1 h2).2⟩,
    h.idl, fun c x hx => (by obtain ⟨b, v, h1, h2, h3, h4, h5⟩ := h.cls c x hx; exact ⟨b, v, h1, h2, blk_frm h3 hf (not_role (h2) (by intro e; cases e)), h4.frm hf fun g hg => (not_role (h5 g hg) (by intro e; cases e)), h5⟩),
    h.rme, h.rvars, h.rheap, h.rplace, h.rlearnt, h.rtrail, h.rlimits, h.rmap, fun b r hb => Nat.lt_of_lt_of_le (h.lt b r hb) hf.size, h.refs, h.wnd, h.onec⟩, ⟨hf.mono fun b _ hb => ⟨_, hb, rfl⟩, fun _ _ h => h, fun _ h => .inl h⟩⟩
theorem SRep.tell_conflicts (h : SRep w R p s ids vv hv pv lv tv mv bm kvs) (x : Int) : SRep (w.setCell ⟨p, 8, none⟩ (.int .i64 x)) R p { s with conflicts := x } ids vv hv pv lv tv mv bm kvs ∧ SMov (fun r => r = .me) R w R (w.setCell ⟨p, 8, none⟩ (.int .i64 x)) := by
  have hf : Frm (fun b => R b = some .me) w (w.setCell ⟨p, 8, none⟩ (.int .i64 x)) := (Frm.refl _ w).set (.inl h.rme) _
  refine ⟨⟨blk_set h.box 8 _ rfl, h.vars.frm hf fun g hg => (not_role (h.rvars g hg) (by intro e; cases e)),
    h.heap.frm hf fun g hg => (not_role (h.rheap g hg) (by intro e; cases e)),
    h.place.frm hf fun g hg => (not_role (h.rplace g hg) (by intro e; cases e)),
    h.learnt.frm hf fun g hg => (not_role (h.rlearnt g hg) (by intro e; cases e)),
    h.trail.frm hf fun g hg => (not_role (h.rtrail g hg) (by intro e; cases e)),
    h.limits.frm hf fun g hg => (not_role (h.rlimits g hg) (by intro e; cases e)),
    h.map.frm hf (not_role (h.rmap) (by intro e; cases e)), h.keys,
    fun i n v l h1 h2 => ⟨(h.rows i n v l h1 h2).1.frm hf fun g hg => (not_role ((h.rows i n v l h1 h2).2 g hg) (by intro e; cases e)), (h.rows i n v l h1 h2).2⟩,
    h.idl, fun c x hx => (by obtain ⟨b, v, h1, h2, h3, h4, h5⟩ := h.cls c x hx; exact ⟨b, v, h1, h2, blk_frm h3 hf (not_role (h2) (by intro e; cases e)), h4.frm hf fun g hg => (not_role (h5 g hg) (by intro e; cases e)), h5⟩),
    h.rme, h.rvars, h.rheap, h.rplace, h.rlearnt, h.rtrail, h.rlimits, h.rmap, fun b r hb => Nat.lt_of_lt_of_le (h.lt b r hb) hf.size, h.refs, h.wnd, h.onec⟩, ⟨hf.mono fun b _ hb => ⟨_, hb, rfl⟩, fun _ _ h => h, fun _ h => .inl h⟩⟩
theorem SRep.tell_added (h : SRep w R p s ids vv hv pv lv tv mv bm kvs) (x : Int) : SRep (w.setCell ⟨p, 9, none⟩ (.int .i64 x)) R p { s with added := x } ids vv hv pv lv tv mv bm kvs ∧ SMov (fun r => r = .me) R w R (w.setCell ⟨p, 9, none⟩ (.int .i64 x)) := by
  have hf : Frm (fun b => R b = some .me) w (w.setCell ⟨p, 9, none⟩ (.int .i64 x)) := (Frm.refl _ w).set (.inl h.rme) _
  refine ⟨⟨blk_set h.box 9 _ rfl, h.vars.frm hf fun g hg => (not_role (h.rvars g hg) (by intro e; cases e)),
    h.heap.frm hf fun g hg => (not_role (h.rheap g hg) (by intro e; cases e)),
    h.place.frm hf fun g hg => (not_role (h.rplace g hg) (by intro e; cases e)),
    h.learnt.frm hf fun g hg => (not_role (h.rlearnt g hg) (by intro e; cases e)),
    h.trail.frm hf fun g hg => (not_role (h.rtrail g hg) (by intro e; cases e)),
    h.limits.frm hf fun g hg => (not_role (h.rlimits g hg) (by intro e; cases e)),
    h.map.frm hf (not_role (h.rmap) (by intro e; cases e)), h.keys,
    fun i n v l h1 h2 => ⟨(h.rows i n v l h1 h2).1.frm hf fun g hg => (not_role ((h.rows i n v l h1 h2).2 g hg) (by intro e; cases e)), (h.rows i n v l h1 h2).2⟩,
    h.idl, fun c x hx => (by obtain ⟨b, v, h1, h2, h3, h4, h5⟩ := h.cls c x hx; exact ⟨b, v, h1, h2, blk_frm h3 hf (not_role (h2) (by intro e; cases e)), h4.frm hf fun g hg => (not_role (h5 g hg) (by intro e; cases e)), h5⟩),
    h.rme, h.rvars, h.rheap, h.rplace, h.rlearnt, h.rtrail, h.rlimits, h.rmap, fun b r hb => Nat.lt_of_lt_of_le (h.lt b r hb) hf.size, h.refs, h.wnd, h.onec⟩, ⟨hf.mono fun b _ hb => ⟨_, hb, rfl⟩, fun _ _ h => h, fun _ h => .inl h⟩⟩
theorem SRep.tell_bump (h : SRep w R p s ids vv hv pv lv tv mv bm kvs) (x : Int) : SRep (w.setCell ⟨p, 10, none⟩ (.int .i64 x)) R p { s with bump := x } ids vv hv pv lv tv mv bm kvs ∧ SMov (fun r => r = .me) R w R (w.setCell ⟨p, 10, none⟩ (.int .i64 x)) := by
  have hf : Frm (fun b => R b = some .me) w (w.setCell ⟨p, 10, none⟩ (.int .i64 x)) := (Frm.refl _ w).set (.inl h.rme) _
  refine ⟨⟨blk_set h.box 10 _ rfl, h.vars.frm hf fun g hg => (not_role (h.rvars g hg) (by intro e; cases e)),
    h.heap.frm hf fun g hg => (not_role (h.rheap g hg) (by intro e; cases e)),
    h.place.frm hf fun g hg => (not_role (h.rplace g hg) (by intro e; cases e)),
    h.learnt.frm hf fun g hg => (not_role (h.rlearnt g hg) (by intro e; cases e)),
    h.trail.frm hf fun g hg => (not_role (h.rtrail g hg) (by intro e; cases e)),
    h.limits.frm hf fun g hg => (not_role (h.rlimits g hg) (by intro e; cases e)),
    h.map.frm hf (not_role (h.rmap) (by intro e; cases e)), h.keys,
    fun i n v l h1 h2 => ⟨(h.rows i n v l h1 h2).1.frm hf fun g hg => (not_role ((h.rows i n v l h1 h2).2 g hg) (by intro e; cases e)), (h.rows i n v l h1 h2).2⟩,
    h.idl, fun c x hx => (by obtain ⟨b, v, h1, h2, h3, h4, h5⟩ := h.cls c x hx; exact ⟨b, v, h1, h2, blk_frm h3 hf (not_role (h2) (by intro e; cases e)), h4.frm hf fun g hg => (not_role (h5 g hg) (by intro e; cases e)), h5⟩),
    h.rme, h.rvars, h.rheap, h.rplace, h.rlearnt, h.rtrail, h.rlimits, h.rmap, fun b r hb => Nat.lt_of_lt_of_le (h.lt b r hb) hf.size, h.refs, h.wnd, h.onec⟩, ⟨hf.mono fun b _ hb => ⟨_, hb, rfl⟩, fun _ _ h => h, fun _ h => .inl h⟩⟩
theorem SRep.tell_broken (h : SRep w R p s ids vv hv pv lv tv mv bm kvs) (x : Bool) : SRep (w.setCell ⟨p, 11, none⟩ (.bool x)) R p { s with broken := x } ids vv hv pv lv tv mv bm kvs ∧ SMov (fun r => r = .me) R w R (w.setCell ⟨p, 11, none⟩ (.bool x)) := by
  have hf : Frm (fun b => R b = some .me) w (w.setCell ⟨p, 11, none⟩ (.bool x)) := (Frm.refl _ w).set (.inl h.rme) _
  refine ⟨⟨blk_set h.box 11 _ rfl, h.vars.frm hf fun g hg => (not_role (h.rvars g hg) (by intro e; cases e)),
    h.heap.frm hf fun g hg => (not_role (h.rheap g hg) (by intro e; cases e)),
    h.place.frm hf fun g hg => (not_role (h.rplace g hg) (by intro e; cases e)),
    h.learnt.frm hf fun g hg => (not_role (h.rlearnt g hg) (by intro e; cases e)),
    h.trail.frm hf fun g hg => (not_role (h.rtrail g hg) (by intro e; cases e)),
    h.limits.frm hf fun g hg => (not_role (h.rlimits g hg) (by intro e; cases e)),
    h.map.frm hf (not_role (h.rmap) (by intro e; cases e)), h.keys,
    fun i n v l h1 h2 => ⟨(h.rows i n v l h1 h2).1.frm hf fun g hg => (not_role ((h.rows i n v l h1 h2).2 g hg) (by intro e; cases e)), (h.rows i n v l h1 h2).2⟩,
    h.idl, fun c x hx => (by obtain ⟨b, v, h1, h2, h3, h4, h5⟩ := h.cls c x hx; exact ⟨b, v, h1, h2, blk_frm h3 hf (not_role (h2) (by intro e; cases e)), h4.frm hf fun g hg => (not_role (h5 g hg) (by intro e; cases e)), h5⟩),
    h.rme, h.rvars, h.rheap, h.rplace, h.rlearnt, h.rtrail, h.rlimits, h.rmap, fun b r hb => Nat.lt_of_lt_of_le (h.lt b r hb) hf.size, h.refs, h.wnd, h.onec⟩, ⟨hf.mono fun b _ hb => ⟨_, hb, rfl⟩, fun _ _ h => h, fun _ h => .inl h⟩⟩
end
end SaW
end Go.Proofs.Ytfpjfogddepbkaa
/- Rows of structs: one cell of one element written. -/
namespace Go.Mem
open Go.RowKit
section
variable {α : Type} {k : Nat}
theorem flat_set (E : Enc α k) {x x' : α} {j : Nat} {u : Value} (hj : j < k) (hu : E.cells x' = (E.cells x).set j u) : ∀ (l : List α) (i : Nat), l[i]? = some x → (l.set i x').flatMap E.cells = (l.flatMap E.cells).set (i * k + j) u
  | [], i, h => by simp at h
  | y :: l, 0, h => by
    simp only [List.getElem?_cons_zero, Option.some.injEq] at h
    subst h
    simp only [List.set_cons_zero, List.flatMap_cons, hu, Nat.zero_mul, Nat.zero_add]
    rw [List.set_append_left _ _ (by rw [E.len]; exact hj)]
  | y :: l, i + 1, h => by
    have ih := flat_set E hj hu l i (by simpa using h)
    simp only [List.set_cons_succ, List.flatMap_cons, ih]
    rw [List.set_append_right _ _ (by rw [E.len, Nat.succ_mul]; omega), E.len, show (i + 1) * k + j - k = i * k + j by rw [Nat.succ_mul]; omega]
theorem srow_cell {w : World} {e : TypeId} {E : Enc α k} {g n c i j : Nat} {xs : List α} {x x' : α} {u : Value} (h : SRow w e E (.slice (some ⟨g, 0, none⟩) n c) xs) (hx : xs[i]? = some x) (hj : j < k) (hu : E.cells x' = (E.cells x).set j u) :
    SRow (w.setCell ⟨g, i * k + j, none⟩ u) e E (.slice (some ⟨g, 0, none⟩) n c) (xs.set i x') := by
  have hi := (List.getElem?_eq_some_iff.1 hx).1
  have hfl := flat_set E hj hu xs i hx
  obtain ⟨h1, ⟨h2, _⟩ | ⟨g', cap, cur, e1, hb, hg, hn, hm, hs, ht⟩⟩ := h
  · cases h2
  · cases e1
    refine ⟨?_, .inr ⟨g, c, cur.setIfInBounds (i * k + j) u, by simp, Nat.zero_le _, blk_set hg _ _ rfl, by simpa using hn, hm, by simpa using hs, ?_⟩⟩
    · rw [hfl, List.length_set, List.length_set]; exact h1
    · rw [List.length_set, Array.toList_setIfInBounds, hfl, ← ht, List.take_set]
end
end Go.Mem
/- One cell stored, as an operation. -/
namespace Go.Mem
open Go.RowKit
variable {P : Program}
theorem cells_one : ∀ {v : Value}, v.oneCell' = true → v.cells = #[v]
  | .agg _, h => by simp [Value.oneCell'] at h
  | .tuple _, h => by simp [Value.oneCell'] at h
  | .bool _, _ | .int _ _, _ | .float _ _, _ | .complex _ _ _, _ | .string _, _ | .pointer _, _ | .slice _ _ _, _ | .map _, _ | .chan _, _ | .func _ _ _, _ | .nilFunc, _ | .iface _ _, _ | .nilIface, _ => rfl
theorem wp_store_one {op : Oper} {a : Act} {w : World} {K : Act → World → Prop} {Q : Exit → Act → World → Prop} (ty : TypeId) (x y : Operand) (ho : op.op = .store ty x y)
    (A : Addr) (v old : Value) (hx : a.eval x = .pointer (some A)) (hy : a.eval y = v) (h1 : v.oneCell' = true) (hi : (P.info? ty).map (·.size) = some 1) (hc : w.cell? A = some old) (hf : w.frozen? A = false)
    (h : K (a.put op.dst undef) (w.setCell A v)) : op.wp P a w K Q := by
  unfold Oper.wp execOp
  simp only [ho, hx, hy, Instr.storeAt, Instr.sureAddr, Sem.run_bind, Sem.run_pure, Result.andThen_ok]
  have e : (storeVar ty A v).run P w = .ok () (w.setCell A v) := by
    have e1 := run_store P w A v .plain h1
    rw [hc] at e1
    simp only [hf] at e1
    cases hq : P.info? ty with
    | none => simp [hq] at hi
    | some i =>
      have hs : i.size = 1 := by simpa [hq] using hi
      simp [storeVar, sizeOf, typeInfo, hq, cells_one h1, hs, storeCells, show A.add 0 = A from rfl]
      exact e1
  rw [e]
  exact h
theorem wpList_store_one {ops : Array Oper} {rest : List Oper} {op : Oper} {a : Act} {w : World} {Q : Exit → Act → World → Prop} (hgd : op.guard = none) (ty : TypeId) (x y : Operand) (ho : op.op = .store ty x y)
    (A : Addr) (v old : Value) (hx : a.eval x = .pointer (some A)) (hy : a.eval y = v) (h1 : v.oneCell' = true) (hi : (P.info? ty).map (·.size) = some 1) (hc : w.cell? A = some old) (hf : w.frozen? A = false)
    (h : ∀ w', w' = w.setCell A v → wpList P ops Q rest (a.put op.dst undef) w') : wpList P ops Q (op :: rest) a w :=
  wpList_plain hgd fun _ hK => wp_store_one ty x y ho A v old hx hy h1 hi hc hf (hK _ _ (h _ rfl))
end Go.Mem
/- A literal made true, walked: set. -/
namespace Go.Proofs.Ytfpjfogddepbkaa
open Go.RowKit Go.Mem Go.Sat
namespace SaW
/-- What set writes. -/
def SetT (r : Role) : Prop := r = .vars ∨ r = .trail ∨ r = .me
section
variable {w : World} {R : Nat → Option Role} {p : Nat} {s s' : St}
set_option maxRecDepth 100000 in
set_option maxHeartbeats 1000000 in
theorem set_calls0 (h : SolverAt w R p s) (n : Int) (hn : Sml n) (why : Option Nat) (A : Option Addr) (hs : setF0 s n why = some s') (hroom : s.trail.length ≤ 1099511627776) (hwv : ClAt R A why) : Calls Try.prog 30 #[.pointer (some ⟨p, 0, none⟩), .int .i64 n, .pointer A] w (SPo SetT R w p (.tuple #[]) s') := by
  obtain ⟨i0, hi, hz0, hz1, hz2⟩ := info_parts info_int
  have h0 := h
  obtain ⟨ids, vv, hv, pv, lv, tv, mv, bm, kvs, H⟩ := h
  have HS := Lib.hid H
  obtain ⟨c0, c1, c2, c3, c4, c5, c6, c7, c8, c9, c10, c11⟩ := H.cells
  unfold setF0 at hs
  split at hs
  case h_1 => cases hs
  rename_i a ha
  obtain ⟨vs, hvs, hss⟩ := Option.map_eq_some_iff.1 hs
  obtain ⟨k, g, cc, hk, hkl, hml, rfl, hrg, x0, x1, x2, x3, x4⟩ := fact_cells H ha
  have HO := Lib.hid (fun w1 => of_calls w1 n hn)
  rw [hk] at HO
  have hkI : (k : Int) < (s.vars.length : Int) := by omega
  have HLv := Lib.hid (fun w1 (hf : Frm (fun _ => False) w w1) => level_calls (h0.frm0 hf))
  have HWV := Lib.hid hwv
  have HVS := Lib.hid hvs
  have HSs := Lib.hid hss
  have HA := Lib.hid ha
  have Hroom := Lib.hid hroom
  have HK := Lib.hid hk
  clear H ha hvs hs hss hwv h0 hroom hk hn hml
  go_enter Try.func30, Try.ntmps30
  go_wp2_with fail
  refine Plan.wp_region_plan [0, 1, 3, 7, 0, 16, 63, 127] [.mk [0, 1, 2, 3, 4] 5 [0, 1, 2, 3]] [6, 7] (by kernel_rfl) (by kernel_rfl) ?_
  simp only [Plan.wayOf, Plan.pickAll, List.getElem?_cons_zero, List.getElem?_cons_succ, List.getD_eq_getElem?_getD, Option.getD_some]
  refine Plan.wpWay_seg ?_
  repeat go_big_quiet_step (fail)
  refine wpQuiet_nil ?_; refine Plan.wpWay_act ?_
  go_wp2_with fail
  refine (HO.out _).mono ?_
  rintro e w1 ⟨rfl, hf⟩
  have HF := Lib.hid (show Frm (fun _ => False) w w1 from frm_then (Frm.refl _ _).drew hf)
  have c0 := frm_cell HF.out c0
  clear hf
  go_wp2_with fail
  refine And.intro ?_ ?_; focus ((iterate 4 (refine Plan.again_cons ?_ ?_; focus (go_big_quiet_step (fail); exact wpQuiet_nil rfl))); exact Plan.again_nil)
  refine Plan.wpWay_last ?_
  repeat go_big_quiet_step (fail)
  refine wpQuiet_nil ?_; refine NoPanic.normal ?_
  go_wp2_with fail
  refine (HLv.out _ HF.out).mono ?_
  rintro e w2 ⟨rfl, hf⟩
  have HF2 := Lib.hid (frm_then HF.out hf)
  have y0 := frm_cell HF2.out x0
  have y1 := frm_cell HF2.out x1
  have y2 := frm_cell HF2.out x2
  have y4 := frm_cell HF2.out x4
  have hz : ∀ i, w2.frozen? ⟨g, i, none⟩ = false := by
    rcases (HS.out.frm0 HF2.out).vars.shape with ⟨e, _⟩ | ⟨_, _, e, _, _, _, _, _, hz⟩
    · cases e
    · cases e; exact hz
  have hpg : p ≠ g := fun e => by have h1 := HS.out.rvars g rfl; rw [← e, HS.out.rme] at h1; cases h1
  have hgp : g ≠ p := hpg.symm
  have c5 := frm_cell HF2.out c5
  have hzp : w2.frozen? ⟨p, 5, none⟩ = false := blk_free (HS.out.frm0 HF2.out).box 5
  clear hf x0 x1 x2 x3 x4
  dsimp only
  iterate 46 (first | go_values | go_skip | go_guarded | go_step | go_upon)
  obtain ⟨w3, hw3⟩ : ∃ w3, w3 = (((w2.setCell ⟨g, k * 5, none⟩ (.int .i64 n)).setCell ⟨g, k * 5 + 1, none⟩ (.int .i64 (levelF s))).setCell ⟨g, k * 5 + 2, none⟩ (.pointer A)).setCell ⟨g, k * 5 + 4, none⟩ (.int .i64 n) := ⟨_, rfl⟩
  rw [← hw3]
  obtain ⟨k', e1, e2, hvs'⟩ := setN_get HVS.out
  have hkk : k' = k := by have := HK.out; omega
  subst hkk
  obtain ⟨k2, e3, ha2, _⟩ := nth_get HA.out
  have hkk : k2 = k' := by have := HK.out; omega
  subst hkk
  have hv0 := (HS.out.frm0 HF2.out).vars
  have hA : Value.pointer A = encR ids why := (HS.out.isAt HWV.out).1
  have r1 := srow_cell hv0 ha2 (j := 0) (by omega) (x' := { a with lit := n }) (u := .int .i64 n) rfl
  have r2 := srow_cell r1 (List.getElem?_set_self e2) (j := 1) (by omega) (x' := { a with lit := n, level := levelF s }) (u := .int .i64 (levelF s)) rfl
  rw [List.set_set] at r2
  have r3 := srow_cell r2 (List.getElem?_set_self e2) (j := 2) (by omega) (x' := { a with lit := n, level := levelF s, reason := why }) (u := .pointer A) (by rw [hA]; rfl)
  rw [List.set_set] at r3
  have r4 := srow_cell r3 (List.getElem?_set_self e2) (j := 4) (by omega) (x' := { a with lit := n, level := levelF s, reason := why, phase := n }) (u := .int .i64 n) rfl
  rw [List.set_set, ← hvs'] at r4
  have hF3 : Frm (fun b => R b = some .vars) w2 w3 := by
    rw [hw3]
    exact ((((Frm.refl _ w2).set (.inl hrg) _).set (.inl hrg) _).set (.inl hrg) _).set (.inl hrg) _
  have H3 := (HS.out.frm0 HF2.out).in_vars hF3 (x' := vs) (by rw [hw3]; exact r4) (by
    intro y hy c hc
    rw [hvs'] at hy
    rcases List.mem_or_eq_of_mem_set hy with hy | hy
    · exact HS.out.refs.1 y hy c hc
    · subst hy; exact (HS.out.isAt HWV.out).2 c hc)
  have HM3 := Lib.hid ((SMov.of0 (T := SetT) (R := R) HF2.out).trans ⟨hF3.mono fun b _ hb => ⟨_, hb, .inl rfl⟩, fun _ _ h => h, fun _ h => .inl h⟩)
  have HS3 := Lib.hid H3
  clear hw3 hF3 r1 r2 r3 r4 hv0 hvs' e1 e2 e3 ha2 c0 c5 y0 y1 y2 y4 hz hzp hpg hgp hA
  obtain ⟨_, _, _, _, _, c5, _⟩ := H3.cells
  obtain ⟨TA, tc, htv, _⟩ := sees_slice H3.trail.sees
  dsimp only at htv c5
  subst htv
  clear H3 HS
  go_wp2_with (at_builtin; refine wpList_append_row rfl _ _ 26 rfl 3 i0 (.int .i64 0) 8 Try.underlying26 hi hz0 hz1 hz2 rfl (enc := iI) (.slice TA s.trail.length tc) s.trail rfl (HS3.out.trail.frm0 (frm_alloc w3 (.cells #[.int .i64 n] 3))) ⟨w3.heap.size, 0, none⟩ 1 n rfl ?c1 rfl ?c2 ?c3 ?_)
  case c2 => have := Hroom.out; have : maxLen = 9223372036854775807 := rfl; omega
  case c3 => have := Hroom.out; omega
  intro g7 cap7 w7 hrow hfr hg hlt7
  obtain ⟨HP, HM⟩ := (HS3.out.frm0 (frm_alloc w3 (.cells #[.int .i64 n] 3))).push_trail hrow hfr (hg.imp id fun h => by rw [h]; simp) hlt7
  have HP1 := Lib.hid HP
  have HM1 := Lib.hid (HM3.out.trans ((SMov.of0 (frm_alloc w3 (.cells #[.int .i64 n] 3))).trans (HM.mono fun r hr => hr.elim (fun e => .inr (.inl e)) fun e => .inr (.inr e))))
  have hnp : ¬ (Value.slice TA s.trail.length tc).ownBlock = some p := fun e => by have h1 := HS3.out.rtrail p e; rw [HS3.out.rme] at h1; cases h1
  have b7 := blk_frm (blk_alloc HS3.out.box (.cells #[.int .i64 n] 3)) hfr hnp
  have c1' : w7.cell? ⟨p, 5, none⟩ = some (.slice TA s.trail.length tc) := blk_cell b7 5
  have z1' : w7.frozen? ⟨p, 5, none⟩ = false := blk_free b7 5
  clear HP HM hrow hfr hg hlt7 hnp b7 c5
  go_wp2
  go_end0
  rw [← HSs.out]
  exact ⟨rfl, _, ⟨_, _, _, _, _, _, _, _, _, HP1.out⟩, HM1.out⟩
end
end SaW
end Go.Proofs.Ytfpjfogddepbkaa
