/- Why a literal can't be, walked: core. -/
import Derived.Test.YtfpjfogddepbkaaHa12
import Derived.Laws.EntriesVeiled
import Derived.Lib.SliceRun
set_option linter.unusedSimpArgs false
set_option linter.unusedVariables false
namespace Go.Proofs.Ytfpjfogddepbkaa
open Go.RowKit Go.Mem Go.Sat
namespace SaW
/-- What core holds: which variables say why, what comes out. -/
structure Cor (w : World) (w' : World) (mb : Nat) (why : List Int) (v8 : Value) (out : List Int) : Prop where
  frm : Frm (fun _ => False) w w'
  seen : SeenAt w' mb why
  mbB : w.heap.size ≤ mb
  row : Row w' 3 iI v8 out
  own : ∀ g, v8.ownBlock = some g → w.heap.size ≤ g ∧ g ≠ mb
theorem Cor.frm0 {w w' w'' : World} {mb : Nat} {why out : List Int} {v8 : Value} (h : Cor w w' mb why v8 out) (hf : Frm (fun _ => False) w' w'') : Cor w w'' mb why v8 out := by
  obtain ⟨kvs, h1, h2⟩ := h.seen
  exact ⟨frm_then h.frm hf, ⟨kvs, h1.frm hf id, h2⟩, h.mbB, h.row.frm0 hf, h.own⟩
theorem Cor.see {w w' w'' : World} {mb : Nat} {why out : List Int} {v8 : Value} {kvs : List (Int × Bool)} (h : Cor w w' mb why v8 out) (h2 : ∀ k, (mget kvs k).getD false = decide (k ∈ why)) {k : Int} (hm : MapAt w'' mb iI Value.bool (mput kvs k true)) (hg : w'.grownBy w'' (some mb)) : Cor w w'' mb (k :: why) v8 out := by
  have hf := Frm.of_grown hg
  refine ⟨h.frm.trans hf fun x hx e => ?_, SeenAt.put h2 hm, h.mbB, h.row.frm hf fun g hg e => ?_, h.own⟩
  · cases e; have := h.mbB; omega
  · cases e; exact (h.own _ hg).2 rfl
theorem Cor.put {w w' w'' : World} {mb : Nat} {why out : List Int} {v8 : Value} {m : Int} {o : Obj} {g7 n7 cap7 : Nat} (h : Cor w w' mb why v8 out) (hrow : Row w'' 3 iI (.slice (some ⟨g7, 0, none⟩) n7 cap7) (out ++ [m])) (hfr : Frm (fun b => v8.ownBlock = some b) (w'.alloc o) w'') (hg : v8.ownBlock = some g7 ∨ g7 = w'.heap.size + 1) : Cor w w'' mb why (.slice (some ⟨g7, 0, none⟩) n7 cap7) (out ++ [m]) := by
  have ha := h.frm0 (frm_alloc w' o)
  have hmb := h.seen.lt
  have hg' : w.heap.size ≤ g7 ∧ g7 ≠ mb := by
    rcases hg with e | e
    · exact h.own g7 e
    · have h1 := h.frm.size
      exact ⟨by omega, by omega⟩
  refine ⟨ha.frm.trans hfr fun x hx e => ?_, ?_, h.mbB, hrow, fun g e => by cases e; exact hg'⟩
  · have := (h.own x e).1; omega
  · obtain ⟨kvs, h1, h2⟩ := ha.seen
    exact ⟨kvs, h1.frm hfr fun e => (h.own mb e).2 rfl, h2⟩
theorem take_last {l : List Int} {k b : Nat} {m : Int} (hm : l[k]? = some m) (hb : b ≤ k) : ((l.take (k + 1)).drop b).reverse = m :: ((l.take k).drop b).reverse := by
  have hk := (List.getElem?_eq_some_iff.1 hm).1
  rw [List.take_add_one, hm, List.drop_append_of_le_length (by simp; omega)]
  simp
/-- What is left to do. -/
def CoreRest (s : St) (assume : List Int) (k : Nat) (why out res : List Int) : Prop := match s.limits.head? with
  | none => sortedF out = res ∧ roomB out.length = true
  | some b => 0 ≤ b ∧ (coreL s assume why out (((s.trail.take k).drop b.toNat).reverse)).bind (fun o => if roomB o.length then some (sortedF o) else none) = some res
section
variable {w : World} {R : Nat → Option Role} {p : Nat} {s : St}
set_option maxRecDepth 100000 in
set_option maxHeartbeats 4000000 in
theorem core_calls (h : SolverAt w R p s) (n : Int) (va : Value) (assume : List Int) (hA : Sees w iI va assume) (res : List Int) (hs : coreF s n assume = some res) : Calls Try.prog 38 #[.pointer (some ⟨p, 0, none⟩), .int .i64 n, va] w fun e w' => ∃ v, e = .returned v ∧ Row w' 3 iI v res ∧ Frm (fun _ => False) w w' ∧ ∀ g, v.ownBlock = some g → w.heap.size ≤ g := by
  obtain ⟨i0, hi, hz0, hz1, hz2⟩ := info_parts info_int
  have HS0 := Lib.hid h
  have HA := Lib.hid hA
  obtain ⟨AA, ac, rfl, _⟩ := sees_slice hA
  obtain ⟨ids, vv, hv, pv, lv, tv, mv, bm, kvs, H⟩ := h
  have HH := Lib.hid H
  have htl : s.trail.length ≤ 9223372036854775807 := H.trail.sees.len
  have hbl := H.lt p _ H.rme
  unfold coreF at hs
  split at hs
  case isTrue => cases hs
  rename_i hsn
  have hsm := sml_of (n := n) (by simpa using hsn)
  obtain ⟨q, hq⟩ : ∃ q : Nat, ofF n = q := ⟨(ofF n).toNat, by have := (of_abs hsm).1; omega⟩
  have HO := Lib.hid (fun w1 => of_calls w1 n hsm)
  rw [hq] at HO hs
  have HSS := Lib.hid hs
  have hmm := @run_makeMap Try.prog
  have hM0 : MapAt (w.alloc (.map #[] 0)) w.heap.size iI Value.bool [] := mapAt_new w iI Value.bool
  clear H hA hs hsn hsm hq
  go_enter Try.func38, Try.ntmps38
  go_wp2_with fail
  refine (HO.out _).mono ?_
  rintro e w1 ⟨rfl, hf1⟩
  have HM1 := Lib.hid (hM0.frm hf1 id)
  have HF1 := Lib.hid (frm_then (frm_alloc w _) hf1)
  clear hf1 hM0
  dsimp only
  go_wp2_with (refine wpList_insert rfl _ _ _ 79 rfl keyInt Try.underlying79 (ev := Value.bool) (q : Int) true rfl rfl rfl HM1.out ?_)
  intro w2 hm2 hg2
  have hF2 : Frm (fun _ => False) w w2 := HF1.out.trans (Frm.of_grown hg2) fun x hx e => by cases e; omega
  have hS2 : SeenAt w2 w.heap.size [(q : Int)] := SeenAt.put (kvs := []) (fun k => by simp [mget]) hm2
  have hlt2 : w.heap.size < w2.heap.size := by have h1 := hm2.lt; exact h1
  have hcor : Cor w (w2.alloc (.cells #[.int .i64 n] 3)) w.heap.size [(q : Int)] (.slice (some ⟨w2.heap.size, 0, none⟩) 1 1) [n] := by
    obtain ⟨kv, h1, h2⟩ := hS2
    exact ⟨hF2.alloc _, ⟨kv, h1.frm (frm_alloc _ _) id, h2⟩, Nat.le_refl _, ⟨by simp, .inr ⟨w2.heap.size, 1, _, rfl, Nat.zero_le _, blk_new _, Nat.le_refl _, by decide, rfl, rfl⟩⟩, fun g e => by cases e; exact ⟨hF2.size, Nat.ne_of_gt hlt2⟩⟩
  have HCOR := Lib.hid hcor
  have hH3 := HH.out.frm0 hcor.frm
  obtain ⟨_, _, _, _, _, c5, _⟩ := hH3.cells
  obtain ⟨TA, tc, htv, _⟩ := sees_slice hH3.trail.sees
  subst htv
  have HREST : Hid (CoreRest s assume s.trail.length [(q : Int)] [n] res) := Lib.hid (by
    have h1 := HSS.out
    unfold CoreRest
    split at h1
    · rename_i e; rw [e]; exact ⟨Option.some.inj h1, rfl⟩
    · rename_i b e
      rw [e]
      split at h1
      · cases h1
      · exact ⟨by omega, by rw [List.take_length]; exact h1⟩)
  clear hF2 hS2 hcor hH3 hm2 hg2 HM1 HF1 HSS hmm HO hlt2
  go_wp2_with fail
  clear c5
  go_loopw [8, 9] (fun v8 v9 w' => ∃ k : Nat, v9 = .int .i64 ((k : Int) - 1) ∧ k ≤ s.trail.length ∧ ∃ why out, Hid (CoreRest s assume k why out res) ∧ Hid (Cor w w' w.heap.size why v8 out)) (fun _ v9 _ => (intOf v9 + 1).toNat)
  case atStart => exact ⟨s.trail.length, rfl, Nat.le_refl _, _, _, HREST, HCOR⟩
  case round =>
    obtain ⟨k, rfl, hk, why, out, HR, HC⟩ := hrel
    clear HREST HCOR
    have hH := HH.out.frm0 HC.out.frm
    obtain ⟨d0, _, _, _, _, d5, d6, _⟩ := hH.cells
    obtain ⟨MA, mc, hmv, _⟩ := sees_slice hH.limits.sees
    subst hmv
    have hml : s.limits.length ≤ 9223372036854775807 := hH.limits.sees.len
    by_cases hl0 : s.limits.length = 0
    · have hn : s.limits = [] := List.eq_nil_of_length_eq_zero hl0
      have hcr : sortedF out = res ∧ roomB out.length = true := by have h1 := HR.out; unfold CoreRest at h1; rw [hn] at h1; exact h1
      have HFIN := Lib.hid hcr.1
      have HO40 := Lib.hid (room_of hcr.2)
      rw [hl0] at d6
      clear hcr hn hl0 HR
      by_cases hk0 : 1 ≤ k
      · have e1 : (0 : Int) ≤ (k : Int) - 1 := by omega
        have hfin : sortedF out = res := HFIN.out
        have ho40 := HO40.out
        have HFIN2 := Lib.hid hfin
        have HSRT := Lib.hid (sort_calls wr u8 out HC.out.row ho40)
        obtain ⟨OA, oc, hu8, _⟩ := sees_slice HC.out.row.sees
        subst hu8
        clear hfin ho40
        go_wp2_with fail
        clear d0 d5 d6 hH
        refine HSRT.out.mono ?_
        rintro e w5 ⟨rfl, hr5, hf5⟩
        have HF5 := Lib.hid (HC.out.frm.trans hf5 fun x hx e => by have := (HC.out.own x e).1; omega)
        have HCMP := Lib.hid (compact_calls w5 _ (msort out) hr5)
        clear hr5 hf5
        dsimp only
        go_wp2_with fail
        refine HCMP.out.mono ?_
        rintro e w6 ⟨v6, rfl, hr6, hf6, ho6⟩
        have HF6 := Lib.hid (HF5.out.trans hf6 fun x hx e => by have := (HC.out.own x e).1; omega)
        have HR6 := Lib.hid hr6
        have HO6 := Lib.hid ho6
        clear hr6 hf6 ho6
        dsimp only
        go_wp2
        go_ret
        refine ⟨v6, rfl, ?_, HF6.out, fun g e => (HC.out.own g (by rw [← HO6.out]; exact e)).1⟩
        have h1 := HR6.out
        unfold msort at h1
        rw [compact_msort, HFIN2.out] at h1
        exact h1
      · have e1 : ¬ (0 : Int) ≤ (k : Int) - 1 := by omega
        have hfin : sortedF out = res := HFIN.out
        have ho40 := HO40.out
        have HFIN2 := Lib.hid hfin
        have HSRT := Lib.hid (sort_calls wr u8 out HC.out.row ho40)
        obtain ⟨OA, oc, hu8, _⟩ := sees_slice HC.out.row.sees
        subst hu8
        clear hfin ho40
        go_wp2_with fail
        clear d0 d5 d6 hH
        refine HSRT.out.mono ?_
        rintro e w5 ⟨rfl, hr5, hf5⟩
        have HF5 := Lib.hid (HC.out.frm.trans hf5 fun x hx e => by have := (HC.out.own x e).1; omega)
        have HCMP := Lib.hid (compact_calls w5 _ (msort out) hr5)
        clear hr5 hf5
        dsimp only
        go_wp2_with fail
        refine HCMP.out.mono ?_
        rintro e w6 ⟨v6, rfl, hr6, hf6, ho6⟩
        have HF6 := Lib.hid (HF5.out.trans hf6 fun x hx e => by have := (HC.out.own x e).1; omega)
        have HR6 := Lib.hid hr6
        have HO6 := Lib.hid ho6
        clear hr6 hf6 ho6
        dsimp only
        go_wp2
        go_ret
        refine ⟨v6, rfl, ?_, HF6.out, fun g e => (HC.out.own g (by rw [← HO6.out]; exact e)).1⟩
        have h1 := HR6.out
        unfold msort at h1
        rw [compact_msort, HFIN2.out] at h1
        exact h1
    · obtain ⟨gm, cm, hmv, _, _, xm, _⟩ := row_at hH.limits (k := 0) (by omega)
      injection hmv with ha hb hc
      subst ha
      subst hc
      obtain ⟨b, hb0⟩ : ∃ b, b = s.limits[0]'(by omega) := ⟨_, rfl⟩
      rw [← hb0] at xm
      have hhd : s.limits.head? = some b := by rw [List.head?_eq_getElem?, List.getElem?_eq_getElem (by omega), hb0]
      have hcr : 0 ≤ b ∧ (coreL s assume why out (((s.trail.take k).drop b.toNat).reverse)).bind (fun o => if roomB o.length then some (sortedF o) else none) = some res := by have h1 := HR.out; unfold CoreRest at h1; rw [hhd] at h1; exact h1
      have hlI : (0 : Int) < (s.limits.length : Int) := by omega
      have HHD := Lib.hid hhd
      have HCR := Lib.hid hcr.2
      have hb0' := hcr.1
      clear hb0 hhd hb HR hl0
      by_cases hkb : b ≤ (k : Int) - 1
      · obtain ⟨K, rfl⟩ : ∃ K, k = K + 1 := ⟨k - 1, by omega⟩
        rw [show ((K + 1 : Nat) : Int) - 1 = (K : Int) by omega] at hkb ⊢
        have e1 : (0 : Int) ≤ (K : Int) := by omega
        obtain ⟨m, hm⟩ : ∃ m, s.trail[K]? = some m := ⟨_, List.getElem?_eq_getElem (by omega)⟩
        have e := HCR.out
        rw [take_last hm (b := b.toNat) (by omega)] at e
        unfold coreL at e
        split at e
        case isTrue => cases e
        rename_i hgd
        have hgd' : smlB m = true ∧ roomB out.length = true := by simpa using hgd
        have hsm := sml_of hgd'.1
        obtain ⟨q2, hq2⟩ : ∃ q2 : Nat, ofF m = q2 := ⟨(ofF m).toNat, by have := (of_abs hsm).1; omega⟩
        have HO := Lib.hid (fun w1 => of_calls w1 m hsm)
        have HQ2 := Lib.hid hq2
        rw [hq2] at HO e
        obtain ⟨gt, ct, htv, _, _, xt, _⟩ := row_at hH.trail (k := K) (by omega)
        injection htv with ha hb hc
        subst ha
        subst hc
        rw [Option.some.inj ((List.getElem?_eq_getElem _).symm.trans hm)] at xt
        have hKI : (K : Int) < (s.trail.length : Int) := by omega
        have HE := Lib.hid e
        have HRM := Lib.hid (room_of hgd'.2)
        have HMm := Lib.hid hm
        have hwk : wrap64 ((K : Int) - 1) = (K : Int) - 1 := by unfold wrap64; omega
        have HWK := Lib.hid hwk
        clear e hgd hgd' hm hsm hq2 hb hwk
        go_wp2_with fail
        refine (HO.out _).mono ?_
        rintro e3 w3 ⟨rfl, hf⟩
        have HC3 := Lib.hid (HC.out.frm0 hf)
        have d0 := frm_cell hf d0
        clear hf HC hH d5 d6 xm xt
        dsimp only
        have hlk := HC3.out.seen.look (q2 : Int)
        by_cases hsn : (q2 : Int) ∈ why
        · rw [decide_eq_true hsn] at hlk
          have e := HE.out
          rw [if_pos hsn] at e
          split at e
          case h_1 => cases e
          rename_i a ha
          have hH3 := HH.out.frm0 HC3.out.frm
          obtain ⟨q3, g3, c3, hq3, hkl3, hml3, hvv, hrg3, _, _, x2, _⟩ := fact_cells hH3 ha
          subst hvv
          have hqq : q3 = q2 := by have := HQ2.out; omega
          subst hqq
          have hqI : (q3 : Int) < (s.vars.length : Int) := by omega
          have HE2 := Lib.hid e
          clear hq3 hml3 hrg3 hkl3 hsn e
          go_wp2_with fail
          refine Plan.wp_region_plan [0, 1, 3, 7, 0, 16, 63, 127, 255, 511] [.mk [0, 1, 2, 3, 4] 5 [0, 1, 2, 3]] [6, 7, 8, 9] (by kernel_rfl) (by kernel_rfl) ?_
          simp only [Plan.wayOf, Plan.pickAll, List.getElem?_cons_zero, List.getElem?_cons_succ, List.getD_eq_getElem?_getD, Option.getD_some]
          refine Plan.wpWay_seg ?_
          repeat go_big_quiet_step (fail)
          refine wpQuiet_nil ?_; refine Plan.wpWay_act ?_
          go_wp2_with fail
          refine (HO.out _).mono ?_
          rintro e w5 ⟨rfl, hf⟩
          have HF5 := Lib.hid (show Frm (fun _ => False) w3 w5 from frm_then (Frm.refl _ _).drew hf)
          have d0 := frm_cell HF5.out d0
          have x2 := frm_cell HF5.out x2
          clear hf
          dsimp only
          go_wp2_with fail
          refine And.intro ?_ ?_; focus ((iterate 4 (refine Plan.again_cons ?_ ?_; focus (go_big_quiet_step (fail); exact wpQuiet_nil rfl))); exact Plan.again_nil)
          refine Plan.wpWay_last ?_
          repeat go_big_quiet_step (fail)
          refine wpQuiet_nil ?_; refine NoPanic.normal ?_
          have HC5 := Lib.hid (HC3.out.frm0 HF5.out)
          clear HC3 HO HF5 d0 x2 hlk hH3
          obtain ⟨rs, hrs⟩ : ∃ rs, rs = a.reason := ⟨_, rfl⟩
          have e := HE2.out
          rw [← hrs] at e ⊢
          cases rs with
          | none =>
            simp only at e
            have HK1 := Lib.hid (contains_calls w5 (.slice AA assume.length ac) assume m (HA.out.frm HC5.out.frm fun _ _ _ => id))
            by_cases hma : m ∈ assume
            · rw [if_pos hma] at e
              have HRE : Hid (CoreRest s assume K why (out ++ [m]) res) := Lib.hid (by unfold CoreRest; rw [HHD.out]; exact ⟨hb0', e⟩)
              obtain ⟨LA, lc, hu8, _⟩ := sees_slice HC5.out.row.sees
              subst hu8
              rw [decide_eq_true hma] at HK1
              clear e hrs hma
              have hrn : encR ids none = .pointer none := rfl
              rw [hrn]
              go_wp2_with fail
              refine HK1.out.mono ?_
              rintro e5 w6 ⟨rfl, rfl⟩
              dsimp only
              go_wp2_with (at_builtin; refine wpList_append_row rfl _ _ 26 rfl 3 i0 (.int .i64 0) 8 Try.underlying26 hi hz0 hz1 hz2 rfl (enc := iI) (.slice LA out.length lc) out rfl (HC5.out.row.frm0 (frm_alloc w6 (.cells #[.int .i64 m] 3))) ⟨w6.heap.size, 0, none⟩ 1 m rfl ?c1 rfl ?c2 ?c3 ?_)
              case c1 => exact blk_cell (blk_new _) 0
              case c2 => have := HRM.out; have : maxLen = 9223372036854775807 := rfl; omega
              case c3 => have := HRM.out; omega
              intro g7 cap7 w7 hrow hfr hg hlt7
              obtain ⟨n7, hn7⟩ : ∃ n7, n7 = out.length + 1 := ⟨_, rfl⟩
              rw [← hn7] at hrow ⊢
              have HC7 := Lib.hid (HC5.out.put hrow hfr hg)
              clear hrow hfr hg hlt7 hn7 HC5
              go_wp2
              go_roundw
              case rel => exact ⟨K, rfl, by omega, why, out ++ [m], HRE, HC7⟩
              case measure => simp only [intOf]; omega
            · rw [if_neg hma] at e
              have HRE : Hid (CoreRest s assume K why out res) := Lib.hid (by unfold CoreRest; rw [HHD.out]; exact ⟨hb0', e⟩)
              rw [decide_eq_false hma] at HK1
              clear e hrs hma
              have hrn : encR ids none = .pointer none := rfl
              rw [hrn]
              go_wp2_with fail
              refine HK1.out.mono ?_
              rintro e5 w6 ⟨rfl, rfl⟩
              dsimp only
              go_wp2
              go_roundw
              case rel => exact ⟨K, rfl, by omega, why, out, HRE, HC5⟩
              case measure => simp only [intOf]; omega
          | some c =>
            simp only at e
            split at e
            case h_1 => cases e
            rename_i x hx
            split at e
            case isFalse => cases e
            rename_i hall
            have HRE : Hid (CoreRest s assume K ((x.lits.map ofF).reverse ++ why) out res) := Lib.hid (by unfold CoreRest; rw [HHD.out]; exact ⟨hb0', e⟩)
            have hH5 := HH.out.frm0 HC5.out.frm
            obtain ⟨bc, hbc1, hbc2, _⟩ := hH5.clAt (List.getElem?_eq_some_iff.1 hx).1
            obtain ⟨x', vx, hcl, hblk, hrow, hrol⟩ := hH5.cl_at hbc2
            have hxx : x' = x := Option.some.inj (hcl.symm.trans hx)
            subst hxx
            obtain ⟨XA, xc, hvx, _⟩ := sees_slice hrow.sees
            subst hvx
            have hrn : encR ids (some c) = .pointer (some ⟨bc, 0, none⟩) := hbc1
            rw [hrn]
            have b0 : w5.cell? ⟨bc, 0, none⟩ = some (.slice XA x'.lits.length xc) := blk_cell hblk 0
            have HROW := Lib.hid hrow
            have HROL := Lib.hid hrol
            have HALL := Lib.hid hall
            have hl63 : x'.lits.length ≤ 9223372036854775807 := hrow.sees.len
            clear e hrs hx hall hH5 hbc1 hbc2 hcl hblk hrow hrol hrn
            go_wp2_with fail
            clear b0
            go_loopw [76] (fun v76 w' => ∃ j : Nat, v76 = .int .i64 j ∧ j ≤ x'.lits.length ∧ Hid (Cor w w' w.heap.size (((x'.lits.take j).map ofF).reverse ++ why) u8 out)) (fun v76 _ => x'.lits.length - (intOf v76).toNat)
            case atStart => exact ⟨0, rfl, by omega, Lib.hid (by simpa using HC5.out)⟩
            case round =>
              obtain ⟨j, rfl, hj, HCj⟩ := hrel
              by_cases hjl : j < x'.lits.length
              · have hjI : (j : Int) < (x'.lits.length : Int) := by omega
                obtain ⟨m2, hm2⟩ : ∃ m2, x'.lits[j]? = some m2 := ⟨_, List.getElem?_eq_getElem hjl⟩
                obtain ⟨gx, rfl, xj⟩ : ∃ gx, XA = some ⟨gx, 0, none⟩ ∧ wr.cell? ⟨gx, j, none⟩ = some (iI m2) := by
                  rcases HROW.out.shape with ⟨_, e⟩ | ⟨gx, cx, e, ho, _, _, hc, _⟩
                  · rw [e] at hjl; simp at hjl
                  · injection e with ea eb ec
                    refine ⟨gx, ea, ?_⟩
                    have hlt := HH.out.lt gx _ (HROL.out gx ho)
                    have h1 := HCj.out.frm.block gx hlt id
                    have h2 := HC5.out.frm.block gx hlt id
                    have hc1 := hc j m2 hm2
                    rw [← hc1]
                    simp only [World.cell?, h1, h2]
                have hsm2 := sml_of (List.all_eq_true.1 HALL.out m2 (List.mem_of_getElem? hm2))
                obtain ⟨q5, hq5⟩ : ∃ q5 : Nat, ofF m2 = q5 := ⟨(ofF m2).toNat, by have := (of_abs hsm2).1; omega⟩
                have HO := Lib.hid (fun w1 => of_calls w1 m2 hsm2)
                rw [hq5] at HO
                have HNEXT : Hid (((x'.lits.take (j + 1)).map ofF).reverse ++ why = (q5 : Int) :: (((x'.lits.take j).map ofF).reverse ++ why)) := Lib.hid (by rw [List.take_add_one, hm2]; simp [hq5])
                clear hm2 hsm2 hq5
                go_wp2_with fail
                refine (HO.out _).mono ?_
                rintro e6 w6 ⟨rfl, hf⟩
                have HC6 := Lib.hid (HCj.out.frm0 hf)
                obtain ⟨kvsS, hmS, hgS⟩ := HC6.out.seen
                have HMS := Lib.hid hmS
                have HGS := Lib.hid hgS
                clear hf HCj HO xj hmS hgS
                dsimp only
                go_wp2_with (at_mapUpdate; refine wpList_update rfl _ _ _ 79 rfl keyInt Try.underlying79 (ev := Value.bool) (q5 : Int) true rfl rfl rfl HMS.out ?_)
                intro w7 hm7 hg7
                have HC7 : Hid (Cor w w7 w.heap.size (((x'.lits.take (j + 1)).map ofF).reverse ++ why) u8 out) := Lib.hid (by rw [HNEXT.out]; exact HC6.out.see HGS.out hm7 hg7)
                clear hm7 hg7 HMS HGS HC6 HNEXT
                go_wp2
                go_roundw
                case rel => exact ⟨j + 1, rfl, hjl, HC7⟩
                case measure => simp only [intOf]; omega
              · have hjI : ¬ (j : Int) < (x'.lits.length : Int) := by omega
                have HC8 : Hid (Cor w wr w.heap.size ((x'.lits.map ofF).reverse ++ why) u8 out) := Lib.hid (by have := HCj.out; rw [List.take_of_length_le (by omega)] at this; exact this)
                clear HCj HC5
                go_wp2
                go_roundw
                case rel => exact ⟨K, rfl, by omega, _, out, HRE, HC8⟩
                case measure => simp only [intOf]; omega
        · rw [decide_eq_false hsn] at hlk
          have e := HE.out
          rw [if_neg hsn] at e
          have HRE : Hid (CoreRest s assume K why out res) := Lib.hid (by unfold CoreRest; rw [HHD.out]; exact ⟨hb0', e⟩)
          clear hsn e d0
          go_wp2
          go_roundw
          case rel => exact ⟨K, rfl, by omega, why, out, HRE, HC3⟩
          case measure => simp only [intOf]; omega
      · have hkb' : ¬ b ≤ (k : Int) - 1 := hkb
        have e := HCR.out
        rw [List.drop_eq_nil_of_le (by simp; omega)] at e
        simp only [List.reverse_nil, coreL, Option.bind_some] at e
        split at e
        case isFalse => cases e
        rename_i hro
        have HFIN := Lib.hid (Option.some.inj e)
        have HO40 := Lib.hid (room_of hro)
        clear e hro
        by_cases hk0 : 1 ≤ k
        · have e1 : (0 : Int) ≤ (k : Int) - 1 := by omega
          have hfin : sortedF out = res := HFIN.out
          have ho40 := HO40.out
          have HFIN2 := Lib.hid hfin
          have HSRT := Lib.hid (sort_calls wr u8 out HC.out.row ho40)
          obtain ⟨OA, oc, hu8, _⟩ := sees_slice HC.out.row.sees
          subst hu8
          clear hfin ho40
          go_wp2_with fail
          clear d0 d5 d6 hH
          refine HSRT.out.mono ?_
          rintro e w5 ⟨rfl, hr5, hf5⟩
          have HF5 := Lib.hid (HC.out.frm.trans hf5 fun x hx e => by have := (HC.out.own x e).1; omega)
          have HCMP := Lib.hid (compact_calls w5 _ (msort out) hr5)
          clear hr5 hf5
          dsimp only
          go_wp2_with fail
          refine HCMP.out.mono ?_
          rintro e w6 ⟨v6, rfl, hr6, hf6, ho6⟩
          have HF6 := Lib.hid (HF5.out.trans hf6 fun x hx e => by have := (HC.out.own x e).1; omega)
          have HR6 := Lib.hid hr6
          have HO6 := Lib.hid ho6
          clear hr6 hf6 ho6
          dsimp only
          go_wp2
          go_ret
          refine ⟨v6, rfl, ?_, HF6.out, fun g e => (HC.out.own g (by rw [← HO6.out]; exact e)).1⟩
          have h1 := HR6.out
          unfold msort at h1
          rw [compact_msort, HFIN2.out] at h1
          exact h1
        · have e1 : ¬ (0 : Int) ≤ (k : Int) - 1 := by omega
          have hfin : sortedF out = res := HFIN.out
          have ho40 := HO40.out
          have HFIN2 := Lib.hid hfin
          have HSRT := Lib.hid (sort_calls wr u8 out HC.out.row ho40)
          obtain ⟨OA, oc, hu8, _⟩ := sees_slice HC.out.row.sees
          subst hu8
          clear hfin ho40
          go_wp2_with fail
          clear d0 d5 d6 hH
          refine HSRT.out.mono ?_
          rintro e w5 ⟨rfl, hr5, hf5⟩
          have HF5 := Lib.hid (HC.out.frm.trans hf5 fun x hx e => by have := (HC.out.own x e).1; omega)
          have HCMP := Lib.hid (compact_calls w5 _ (msort out) hr5)
          clear hr5 hf5
          dsimp only
          go_wp2_with fail
          refine HCMP.out.mono ?_
          rintro e w6 ⟨v6, rfl, hr6, hf6, ho6⟩
          have HF6 := Lib.hid (HF5.out.trans hf6 fun x hx e => by have := (HC.out.own x e).1; omega)
          have HR6 := Lib.hid hr6
          have HO6 := Lib.hid ho6
          clear hr6 hf6 ho6
          dsimp only
          go_wp2
          go_ret
          refine ⟨v6, rfl, ?_, HF6.out, fun g e => (HC.out.own g (by rw [← HO6.out]; exact e)).1⟩
          have h1 := HR6.out
          unfold msort at h1
          rw [compact_msort, HFIN2.out] at h1
          exact h1
end
end SaW
end Go.Proofs.Ytfpjfogddepbkaa
/- cnf.Clean, walked. -/
namespace Go.Proofs.Ytfpjfogddepbkaa
open Go.RowKit Go.Mem Go.Sat
namespace SaW
theorem insert_len (x : Int) : ∀ (l : List Int), (insertF x l).length ≤ l.length + 1
  | [] => by simp [insertF]
  | a :: l => by
    unfold insertF
    split
    · simp
    · split
      · simp
      · simp; exact insert_len x l
theorem sortedF_len : ∀ (l : List Int), (sortedF l).length ≤ l.length
  | [] => by simp [sortedF]
  | x :: l => by
    have h1 := insert_len x (sortedF l)
    have h2 := sortedF_len l
    show (insertF x (sortedF l)).length ≤ _
    simp
    omega
set_option maxRecDepth 100000 in
set_option maxHeartbeats 2000000 in
theorem clean_calls (w : World) (v : Value) (l : List Int) (hv : Sees w iI v l) (hn : l.length ≤ 1099511627776) (hsm : ∀ x ∈ l, Sml x) : Calls Try.prog 24 #[v] w fun e w' => ∃ v', e = .returned (.tuple #[v', .bool (cleanF l).isSome]) ∧ Row w' 3 iI v' ((cleanF l).getD []) ∧ Frm (fun _ => False) w w' ∧ ∀ g, v'.ownBlock = some g → w.heap.size ≤ g := by
  have HC := Lib.hid (clone_calls w v l hv hn)
  have HN := Lib.hid hn
  obtain ⟨VA, vc, rfl, _⟩ := sees_slice hv
  obtain ⟨c, hc⟩ : ∃ c, c = sortedF l := ⟨_, rfl⟩
  obtain ⟨cl, hcl⟩ : ∃ cl, cl = clashF c c := ⟨_, rfl⟩
  have HSM : Hid (∀ x ∈ c, Sml x) := Lib.hid fun x hx => hsm x ((sortedF_mem l x).1 (by rw [← hc]; exact hx))
  have HCL : Hid (cleanF l = if cl then none else some c) := Lib.hid (by unfold cleanF; rw [hcl, hc])
  have HC0 := Lib.hid hc
  have HCL0 := Lib.hid hcl
  have hc63 : c.length ≤ 9223372036854775807 := by rw [hc]; have := sortedF_len l; omega
  clear hv hn hsm hc hcl
  go_enter Try.func24, Try.ntmps24
  go_wp2_with fail
  refine HC.out.mono ?_
  rintro e w1 ⟨v1, rfl, hr1, hf1, ho1⟩
  have HS := Lib.hid (sort_calls w1 v1 l hr1 HN.out)
  have HF1 := Lib.hid hf1
  have HO1 := Lib.hid ho1
  clear hr1 hf1 ho1 HC
  dsimp only
  go_wp2_with fail
  refine HS.out.mono ?_
  rintro e w2 ⟨rfl, hr2, hf2⟩
  have HF2 := Lib.hid (HF1.out.trans hf2 fun x hx e => by have := HO1.out x e; omega)
  have HK := Lib.hid (compact_calls w2 v1 (msort l) hr2)
  clear hr2 hf2 HS
  dsimp only
  go_wp2_with fail
  refine HK.out.mono ?_
  rintro e w3 ⟨v3, rfl, hr3, hf3, ho3⟩
  have HF3 := Lib.hid (HF2.out.trans hf3 fun x hx e => by have := HO1.out x e; omega)
  unfold msort at hr3
  rw [compact_msort, ← HC0.out] at hr3
  have HR3 := Lib.hid hr3
  have HO3 : Hid (∀ g, v3.ownBlock = some g → w.heap.size ≤ g) := Lib.hid fun g e => HO1.out g (by rw [← ho3]; exact e)
  obtain ⟨CA, cc, hv3, hcell⟩ := sees_slice hr3.sees
  have HCE := Lib.hid hcell
  subst hv3
  clear hr3 hf3 ho3 HK HF1 HF2 HO1 hcell
  dsimp only
  go_wp2_with fail
  go_loopw [14] (fun v14 w' => w' = w3 ∧ ∃ j : Nat, v14 = .int .i64 j ∧ j ≤ c.length ∧ Hid (clashF (c.drop j) c = cl)) (fun v14 _ => c.length - (intOf v14).toNat)
  case atStart => exact ⟨rfl, 0, rfl, by omega, Lib.hid HCL0.out.symm⟩
  case round =>
    obtain ⟨rfl, j, rfl, hj, HCJ⟩ := hrel
    by_cases hjl : j < c.length
    · have hjI : (j : Int) < (c.length : Int) := by omega
      obtain ⟨n, hn⟩ : ∃ n, c[j]? = some n := ⟨_, List.getElem?_eq_getElem hjl⟩
      obtain ⟨g, o, rfl, xj⟩ := HCE.out j n hn
      have hsm := HSM.out n (List.mem_of_getElem? hn)
      have hneg : wrap64 (-n) = -n := by unfold Sml at hsm; unfold wrap64; omega
      have e := HCJ.out
      rw [List.drop_eq_getElem_cons hjl, Option.some.inj ((List.getElem?_eq_getElem hjl).symm.trans hn)] at e
      unfold clashF at e
      have HE := Lib.hid e
      clear e hn hsm
      by_cases hn0 : n = -n
      · have e1 : (n != wrap64 (-n)) = false := by rw [hneg]; simpa using hn0
        have e := HE.out
        rw [decide_eq_false (fun h => h.1 hn0), Bool.false_or] at e
        have HE2 := Lib.hid e
        clear e hn0 hneg
        go_wp2
        go_roundw
        case rel => exact ⟨trivial, j + 1, rfl, hjl, HE2⟩
        case measure => simp only [intOf]; omega
      · have e1 : (n != wrap64 (-n)) = true := by rw [hneg]; simpa using hn0
        have HK := Lib.hid (contains_calls wr _ c (wrap64 (-n)) HR3.out.sees)
        have e := HE.out
        by_cases hin : -n ∈ c
        · rw [show decide (wrap64 (-n) ∈ c) = true by rw [hneg]; exact decide_eq_true hin] at HK
          rw [decide_eq_true (And.intro hn0 hin), Bool.true_or] at e
          have h1 := HCL.out
          rw [← e] at h1
          simp only [if_true] at h1
          have HH1 := Lib.hid h1
          clear e h1 hin hn0 hneg
          go_wp2_with fail
          refine HK.out.mono ?_
          rintro e4 w4 ⟨rfl, rfl⟩
          dsimp only
          go_wp2
          go_ret2
          rw [HH1.out]
          exact ⟨_, rfl, Row.nil _ _ _, HF3.out, fun g e => by cases e⟩
        · rw [show decide (wrap64 (-n) ∈ c) = false by rw [hneg]; exact decide_eq_false hin] at HK
          rw [decide_eq_false (fun h => hin h.2), Bool.false_or] at e
          have HE2 := Lib.hid e
          clear e hin hn0 hneg
          go_wp2_with fail
          refine HK.out.mono ?_
          rintro e4 w4 ⟨rfl, rfl⟩
          dsimp only
          go_wp2
          go_roundw
          case rel => exact ⟨trivial, j + 1, rfl, hjl, HE2⟩
          case measure => simp only [intOf]; omega
    · have hjI : ¬ (j : Int) < (c.length : Int) := by omega
      have e := HCJ.out
      rw [List.drop_eq_nil_of_le (by omega)] at e
      simp only [clashF] at e
      have h1 := HCL.out
      rw [← e] at h1
      simp only [Bool.false_eq_true, if_false] at h1
      have HH1 := Lib.hid h1
      clear e h1 HCE
      go_wp2
      go_ret2
      rw [HH1.out]
      exact ⟨_, rfl, HR3.out, HF3.out, HO3.out⟩
end SaW
end Go.Proofs.Ytfpjfogddepbkaa
/- The closures of Add; slices.IndexFunc, ContainsFunc with closures that draw, walked. -/
namespace Go.Proofs.Ytfpjfogddepbkaa
open Go.RowKit Go.Mem Go.Sat
namespace SaW
/-- A closure tells q of each of these numbers, whenever asked behind w. -/
def Tells (w : World) (fid : FuncId) (cap : Array Value) (q : Int → Bool) (xs : List Int) : Prop := ∀ x ∈ xs, ∀ w', Frm (fun _ => False) w w' → Calls Try.prog fid (#[.int .i64 x] ++ cap) w' fun e w'' => e = .returned (.bool (q x)) ∧ Frm (fun _ => False) w' w''
theorem Tells.frm {w w' : World} {fid : FuncId} {cap : Array Value} {q : Int → Bool} {xs : List Int} (h : Tells w fid cap q xs) (hf : Frm (fun _ => False) w w') : Tells w' fid cap q xs := fun x hx w2 h2 => h x hx w2 (frm_then hf h2)
set_option maxHeartbeats 1000000 in
theorem idxF_calls (fid : FuncId) (cap : Array Value) (q : Int → Bool) (v : Value) (xs : List Int) (w : World) (hv : Sees w iI v xs)
    (hcf : ∀ (x : Int) (w : World), (callFunc fid (#[.int .i64 x] ++ cap)).run Try.prog w = .ok (.enter fid (#[.int .i64 x] ++ cap)) w)
    (hq : Tells w fid cap q xs) :
    Calls Try.prog 50 #[v, .func (.func fid) #[] cap] w fun e w' => e = .returned (.int .i64 (Sl.idx q xs)) ∧ Frm (fun _ => False) w w' := by
  have Hq := Lib.hid hq
  have hlen : (xs.length : Int) ≤ 9223372036854775807 := by have := hv.len; have h : maxLen = 9223372036854775807 := rfl; omega
  have HV := Lib.hid hv
  obtain ⟨A, c, rfl, _⟩ := sees_slice hv
  clear hq hv
  go_enter Try.func50, Try.ntmps50
  go_wp2_with fail
  go_loopw [8] (fun v8 w' => ∃ k : Nat, k ≤ xs.length ∧ v8 = .int .i64 k ∧ Hid (Sl.Before q xs k) ∧ Hid (Frm (fun _ => False) w w')) (fun v8 _ => xs.length - (intOf v8).toNat)
  case atStart => exact ⟨0, Nat.zero_le _, rfl, Lib.hid (.zero _ _), Lib.hid (Frm.refl _ _)⟩
  case round =>
    obtain ⟨k, hk, rfl, HB, HF⟩ := hrel
    by_cases hlt : k < xs.length
    · have hx : xs[k]? = some xs[k] := List.getElem?_eq_getElem hlt
      have hs := HV.out.frm HF.out fun _ _ _ => id
      obtain ⟨A', c', e1, hcell⟩ := sees_slice hs
      injection e1 with ea eb ec
      obtain ⟨g, o, hA, xk⟩ := hcell k _ hx
      rw [← ea] at hA
      subst hA
      have HC := Lib.hid (Hq.out xs[k] (List.getElem_mem hlt) wr HF.out)
      generalize xs[k] = x at *
      have Hx := Lib.hid hx
      have hltI : (k : Int) < (xs.length : Int) := by omega
      clear hx hs hcell ea eb ec
      go_wp2_with fail
      refine HC.out.mono ?_
      rintro e w' ⟨rfl, hf⟩
      have HF2 := Lib.hid (frm_then HF.out hf)
      clear hf xk HC
      dsimp only
      cases hqx : q x with
      | true =>
        have hfin := Lib.hid (Sl.idx_hit Hx.out hqx HB.out)
        clear hqx
        go_wp2
        go_ret
        exact ⟨by rw [hfin.out]; rfl, HF2.out⟩
      | false =>
        have hfin := Lib.hid (HB.out.succ Hx.out hqx)
        clear hqx
        go_wp2
        go_roundw
        case rel => exact ⟨k + 1, by omega, rfl, hfin, HF2⟩
        case measure => simp only [intOf]; omega
    · have hke : k = xs.length := by omega
      have hfin := Lib.hid (Sl.idx_miss (q := q) (xs := xs) (by rw [← hke]; exact HB.out))
      have hltI : ¬ (k : Int) < (xs.length : Int) := by omega
      clear hke
      go_wp2
      go_ret
      exact ⟨by rw [hfin.out]; rfl, HF.out⟩
theorem anyF_calls (fid : FuncId) (cap : Array Value) (q : Int → Bool) (v : Value) (xs : List Int) (w : World) (hv : Sees w iI v xs)
    (hcf : ∀ (x : Int) (w : World), (callFunc fid (#[.int .i64 x] ++ cap)).run Try.prog w = .ok (.enter fid (#[.int .i64 x] ++ cap)) w)
    (hq : Tells w fid cap q xs) :
    Calls Try.prog 25 #[v, .func (.func fid) #[] cap] w fun e w' => e = .returned (.bool (xs.any q)) ∧ Frm (fun _ => False) w w' := by
  have Hi := Lib.hid (idxF_calls fid cap q v xs w hv hcf hq)
  have hfin := Lib.hid (Sl.idx_any q xs)
  clear hv hcf hq
  generalize Sl.idx q xs = r at *
  go_enter Try.func25, Try.ntmps25
  go_wp2_with fail
  refine Hi.out.mono ?_
  rintro e w' ⟨rfl, hf⟩
  have HF := Lib.hid hf
  clear hf
  dsimp only
  go_wp2
  go_ret
  exact ⟨by rw [← hfin.out]; rfl, HF.out⟩
section
variable {w : World} {R : Nat → Option Role} {p : Nat} {s : St}
theorem is1_calls (h : SolverAt w R p s) (bx : Nat) (hx : w.cell? ⟨bx, 0, none⟩ = some (.pointer (some ⟨p, 0, none⟩))) (n v : Int) (hv : valueF s n = some v) : Calls Try.prog 26 #[.int .i64 n, .pointer (some ⟨bx, 0, none⟩)] w fun e w' => e = .returned (.bool (v == 1)) ∧ Frm (fun _ => False) w w' := by
  have hn := value_sml hv
  have HC := Lib.hid (value_calls h n v hv)
  clear h hv
  go_enter Try.func26, Try.ntmps26
  go_wp2_with fail
  refine HC.out.mono ?_
  rintro e w' ⟨rfl, hf⟩
  have HF := Lib.hid hf
  clear hf
  dsimp only
  go_wp2
  go_ret
  exact ⟨rfl, HF.out⟩
theorem is0_calls (h : SolverAt w R p s) (bx : Nat) (hx : w.cell? ⟨bx, 0, none⟩ = some (.pointer (some ⟨p, 0, none⟩))) (n v : Int) (hv : valueF s n = some v) : Calls Try.prog 29 #[.int .i64 n, .pointer (some ⟨bx, 0, none⟩)] w fun e w' => e = .returned (.bool (v == -1)) ∧ Frm (fun _ => False) w w' := by
  have hn := value_sml hv
  have HC := Lib.hid (value_calls h n v hv)
  clear h hv
  go_enter Try.func29, Try.ntmps29
  go_wp2_with fail
  refine HC.out.mono ?_
  rintro e w' ⟨rfl, hf⟩
  have HF := Lib.hid hf
  clear hf
  dsimp only
  go_wp2
  go_ret
  exact ⟨rfl, HF.out⟩
theorem lit_eq {s : St} {n v u : Int} (h : valueF s n = some v) : litF s u n = (v == u) := by
  unfold litF
  rw [h]
  by_cases e : v = u
  · subst e; simp
  · simp [e]
theorem tells1 (h : SolverAt w R p s) (bx : Nat) (hx : w.cell? ⟨bx, 0, none⟩ = some (.pointer (some ⟨p, 0, none⟩))) (c : List Int) (hk : knownF s c = true) : Tells w 26 #[.pointer (some ⟨bx, 0, none⟩)] (litF s 1) c := fun x hxc w' hf => by
  obtain ⟨v, hv⟩ := Option.isSome_iff_exists.1 (List.all_eq_true.1 hk x hxc)
  rw [lit_eq hv]
  exact is1_calls (h.frm0 hf) bx (frm_cell hf hx) x v hv
theorem tells0 (h : SolverAt w R p s) (bx : Nat) (hx : w.cell? ⟨bx, 0, none⟩ = some (.pointer (some ⟨p, 0, none⟩))) (c : List Int) (hk : knownF s c = true) : Tells w 29 #[.pointer (some ⟨bx, 0, none⟩)] (litF s (-1)) c := fun x hxc w' hf => by
  obtain ⟨v, hv⟩ := Option.isSome_iff_exists.1 (List.all_eq_true.1 hk x hxc)
  rw [lit_eq hv]
  exact is0_calls (h.frm0 hf) bx (frm_cell hf hx) x v hv
end
end SaW
end Go.Proofs.Ytfpjfogddepbkaa
/- slices.DeleteFunc at whole numbers, with a closure that draws, walked. -/
namespace Go.Proofs.Ytfpjfogddepbkaa
open Go.RowKit Go.Mem Go.Sat
namespace SaW
/-- A closure tells q of each of these numbers, whenever asked behind w, where only these blocks were written. -/
def TellsS (S : Nat → Prop) (w : World) (fid : FuncId) (cap : Array Value) (q : Int → Bool) (xs : List Int) : Prop := ∀ x ∈ xs, ∀ w', Frm S w w' → Calls Try.prog fid (#[.int .i64 x] ++ cap) w' fun e w'' => e = .returned (.bool (q x)) ∧ Frm (fun _ => False) w' w''
theorem row_cells {g n c : Nat} : ∀ (vs : List Int) (i : Nat) (w : World) (L : List Int), Row w 3 iI (.slice (some ⟨g, 0, none⟩) n c) L → i + vs.length ≤ L.length → ∃ L', Row (w.setCells g i (vs.map iI)) 3 iI (.slice (some ⟨g, 0, none⟩) n c) L' ∧ L'.length = L.length ∧ L'.take i = L.take i ∧ Frm (fun b => b = g) w (w.setCells g i (vs.map iI))
  | [], i, w, L, h, _ => ⟨L, h, rfl, rfl, Frm.refl _ _⟩
  | v :: vs, i, w, L, h, hl => by
    simp only [List.length_cons] at hl
    have h1 := row_set h i (by omega) v
    obtain ⟨L', h2, h3, h4, h5⟩ := row_cells vs (i + 1) _ _ h1 (by simp; omega)
    refine ⟨L', h2, by rw [h3]; simp, ?_, ?_⟩
    · have := congrArg (List.take i) h4
      rw [List.take_take, List.take_take, Nat.min_eq_left (by omega)] at this
      rw [this, List.take_set_of_le (Nat.le_refl _)]
    · exact ((Frm.refl (fun b => b = g) w).set (p := ⟨g, i, none⟩) (.inl rfl) _).trans h5 fun _ _ h => h
theorem zeroI (w : World) : (zeroValue 3).run Try.prog w = .ok (.int .i64 0) w := by
  have e : (Try.prog.info? 3).map (fun i => i.zero) = some (some (.int .i64 0)) := by kernel_rfl
  obtain ⟨i, h1, h2⟩ := Option.map_eq_some_iff.1 e
  simp [zeroValue, typeInfo, h1, h2]
/-- What the loop holds. -/
structure Del (q : Int → Bool) (xs : List Int) (w w' : World) (g n c i j : Nat) (L : List Int) : Prop where
  row : Row w' 3 iI (.slice (some ⟨g, 0, none⟩) n c) L
  len : L.length = xs.length
  kept : L.take i = (xs.take j).filter fun x => !q x
  rest : L.drop j = xs.drop j
  lt : i < j
  le : j ≤ xs.length
  frm : Frm (fun b => b = g) w w'
theorem Del.get {q : Int → Bool} {xs : List Int} {w w' : World} {g n c i j : Nat} {L : List Int} (h : Del q xs w w' g n c i j L) (hj : j < xs.length) : L[j]? = xs[j]? := by
  have := congrArg (fun l => l[0]?) h.rest
  simpa [List.getElem?_drop] using this
theorem Del.skip {q : Int → Bool} {xs : List Int} {w w' w'' : World} {g n c i j : Nat} {L : List Int} (h : Del q xs w w' g n c i j L) {x : Int} (hx : xs[j]? = some x) (hq : q x = true) (hf : Frm (fun _ => False) w' w'') : Del q xs w w'' g n c i (j + 1) L := by
  have hj := (List.getElem?_eq_some_iff.1 hx).1
  refine ⟨h.row.frm0 hf, h.len, ?_, ?_, by have := h.lt; omega, hj, h.frm.trans (hf.mono fun _ _ h => h.elim) fun _ _ h => h⟩
  · rw [List.take_add_one, hx, List.filter_append, h.kept]
    simp [hq]
  · have := congrArg (List.drop 1) h.rest
    simpa [List.drop_drop] using this
theorem Del.keep {q : Int → Bool} {xs : List Int} {w w' w'' : World} {g n c i j : Nat} {L : List Int} (h : Del q xs w w' g n c i j L) {x : Int} (hx : xs[j]? = some x) (hq : q x = false) (hf : Frm (fun _ => False) w' w'') : Del q xs w (w''.setCell ⟨g, i, none⟩ (.int .i64 x)) g n c (i + 1) (j + 1) (L.set i x) := by
  have hj := (List.getElem?_eq_some_iff.1 hx).1
  have hl := h.lt
  have hlen := h.len
  refine ⟨row_set (h.row.frm0 hf) i (by omega) x, by simp [h.len], ?_, ?_, by omega, hj, (h.frm.trans (hf.mono fun _ _ h => h.elim) fun _ _ h => h).set (p := ⟨g, i, none⟩) (.inl rfl) _⟩
  · rw [List.take_add_one, List.take_set_of_le (Nat.le_refl _), h.kept, List.take_add_one, hx, List.filter_append]
    simp [hq, List.getElem?_set_self (show i < L.length by omega)]
  · rw [List.drop_set_of_lt (by omega)]
    have := congrArg (List.drop 1) h.rest
    simpa [List.drop_drop] using this
theorem TellsS.tells {S : Nat → Prop} {w : World} {fid : FuncId} {cap : Array Value} {q : Int → Bool} {xs : List Int} (h : TellsS S w fid cap q xs) : Tells w fid cap q xs := fun x hx w' hf => h x hx w' (hf.mono fun _ _ h => h.elim)
theorem idx_cases (q : Int → Bool) (xs : List Int) : (Sl.idx q xs = -1 ∧ ∀ x ∈ xs, q x = false) ∨ ∃ (i : Nat) (x : Int), Sl.idx q xs = i ∧ xs[i]? = some x ∧ q x = true ∧ (xs.take i).filter (fun x => !q x) = xs.take i := by
  unfold Sl.idx
  cases h : xs.findIdx? q with
  | none => exact .inl ⟨rfl, fun x hx => by simpa using List.findIdx?_eq_none_iff.1 h x hx⟩
  | some i =>
    obtain ⟨hi, hq, hb⟩ := List.findIdx?_eq_some_iff_getElem.1 h
    refine .inr ⟨i, xs[i], rfl, List.getElem?_eq_getElem hi, hq, ?_⟩
    rw [List.filter_eq_self]
    intro x hx
    obtain ⟨j, hj, rfl⟩ := List.mem_iff_getElem.1 hx
    simp only [List.length_take] at hj
    have := hb j (by omega)
    simp only [List.getElem_take]
    simpa using this
set_option maxRecDepth 100000 in
set_option maxHeartbeats 2000000 in
theorem delF_calls (fid : FuncId) (cap : Array Value) (q : Int → Bool) (v : Value) (xs : List Int) (w : World) (hrow : Row w 3 iI v xs)
    (hcf : ∀ (x : Int) (w : World), (callFunc fid (#[.int .i64 x] ++ cap)).run Try.prog w = .ok (.enter fid (#[.int .i64 x] ++ cap)) w)
    (hq : TellsS (fun b => v.ownBlock = some b) w fid cap q xs) :
    Calls Try.prog 28 #[v, .func (.func fid) #[] cap] w fun e w' => ∃ v', e = .returned v' ∧ Row w' 3 iI v' (xs.filter fun x => !q x) ∧ Frm (fun b => v.ownBlock = some b) w w' ∧ v'.ownBlock = v.ownBlock := by
  have HI := Lib.hid (idxF_calls fid cap q v xs w hrow.sees hcf hq.tells)
  have Hq := Lib.hid hq
  have HR := Lib.hid hrow
  rcases idx_cases q xs with ⟨h1, h2⟩ | ⟨i, x0, h1, h2, h3, h4⟩
  · rw [h1] at HI
    have hfl : xs.filter (fun x => !q x) = xs := List.filter_eq_self.2 fun x hx => by simp [h2 x hx]
    have HFL := Lib.hid hfl
    clear hrow hq h1 h2 hfl
    go_enter Try.func28, Try.ntmps28
    go_wp2_with fail
    refine HI.out.mono ?_
    rintro e w1 ⟨rfl, hf⟩
    have HF := Lib.hid hf
    clear hf
    dsimp only
    go_wp2
    go_ret
    exact ⟨v, rfl, by rw [HFL.out]; exact HR.out.frm0 HF.out, HF.out.mono fun _ _ h => h.elim, rfl⟩
  · have hil := (List.getElem?_eq_some_iff.1 h2).1
    rcases hrow.shape with ⟨_, e⟩ | ⟨g, c, rfl, ho, hcap, hmax, _⟩
    · rw [e] at hil; simp at hil
    have hx63 : xs.length ≤ 9223372036854775807 := by have : maxLen = 9223372036854775807 := rfl; omega
    rw [h1] at HI
    have HD0 : Hid (∀ w1, Frm (fun _ => False) w w1 → Del q xs w w1 g xs.length c i (i + 1) xs) := Lib.hid fun w1 hf => ⟨hrow.frm0 hf, rfl, by rw [List.take_add_one, h2, List.filter_append, h4]; simp [h3], rfl, by omega, hil, hf.mono fun _ _ h => h.elim⟩
    have hzz := zeroI
    have HCAP := Lib.hid hcap
    clear hrow hq h1 h2 h3 h4
    have hei : ((i : Int) == -1) = false := by simp
    have hwi : wrap64 ((i : Int) + 1) = (i : Int) + 1 := by unfold wrap64; omega
    go_enter Try.func28, Try.ntmps28
    go_wp2_with fail
    refine HI.out.mono ?_
    rintro e w1 ⟨rfl, hf⟩
    have HD1 := Lib.hid (HD0.out w1 hf)
    clear hf HD0 HI
    dsimp only
    go_wp2_with fail
    clear hei hwi
    go_loopw [5, 6] (fun v5 v6 w' => ∃ i j : Nat, v5 = .int .i64 i ∧ v6 = .int .i64 j ∧ ∃ L, Hid (Del q xs w w' g xs.length c i j L)) (fun _ v6 _ => xs.length - (intOf v6).toNat)
    case atStart => exact ⟨i, i + 1, rfl, rfl, xs, HD1⟩
    case round =>
      obtain ⟨i, j, rfl, rfl, L, HD⟩ := hrel
      clear HD1
      have hij := HD.out.lt
      have hjl := HD.out.le
      have hLl := HD.out.len
      by_cases hjn : j < xs.length
      · have hjI : (j : Int) < (xs.length : Int) := by omega
        have hiI : (i : Int) < (xs.length : Int) := by omega
        obtain ⟨x, hx⟩ : ∃ x, xs[j]? = some x := ⟨_, List.getElem?_eq_getElem hjn⟩
        have xj := row_get HD.out.row ((HD.out.get hjn).trans hx)
        have HC := Lib.hid (Hq.out x (List.mem_of_getElem? hx) wr (HD.out.frm.mono fun b _ e => by rw [e]; rfl))
        have HX := Lib.hid hx
        clear hx hLl hij hjl
        go_wp2_with fail
        refine HC.out.mono ?_
        rintro e w2 ⟨rfl, hf⟩
        have HF := Lib.hid hf
        clear hf HC xj
        dsimp only
        cases hqx : q x with
        | true =>
          have HD2 := Lib.hid (HD.out.skip HX.out hqx HF.out)
          clear hqx HD
          go_wp2
          go_roundw
          case rel => exact ⟨i, j + 1, rfl, rfl, L, HD2⟩
          case measure => simp only [intOf]; omega
        | false =>
          have HD2 := Lib.hid (HD.out.keep HX.out hqx HF.out)
          have hlt := HD.out.lt
          have hlen := HD.out.len
          obtain ⟨u, hu⟩ : ∃ u, L[i]? = some u := ⟨_, List.getElem?_eq_getElem (by omega)⟩
          have xi := row_get (HD.out.row.frm0 HF.out) hu
          have xz : w2.frozen? ⟨g, i, none⟩ = false := by
            rcases (HD.out.row.frm0 HF.out).shape with ⟨_, e⟩ | ⟨g', c', e1, _, _, _, _, hz⟩
            · rw [e] at hlen; simp at hlen; omega
            · injection e1 with ea eb ec
              cases ea
              exact hz i
          clear hqx HD hu hlt hlen
          go_wp2
          go_roundw
          case rel => exact ⟨i + 1, j + 1, rfl, rfl, _, HD2⟩
          case measure => simp only [intOf]; omega
      · have hje : j = xs.length := by omega
        subst hje
        have hiI : (i : Int) ≤ (xs.length : Int) := by omega
        have hjI : ¬ (xs.length : Int) < (xs.length : Int) := by omega
        have hci : ¬ c = i := by have := HCAP.out; omega
        have hicI : (i : Int) ≤ (c : Int) := by have := HCAP.out; omega
        have hclr := fun ty => Lib.run_clear_slice (P := Try.prog) wr 26 3 ty (.int .i64 0) Try.underlying26 zeroI rfl rfl g i (xs.length - i) (c - i) (by omega) (fun k hk => by rw [row_get HD.out.row (List.getElem?_eq_getElem (show i + k < L.length by omega))]; rfl) (fun k hk => by
          rcases HD.out.row.shape with ⟨_, e⟩ | ⟨g', c', e1, _, _, _, _, hz⟩
          · rw [e] at hLl; simp at hLl; omega
          · injection e1 with ea eb ec
            cases ea
            exact hz (i + k))
        clear hjn hjl
        go_wp2
        go_ret
        obtain ⟨L', k1, k2, k3, k4⟩ := row_cells (List.replicate (xs.length - i) 0) i wr L HD.out.row (by simp; omega)
        rw [List.map_replicate] at k1 k4
        have k5 := Row.first k1 (k := i) (by omega)
        have hkp := HD.out.kept
        rw [k3, hkp, List.take_length] at k5
        exact ⟨_, rfl, k5, (HD.out.frm.trans k4 fun _ _ h => h).mono fun b _ e => by rw [e], rfl⟩
end SaW
end Go.Proofs.Ytfpjfogddepbkaa
