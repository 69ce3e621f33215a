/- Another literal to watch, walked: moved. -/
import Derived.Test.YtfpjfogddepbkaaCz05
set_option linter.unusedSimpArgs false
set_option linter.unusedVariables false
namespace Go.Proofs.Ytfpjfogddepbkaa
open Go.RowKit Go.Mem Go.Sat
namespace SaW
theorem row_get {α : Type} {w : World} {e : TypeId} {enc : α → Value} {g n c : Nat} {xs : List α} (h : Row w e enc (.slice (some ⟨g, 0, none⟩) n c) xs) {i : Nat} {x : α} (hx : xs[i]? = some x) : w.cell? ⟨g, i, none⟩ = some (enc x) := by
  rcases h.shape with ⟨e1, _⟩ | ⟨g', c', e1, _, _, _, hc, _⟩
  · injection e1 with ea; cases ea
  · injection e1 with ea eb ec
    injection ea with ea
    injection ea with ea
    subst ea
    exact hc i x hx
def MovedT (c : Nat) (n : Int) (r : Role) : Prop := r = .lits c ∨ r = .map ∨ ∃ k, k ≠ n ∧ r = .wrow k
theorem modify_const {α : Type} : ∀ (l : List α) (c : Nat) (f : α → α) (x : α), l[c]? = some x → l.modify c f = l.modify c fun _ => f x
  | [], c, f, x, h => by simp at h
  | a :: l, 0, f, x, h => by simp at h; subst h; simp
  | a :: l, c + 1, f, x, h => by simp; exact modify_const l c f x (by simpa using h)
theorem lits_get {s : St} {c : Nat} {x : Cl} {l : List Int} (h : s.cls[c]? = some x) : (litsF s c l).cls[c]? = some { x with lits := l } := by
  unfold litsF
  simp [List.getElem?_modify_eq, h]
section
variable {w w' : World} {R : Nat → Option Role} {p : Nat} {s s' : St}
theorem SRep.in_lits {w w' : World} {R : Nat → Option Role} {p : Nat} {s : St} {ids : List Nat} {vv hv pv lv tv mv : Value} {bm : Nat} {kvs : List (Int × Value)} {b c : Nat} {x : Cl} {v : Value} {l' : List Int} (h : SRep w R p s ids vv hv pv lv tv mv bm kvs) (hb : R b = some (.cl c)) (hx : s.cls[c]? = some x) (hblk : w.heap[b]? = some (.cells #[v, .bool x.learnt, .int .i64 x.score] 62)) (hv' : ∀ g, v.ownBlock = some g → R g = some (.lits c))
    (hf : Frm (fun b => R b = some (.lits c)) w w') (hrow : Row w' 3 iI v l') : SRep w' R p (litsF s c l') ids vv hv pv lv tv mv bm kvs := by
  have := h.in_cl (x' := { x with lits := l' }) hb (hf.mono fun _ _ h => .inr h) (blk_frm hblk hf fun e => by rw [hb] at e; cases e) hrow hv'
  unfold litsF
  rw [modify_const _ _ _ _ hx]
  exact this
set_option maxRecDepth 100000 in
set_option maxHeartbeats 1000000 in
theorem moved_calls (h : SolverAt w R p s) (c b : Nat) (n : Int) (hb : R b = some (.cl c)) (yb : Bool) (hs : movedF s c n = some (yb, s')) : Calls Try.prog 51 #[.pointer (some ⟨p, 0, none⟩), .pointer (some ⟨b, 0, none⟩), .int .i64 n] w (SPo (MovedT c n) R w p (.bool yb) s') := by
  obtain ⟨i0, hi, hz0, hz1, hz2⟩ := info_parts info_cp
  have h0 := h
  have HS0 := Lib.hid h
  have HB := Lib.hid hb
  obtain ⟨ids, vv, hv, pv, lv, tv, mv, bm, kvs, H⟩ := h
  obtain ⟨x', v, hcl, hblk, hrow, hrole⟩ := H.cl_at hb
  unfold movedF at hs
  split at hs
  case isTrue => cases hs
  rename_i hsn
  have hneg : wrap64 (-n) = -n := by have := sml_of (n := n) (by simpa using hsn); unfold Sml at this; unfold wrap64; omega
  rw [hcl] at hs
  simp only [Option.map_some] at hs
  split at hs
  case h_2 => cases hs
  rename_i a b' r hli
  have hli' := Option.some.inj hli
  rw [hli'] at hrow
  obtain ⟨g, cc, rfl, ho, hml, x0, z0⟩ := row_at hrow (k := 0) (by simp)
  obtain ⟨g', cc', e1, _, _, x1, z1⟩ := row_at hrow (k := 1) (by simp)
  cases e1
  have b0 : w.cell? ⟨b, 0, none⟩ = some (.slice (some ⟨g, 0, none⟩) (r.length + 1 + 1) cc) := blk_cell hblk 0
  simp only [List.getElem_cons_zero] at x0
  simp only [List.getElem_cons_succ, List.getElem_cons_zero] at x1
  have hgl : R g = some (.lits c) := hrole g rfl
  have Hml : Hid (r.length + 1 + 1 ≤ 9223372036854775807) := Lib.hid hml
  have hlen : (1 : Int) < ((r.length + 1 + 1 : Nat) : Int) := by omega
  have hlen0 : (0 : Int) < ((r.length + 1 + 1 : Nat) : Int) := by omega
  by_cases han : a = -n
  · simp only [if_pos han] at hs
    split at hs
    case h_1 => cases hs
    rename_i vx hvx
    have e0 : (a == wrap64 (-n)) = true := by rw [hneg]; simpa using han
    obtain ⟨x, hx⟩ : ∃ x, x = b' := ⟨_, rfl⟩
    obtain ⟨y, hy⟩ : ∃ y, y = a := ⟨_, rfl⟩
    obtain ⟨s1, hs1⟩ : ∃ s1, s1 = litsF s c (x :: y :: r) := ⟨_, rfl⟩
    rw [← hx, ← hy] at hs hvx
    rw [← hs1] at hs hvx
    rw [← hx] at x1
    rw [← hy] at e0 x0
    have hF : Frm (fun b => R b = some (.lits c)) w ((w.setCell ⟨g, 0, none⟩ (iI x)).setCell ⟨g, 1, none⟩ (iI y)).drew := (((Frm.refl _ _).set (.inl hgl) _).set (.inl hgl) _).drew
    have hgb : g ≠ b := fun e => by rw [e, hb] at hgl; cases hgl
    have hr1 : Row ((w.setCell ⟨g, 0, none⟩ (iI x)).setCell ⟨g, 1, none⟩ (iI y)).drew 3 iI (.slice (some ⟨g, 0, none⟩) (r.length + 1 + 1) cc) (x :: y :: r) := by
      have h1 := row_set hrow 0 (by simp) x
      have h2 := row_set h1 1 (by simp) y
      exact h2
    have HH := Lib.hid (H.in_lits hb hcl hblk hrole hF hr1)
    have HF := Lib.hid hF
    have HR1 := Lib.hid hr1
    have HN := Lib.hid hneg
    have HGL := Lib.hid hgl
    have HBK := Lib.hid hblk
    have HCL1 : Hid (∃ cl, s1.cls[c]? = some cl ∧ cl.lits = x :: y :: r) := Lib.hid (by rw [hs1]; exact ⟨_, lits_get hcl, rfl⟩)
    have HSS := Lib.hid hs1
    clear hneg hgl H hcl hblk hrow hrole hli hli' ho hml hsn han hx hy hs1 h0 hF hr1
    go_enter Try.func51, Try.ntmps51
    go_wp2_with fail
    refine Plan.wp_region_plan [0, 1, 3, 7, 0, 16, 48, 112, 0, 256, 768, 1792, 3840, 7936, 0, 16384, 49152, 114688, 245760, 507904, 1048575, 2097151, 4194303, 8388607] [.mk [0, 1, 2, 3, 4, 5, 6, 7, 8, 9, 10, 11, 12, 13, 14, 15, 16, 17, 18, 19, 20] 21 [], .mk [22] 23 []] [] (by kernel_rfl) (by kernel_rfl) ?_
    simp only [Plan.wayOf, Plan.pickAll, List.getElem?_cons_zero, List.getElem?_cons_succ, List.getD_eq_getElem?_getD, Option.getD_some]
    refine Plan.wpWay_seg ?_
    repeat go_big_quiet_step (fail)
    refine wpQuiet_nil ?_; refine Plan.wpWay_act ?_
    go_wp2_with (fail)
    refine And.intro Plan.again_nil ?_
    refine Plan.wpWay_seg ?_
    repeat go_big_quiet_step (fail)
    refine wpQuiet_nil ?_; refine Plan.wpWay_act ?_
    go_wp2_with (fail)
    refine And.intro Plan.again_nil ?_
    refine Plan.wpWay_last ?_
    refine wpQuiet_nil ?_; refine NoPanic.normal ?_
    obtain ⟨w1, hw1⟩ : ∃ w1, w1 = ((w.setCell ⟨g, 0, none⟩ (iI x)).setCell ⟨g, 1, none⟩ (iI y)).drew := ⟨_, rfl⟩
    rw [show ((w.setCell ⟨g, 0, none⟩ (.int .i64 x)).setCell ⟨g, 1, none⟩ (.int .i64 y)).drew = w1 from hw1.symm]
    have hrow1 := HR1.out
    rw [← hw1] at hrow1
    have h1 := HH.out
    rw [← hw1, ← HSS.out] at h1
    have HS1 : Hid (SolverAt w1 R p s1) := Lib.hid ⟨_, _, _, _, _, _, _, _, _, h1⟩
    have hF1 := HF.out
    rw [← hw1] at hF1
    have HM1 : Hid (SMov (MovedT c n) R w R w1) := Lib.hid ⟨hF1.mono fun q _ hq => ⟨_, hq, .inl rfl⟩, fun _ _ h => h, fun _ h => .inl h⟩
    have HB0 : Hid (w1.cell? ⟨b, 0, none⟩ = some (.slice (some ⟨g, 0, none⟩) (r.length + 1 + 1) cc)) := Lib.hid (blk_cell (blk_frm HBK.out hF1 (fun e => by rw [HB.out] at e; cases e)) 0)
    have b0 := HB0.out
    have x0 : w1.cell? ⟨g, 0, none⟩ = some (iI x) := row_get hrow1 rfl
    clear hw1 h1 hF1 HH HF HR1 HBK z1 x1 e0
    have HVF := Lib.hid (show valueF s1 x = some vx from hvx)
    clear hvx
    go_wp2_with fail
    refine (value_calls HS1.out x vx HVF.out).mono ?_
    rintro e w2 ⟨rfl, hf⟩
    have HF2 := Lib.hid hf
    have b0 := frm_cell hf b0
    clear hf
    dsimp only
    by_cases hv1 : vx = 1
    · have e1 : (vx == 1) = true := by simpa using hv1
      rw [if_pos hv1] at hs
      cases hs
      clear hv1
      go_wp2
      go_ret
      exact ⟨rfl, R, HS1.out.frm0 HF2.out, HM1.out.trans (SMov.of0 HF2.out)⟩
    · have e1 : (vx == 1) = false := by simpa using hv1
      rw [if_neg hv1] at hs
      obtain ⟨sk, hsk⟩ : ∃ sk, sk = seekF s1 r 2 := ⟨_, rfl⟩
      rw [← hsk] at hs
      have HVS := Lib.hid hs
      have HSK := Lib.hid hsk
      have HR1 := Lib.hid hrow1
      have Hlen := Lib.hid hlen
      clear hs hv1 x0 hsk hrow1 hlen hlen0 z0
      go_wp2_with fail
      go_loopw [7] (fun v7 w' => ∃ k : Nat, v7 = .int .i64 k ∧ 2 ≤ k ∧ k ≤ r.length + 1 + 1 ∧ Hid (seekF s1 (r.drop (k - 2)) k = sk) ∧ Hid (Frm (fun _ => False) w1 w')) (fun v7 _ => r.length + 1 + 1 - (intOf v7).toNat)
      case atStart => exact ⟨2, rfl, Nat.le_refl _, by omega, Lib.hid HSK.out.symm, HF2⟩
      case round =>
        obtain ⟨k, rfl, hk2, hkl, HSKk, HFk⟩ := hrel
        have b0 : wr.cell? ⟨b, 0, none⟩ = some (.slice (some ⟨g, 0, none⟩) (r.length + 1 + 1) cc) := frm_cell HFk.out HB0.out
        by_cases hkn : k < r.length + 1 + 1
        · have hkI : (k : Int) < ((r.length + 1 + 1 : Nat) : Int) := by omega
          obtain ⟨z, hz⟩ : ∃ z, z = r[k - 2]'(by omega) := ⟨_, rfl⟩
          have hz1 : (x :: y :: r)[k]? = some z := by
            obtain ⟨j, rfl⟩ : ∃ j, k = j + 2 := ⟨k - 2, by omega⟩
            simp only [Nat.add_sub_cancel] at hz
            simp only [List.getElem?_cons_succ]
            rw [hz, List.getElem?_eq_getElem]
          have xk : wr.cell? ⟨g, k, none⟩ = some (iI z) := by
            have h1 := HR1.out.frm0 HFk.out
            rcases h1.shape with ⟨_, e⟩ | ⟨_, _, e, _, _, _, hc, _⟩
            · cases e
            · cases e
              exact hc k z hz1
          have e := HSKk.out
          rw [List.drop_eq_getElem_cons (by omega), ← hz] at e
          unfold seekF at e
          split at e
          case h_1 =>
            have := HVS.out
            rw [← e] at this
            cases this
          rename_i vz hvz
          have HVZ := Lib.hid hvz
          have HZ1 := Lib.hid hz1
          clear hvz hz hz1
          go_wp2_with fail
          refine (value_calls (HS1.out.frm0 HFk.out) z vz HVZ.out).mono ?_
          rintro e3 w3 ⟨rfl, hf⟩
          have HF3 := Lib.hid (frm_then HFk.out hf)
          have b0 := frm_cell hf b0
          have xk := frm_cell hf xk
          clear hf
          dsimp only
          by_cases hm1 : vz = -1
          · have e2 : (vz != -1) = false := by rw [hm1]; rfl
            rw [if_pos hm1] at e
            have HE := Lib.hid e
            clear e hm1 xk b0
            go_wp2
            go_roundw
            case rel => exact ⟨k + 1, by rw [show wrap64 ((k : Int) + 1) = ((k + 1 : Nat) : Int) by have := Hml.out; unfold wrap64; omega], by omega, by omega, Lib.hid (by rw [show k + 1 - 2 = k - 2 + 1 by omega]; exact HE.out), HF3⟩
            case measure => rw [show wrap64 ((k : Int) + 1) = ((k + 1 : Nat) : Int) by have := Hml.out; unfold wrap64; omega]; simp only [intOf]; omega
          · have e2 : (vz != -1) = true := by simpa using hm1
            rw [if_neg hm1] at e
            subst e
            obtain ⟨j, rfl⟩ : ∃ j, k = j + 2 := ⟨k - 2, by omega⟩
            obtain ⟨l2, hl2⟩ : ∃ l2, l2 = x :: z :: r.set j y := ⟨_, rfl⟩
            have hsw : swapF (x :: y :: r) 1 (j + 2) = some l2 := by
              unfold swapF
              rw [HZ1.out, hl2]
              simp
            have e4 := HVS.out
            simp only [hsw] at e4
            rw [hl2] at e4
            simp only [] at e4
            split at e4
            case isTrue => cases e4
            rename_i hzn
            obtain ⟨s2, hput, e5⟩ := Option.map_eq_some_iff.1 e4
            rw [← hl2] at hput
            cases e5
            obtain ⟨_, hsm, hroom, hs2⟩ := put_keeps hput
            have hneg : wrap64 (-z) = -z := by have := sml_of hsm; unfold Sml at this; unfold wrap64; omega
            obtain ⟨ids2, vv2, hv2, pv2, lv2, tv2, mv2, bm2, kvs2, H2⟩ := HS1.out.frm0 HF3.out
            obtain ⟨x2, v2, hcl2, hblk2, hrow2, hrole2⟩ := H2.cl_at HB.out
            have hv2e : v2 = .slice (some ⟨g, 0, none⟩) (r.length + 1 + 1) cc := Option.some.inj ((blk_cell hblk2 0).symm.trans b0)
            subst hv2e
            obtain ⟨cl1, hcl1, hl1⟩ := HCL1.out
            have hxx : x2 = cl1 := Option.some.inj (hcl2.symm.trans hcl1)
            subst hxx
            rw [hl1] at hrow2
            have x1 : w3.cell? ⟨g, 1, none⟩ = some (iI y) := by
              rcases hrow2.shape with ⟨_, e⟩ | ⟨_, _, e, _, _, _, hc, _⟩
              · cases e
              · cases e
                exact hc 1 y rfl
            have zz : ∀ i, w3.frozen? ⟨g, i, none⟩ = false := by
              rcases hrow2.shape with ⟨_, e⟩ | ⟨_, _, e, _, _, _, _, hz⟩
              · cases e
              · cases e
                exact hz
            have hk1 : (1 : Int) < ((r.length + 1 + 1 : Nat) : Int) := by omega
            have hjr : j < r.length := by omega
            have hgb : g ≠ b := fun e => by have h1 := HGL.out; have h2 := HB.out; rw [e, h2] at h1; cases h1
            have r4 : Row ((w3.setCell ⟨g, 1, none⟩ (iI z)).setCell ⟨g, j + 2, none⟩ (iI y)) 3 iI (.slice (some ⟨g, 0, none⟩) (r.length + 1 + 1) cc) l2 := by
              have h1 := row_set hrow2 1 (by simp) z
              have h2 := row_set h1 (j + 2) (by simp; omega) y
              rw [hl2]
              simpa using h2
            have hF4 : Frm (fun b => R b = some (.lits c)) w3 ((w3.setCell ⟨g, 1, none⟩ (iI z)).setCell ⟨g, j + 2, none⟩ (iI y)) := ((Frm.refl _ _).set (.inl HGL.out) _).set (.inl HGL.out) _
            have H4 := H2.in_lits HB.out hcl2 hblk2 hrole2 hF4 r4
            have HP2 := Lib.hid hs2
            have Hroom := Lib.hid hroom
            have HN2 := Lib.hid hneg
            have Hzn := Lib.hid hzn
            have HL2 := Lib.hid hl2
            have HCL2 := Lib.hid hcl2
            have HH4 := Lib.hid H4
            have HR4 := Lib.hid r4
            have HF4 := Lib.hid hF4
            clear e4 hsw hput hzn hsm hroom hs2 hneg H2 H4 hcl2 hblk2 hrow2 hrole2 hcl1 hl1 r4 hF4 hl2 HSKk HVS HSK hm1 hjr
            go_wp2_with fail
            refine Plan.wp_region_plan [0, 1, 3, 7, 0, 16, 48, 112, 0, 0, 512, 1536, 3584, 0, 15872, 32256, 0, 65536, 196608, 458752, 983040, 2031616, 4194047, 8388351, 16777215, 33554431] [.mk [0, 1, 2, 3, 4, 5, 6, 7, 8, 9, 10, 11, 12, 13, 14, 15, 16, 17, 18, 19, 20, 21, 22] 23 [8], .mk [24] 25 []] [] (by kernel_rfl) (by kernel_rfl) ?_
            simp only [Plan.wayOf, Plan.pickAll, List.getElem?_cons_zero, List.getElem?_cons_succ, List.getD_eq_getElem?_getD, Option.getD_some]
            refine Plan.wpWay_seg ?_
            repeat go_big_quiet_step (fail)
            refine wpQuiet_nil ?_; refine Plan.wpWay_act ?_
            go_wp2_with (fail)
            refine And.intro ?_ ?_; focus ((iterate 1 (refine Plan.again_cons ?_ ?_; focus (go_big_quiet_step (fail); exact wpQuiet_nil rfl))); exact Plan.again_nil)
            refine Plan.wpWay_seg ?_
            repeat go_big_quiet_step (fail)
            refine wpQuiet_nil ?_; refine Plan.wpWay_act ?_
            go_wp2_with (fail)
            refine And.intro Plan.again_nil ?_
            refine Plan.wpWay_last ?_
            refine wpQuiet_nil ?_; refine NoPanic.normal ?_
            obtain ⟨w4, hw4⟩ : ∃ w4, w4 = ((w3.setCell ⟨g, 1, none⟩ (iI z)).setCell ⟨g, j + 2, none⟩ (iI y)).drew := ⟨_, rfl⟩
            rw [show ((w3.setCell ⟨g, 1, none⟩ (.int .i64 z)).setCell ⟨g, j + 2, none⟩ (.int .i64 y)).drew = w4 from hw4.symm]
            have H5 := HH4.out.frm0 (Frm.refl _ _).drew
            rw [← hw4] at H5
            have hF5 := HF4.out.drew
            rw [← hw4] at hF5
            have hM5 : SMov (MovedT c n) R w3 R w4 := ⟨hF5.mono fun q _ hq => ⟨_, hq, .inl rfl⟩, fun _ _ h => h, fun _ h => .inl h⟩
            have HM5 := Lib.hid ((HM1.out.trans (SMov.of0 HF3.out)).trans hM5)
            have r5 := HR4.out.frm0 (Frm.refl _ _).drew
            rw [← hw4, HL2.out] at r5
            have b4 : w4.heap[b]? = w3.heap[b]? := hF5.block b (H5.lt b _ HB.out |> fun h => by have := World.block_lt_of_cell? _ _ b0; exact this) (fun e => by rw [HB.out] at e; cases e)
            have b0 : w4.cell? ⟨b, 0, none⟩ = some (.slice (some ⟨g, 0, none⟩) (r.length + 1 + 1) cc) := by rw [← b0]; simp only [World.cell?, b4]
            have x1 : w4.cell? ⟨g, 1, none⟩ = some (iI z) := row_get r5 rfl
            obtain ⟨_, _, _, c3, _⟩ := H5.cells
            have hbl := H5.lt p _ H5.rme
            have hbm := H5.map.lt
            have hbb := H5.lt b _ HB.out
            have hgg := H5.lt g _ HGL.out
            have HS5 := Lib.hid H5
            have hlk := lookup_run keyInt Try.underlying46 zeroL (mapAt_of_block (w' := w4.drew) H5.map rfl) (wrap64 (-z)) false
            simp only [Bool.false_eq_true, if_false] at hlk
            have hlk2 := lookup_run keyInt Try.underlying46 zeroL (w := (w4.alloc (.cells #[.pointer (some ⟨b, 0, none⟩)] 58)).drew) (H5.map.frm ((frm_alloc w4 (.cells #[.pointer (some ⟨b, 0, none⟩)] 58)).drew) id) (wrap64 (-z)) false
            simp only [Bool.false_eq_true, if_false] at hlk2
            obtain ⟨hwr, hwo, hwc⟩ := H5.row_of (-z)
            obtain ⟨WA, wc, hwv, _⟩ := hwr.slice
            have HWR := Lib.hid hwr
            have hwv2 : mval nilS vid kvs2 (wrap64 (-z)) = .slice WA (Sat.watched (litsF s1 c l2) (-z)).length wc := by rw [HN2.out]; exact hwv
            rw [hwv2] at hlk hlk2
            have HWV := Lib.hid hwv
            have hclt : c < (litsF s1 c l2).cls.length := by have := (List.getElem?_eq_some_iff.1 (lits_get (l := l2) HCL2.out)).1; exact this
            have HCLT := Lib.hid hclt
            have henc : encC ids2 c = .pointer (some ⟨b, 0, none⟩) := by
              obtain ⟨b2, h1, h2, h3⟩ := H5.clAt (c := c) hclt
              rw [h1, Option.some.inj (h3.symm.trans (H5.onec b c HB.out))]
            have HEN := Lib.hid henc
            clear H5 hF5 hM5 r5 b4 hwr hwo hwc hwv hwv2 hclt henc hw4 zz xk HH4 HR4 HF4
            go_wp2_with fail
            refine Plan.wp_region_plan [0, 1, 3, 7, 0, 16, 48, 112, 240, 496, 1008, 0, 2048, 6144, 14336, 0, 32768, 98304, 229376, 491520, 1015808, 2064384, 4192256, 0, 8388608, 33552384, 67108863] [.mk [0, 1, 2, 3, 4, 5, 6, 7, 8, 9, 10, 11, 12, 13, 14, 15, 16, 17, 18, 19, 20, 21, 22, 23] 24 [0, 1, 2, 3, 4, 5, 6, 7, 8, 9, 10, 11, 12, 13, 14, 15, 16, 17, 18, 19, 20, 21, 22], .mk [] 25 [0, 1, 2, 3, 4, 5, 6, 7, 8, 9, 10], .mk [] 26 []] [] (by kernel_rfl) (by kernel_rfl) ?_
            simp only [Plan.wayOf, Plan.pickAll, List.getElem?_cons_zero, List.getElem?_cons_succ, List.getD_eq_getElem?_getD, Option.getD_some]
            refine Plan.wpWay_seg ?_
            repeat go_big_quiet_step (fail)
            refine wpQuiet_nil ?_; refine Plan.wpWay_act ?_
            go_wp2_with (fail)
            refine And.intro ?_ ?_; focus ((iterate 23 (refine Plan.again_cons ?_ ?_; focus (go_big_quiet_step (fail); exact wpQuiet_nil rfl))); exact Plan.again_nil)
            refine Plan.wpWay_seg ?_
            refine wpQuiet_nil ?_; refine Plan.wpWay_act ?_
            refine (wpList_append_wrow rfl _ _ 47 rfl 58 i0 (.pointer none) 8 Try.underlying47 hi hz0 hz1 hz2 rfl (enc := encC ids2) (encC_one ids2) (.slice WA (Sat.watched (litsF s1 c l2) (-z)).length wc) (Sat.watched (litsF s1 c l2) (-z)) [c] rfl (HWV.out ▸ HWR.out.frm ((frm_alloc w4 (.cells #[.pointer (some ⟨b, 0, none⟩)] 58)).drew) fun _ _ => id) ⟨w4.heap.size, 0, none⟩ 1 rfl ?c1 (by simp) ?c2 ?c3 ?_)
            case c1 => intro j y hj; match j, hj with | 0, hj => (simp at hj; subst hj; rw [HEN.out]; exact blk_cell (blk_new _) 0) | j + 1, hj => (simp at hj)
            case c2 => have := Hroom.out; have : maxLen = 9223372036854775807 := rfl; simp only [List.length_cons, List.length_nil]; omega
            case c3 => have := Hroom.out; simp only [List.length_cons, List.length_nil]; omega
            intro g7 cap7 w7 hrow hfr hg hlt
            obtain ⟨n7, hn7⟩ : ∃ n7, n7 = (Sat.watched (litsF s1 c l2) (-z)).length + [c].length := ⟨_, rfl⟩
            rw [← hn7] at hrow ⊢
            clear hn7
            have HRW := Lib.hid hrow
            have HFR := Lib.hid hfr
            have HG := Lib.hid hg
            have HLT := Lib.hid hlt
            have h8 := HS5.out.frm0 ((frm_alloc w4 (.cells #[.pointer (some ⟨b, 0, none⟩)] 58)).drew)
            have hnp : ∀ {q : Nat} {r : Role}, R q = some r → (∀ k, r ≠ .wrow k) → ¬ (Value.slice WA (Sat.watched (litsF s1 c l2) (-z)).length wc).ownBlock = some q := fun hq hr e => by rw [← HWV.out] at e; have := (HS5.out.row_of (-z)).2.1 _ e; rw [hq] at this; exact hr _ (Option.some.inj this)
            have c3 : w7.cell? ⟨p, 3, none⟩ = some (.map (some bm2)) := blk_cell (blk_frm h8.box hfr (hnp h8.rme (fun k e => by cases e))) 3
            have b7 : w7.heap[b]? = (w4.alloc (.cells #[.pointer (some ⟨b, 0, none⟩)] 58)).heap[b]? := hfr.block b (h8.lt b _ HB.out) (hnp HB.out (fun k e => by cases e))
            have b0 : w7.cell? ⟨b, 0, none⟩ = some (.slice (some ⟨g, 0, none⟩) (r.length + 1 + 1) cc) := by rw [← frm_cell (frm_alloc w4 (.cells #[.pointer (some ⟨b, 0, none⟩)] 58)) b0]; simp only [World.cell?, b7]
            have g7' : w7.heap[g]? = (w4.alloc (.cells #[.pointer (some ⟨b, 0, none⟩)] 58)).heap[g]? := hfr.block g (h8.lt g _ HGL.out) (hnp HGL.out (fun k e => by cases e))
            have x1 : w7.cell? ⟨g, 1, none⟩ = some (iI z) := by rw [← frm_cell (frm_alloc w4 (.cells #[.pointer (some ⟨b, 0, none⟩)] 58)) x1]; simp only [World.cell?, g7']
            have HM7 := Lib.hid (h8.map.frm hfr (hnp h8.rmap (fun k e => by cases e)))
            clear hrow hfr hg hlt h8 hnp b7 g7'
            go_wp2_with fail
            refine And.intro ?_ ?_; focus ((iterate 11 (refine Plan.again_cons ?_ ?_; focus (go_big_quiet_step (fail); exact wpQuiet_nil rfl))); exact Plan.again_nil)
            refine Plan.wpWay_seg ?_
            refine wpQuiet_nil ?_; refine Plan.wpWay_act ?_
            refine wpList_update rfl _ _ _ 46 rfl keyInt Try.underlying46 (ev := vid) (wrap64 (-z)) (.slice (some ⟨g7, 0, none⟩) n7 cap7) rfl rfl rfl HM7.out ?_
            intro w8 hm8 hg8
            go_simp
            go_wp2_with fail
            refine And.intro Plan.again_nil ?_
            refine Plan.wpWay_last ?_
            refine wpQuiet_nil ?_; refine NoPanic.normal ?_
            have hff := (frm_alloc w4 (.cells #[.pointer (some ⟨b, 0, none⟩)] 58)).drew
            rw [HN2.out] at hm8
            obtain ⟨W1, W2⟩ := (HS5.out.frm0 hff).watch1 (k := -z) HCLT.out HRW.out (by rw [HWV.out]; exact HFR.out) (by rw [HWV.out]; exact HG.out.imp id fun e => by rw [e]; exact Nat.le_refl _) HLT.out hm8 hg8
            rw [← HP2.out] at W1
            have HS9 := Lib.hid (show SolverAt w8 _ p s' from ⟨_, _, _, _, _, _, _, _, _, W1⟩)
            have HM9 := Lib.hid ((HM5.out.trans (SMov.of0 hff)).trans (W2.mono fun r hr => hr.elim (fun e => .inr (.inl e)) fun e => .inr (.inr ⟨_, fun h => Hzn.out (by omega), e⟩)))
            clear W1 W2 hff HRW HFR HG HLT hm8 hg8 HM7 c3 hlk hlk2 hbl hbm hbb hgg b0 x1
            go_wp2
            go_ret
            exact ⟨rfl, _, HS9.out, HM9.out⟩
        · have hkI : ¬ (k : Int) < ((r.length + 1 + 1 : Nat) : Int) := by omega
          have e := HSKk.out
          rw [List.drop_eq_nil_of_le (by omega)] at e
          simp only [seekF] at e
          subst e
          have := HVS.out
          simp only [Option.some.injEq, Prod.mk.injEq] at this
          obtain ⟨rfl, rfl⟩ := this
          go_wp2
          go_ret
          exact ⟨rfl, R, HS1.out.frm0 HFk.out, HM1.out.trans (SMov.of0 HFk.out)⟩
  · simp only [if_neg han] at hs
    split at hs
    case h_1 => cases hs
    rename_i vx hvx
    have e0 : (a == wrap64 (-n)) = false := by rw [hneg]; simpa using han
    obtain ⟨x, hx⟩ : ∃ x, x = a := ⟨_, rfl⟩
    obtain ⟨y, hy⟩ : ∃ y, y = b' := ⟨_, rfl⟩
    obtain ⟨s1, hs1⟩ : ∃ s1, s1 = s := ⟨_, rfl⟩
    obtain ⟨w1, hw1⟩ : ∃ w1, w1 = w := ⟨_, rfl⟩
    have hrow1 : Row w1 3 iI (.slice (some ⟨g, 0, none⟩) (r.length + 1 + 1) cc) (x :: y :: r) := by rw [hw1, hx, hy]; exact hrow
    have HB0 : Hid (w1.cell? ⟨b, 0, none⟩ = some (.slice (some ⟨g, 0, none⟩) (r.length + 1 + 1) cc)) := Lib.hid (by rw [hw1]; exact b0)
    have HS1 : Hid (SolverAt w1 R p s1) := Lib.hid (by rw [hw1, hs1]; exact HS0.out)
    have HM1 : Hid (SMov (MovedT c n) R w1 R w1) := Lib.hid (SMov.of0 (Frm.refl _ _))
    rw [← hx, ← hy, ← hs1] at hs
    rw [← hs1] at hvx
    rw [← hx] at hvx
    rw [← hx] at e0 x0
    have HN := Lib.hid hneg
    have HGL := Lib.hid hgl
    have HCL1 : Hid (∃ cl, s1.cls[c]? = some cl ∧ cl.lits = x :: y :: r) := Lib.hid (by rw [hs1, hx, hy]; exact ⟨_, hcl, hli'⟩)
    clear hneg hgl H hcl hblk hrow hrole hli hli' ho hml x1 z1 hsn han hx hy hs1 h0
    go_enter Try.func51, Try.ntmps51
    rw [← hw1] at b0 x0 z0 ⊢
    clear hw1
    have HVF := Lib.hid (show valueF s1 x = some vx from hvx)
    clear hvx
    go_wp2_with fail
    refine (value_calls HS1.out x vx HVF.out).mono ?_
    rintro e w2 ⟨rfl, hf⟩
    have HF2 := Lib.hid hf
    have b0 := frm_cell hf b0
    clear hf
    dsimp only
    by_cases hv1 : vx = 1
    · have e1 : (vx == 1) = true := by simpa using hv1
      rw [if_pos hv1] at hs
      cases hs
      clear hv1
      go_wp2
      go_ret
      exact ⟨rfl, R, HS1.out.frm0 HF2.out, HM1.out.trans (SMov.of0 HF2.out)⟩
    · have e1 : (vx == 1) = false := by simpa using hv1
      rw [if_neg hv1] at hs
      obtain ⟨sk, hsk⟩ : ∃ sk, sk = seekF s1 r 2 := ⟨_, rfl⟩
      rw [← hsk] at hs
      have HVS := Lib.hid hs
      have HSK := Lib.hid hsk
      have HR1 := Lib.hid hrow1
      have Hlen := Lib.hid hlen
      clear hs hv1 x0 hsk hrow1 hlen hlen0 z0
      go_wp2_with fail
      go_loopw [7] (fun v7 w' => ∃ k : Nat, v7 = .int .i64 k ∧ 2 ≤ k ∧ k ≤ r.length + 1 + 1 ∧ Hid (seekF s1 (r.drop (k - 2)) k = sk) ∧ Hid (Frm (fun _ => False) w1 w')) (fun v7 _ => r.length + 1 + 1 - (intOf v7).toNat)
      case atStart => exact ⟨2, rfl, Nat.le_refl _, by omega, Lib.hid HSK.out.symm, HF2⟩
      case round =>
        obtain ⟨k, rfl, hk2, hkl, HSKk, HFk⟩ := hrel
        have b0 : wr.cell? ⟨b, 0, none⟩ = some (.slice (some ⟨g, 0, none⟩) (r.length + 1 + 1) cc) := frm_cell HFk.out HB0.out
        by_cases hkn : k < r.length + 1 + 1
        · have hkI : (k : Int) < ((r.length + 1 + 1 : Nat) : Int) := by omega
          obtain ⟨z, hz⟩ : ∃ z, z = r[k - 2]'(by omega) := ⟨_, rfl⟩
          have hz1 : (x :: y :: r)[k]? = some z := by
            obtain ⟨j, rfl⟩ : ∃ j, k = j + 2 := ⟨k - 2, by omega⟩
            simp only [Nat.add_sub_cancel] at hz
            simp only [List.getElem?_cons_succ]
            rw [hz, List.getElem?_eq_getElem]
          have xk : wr.cell? ⟨g, k, none⟩ = some (iI z) := by
            have h1 := HR1.out.frm0 HFk.out
            rcases h1.shape with ⟨_, e⟩ | ⟨_, _, e, _, _, _, hc, _⟩
            · cases e
            · cases e
              exact hc k z hz1
          have e := HSKk.out
          rw [List.drop_eq_getElem_cons (by omega), ← hz] at e
          unfold seekF at e
          split at e
          case h_1 =>
            have := HVS.out
            rw [← e] at this
            cases this
          rename_i vz hvz
          have HVZ := Lib.hid hvz
          have HZ1 := Lib.hid hz1
          clear hvz hz hz1
          go_wp2_with fail
          refine (value_calls (HS1.out.frm0 HFk.out) z vz HVZ.out).mono ?_
          rintro e3 w3 ⟨rfl, hf⟩
          have HF3 := Lib.hid (frm_then HFk.out hf)
          have b0 := frm_cell hf b0
          have xk := frm_cell hf xk
          clear hf
          dsimp only
          by_cases hm1 : vz = -1
          · have e2 : (vz != -1) = false := by rw [hm1]; rfl
            rw [if_pos hm1] at e
            have HE := Lib.hid e
            clear e hm1 xk b0
            go_wp2
            go_roundw
            case rel => exact ⟨k + 1, by rw [show wrap64 ((k : Int) + 1) = ((k + 1 : Nat) : Int) by have := Hml.out; unfold wrap64; omega], by omega, by omega, Lib.hid (by rw [show k + 1 - 2 = k - 2 + 1 by omega]; exact HE.out), HF3⟩
            case measure => rw [show wrap64 ((k : Int) + 1) = ((k + 1 : Nat) : Int) by have := Hml.out; unfold wrap64; omega]; simp only [intOf]; omega
          · have e2 : (vz != -1) = true := by simpa using hm1
            rw [if_neg hm1] at e
            subst e
            obtain ⟨j, rfl⟩ : ∃ j, k = j + 2 := ⟨k - 2, by omega⟩
            obtain ⟨l2, hl2⟩ : ∃ l2, l2 = x :: z :: r.set j y := ⟨_, rfl⟩
            have hsw : swapF (x :: y :: r) 1 (j + 2) = some l2 := by
              unfold swapF
              rw [HZ1.out, hl2]
              simp
            have e4 := HVS.out
            simp only [hsw] at e4
            rw [hl2] at e4
            simp only [] at e4
            split at e4
            case isTrue => cases e4
            rename_i hzn
            obtain ⟨s2, hput, e5⟩ := Option.map_eq_some_iff.1 e4
            rw [← hl2] at hput
            cases e5
            obtain ⟨_, hsm, hroom, hs2⟩ := put_keeps hput
            have hneg : wrap64 (-z) = -z := by have := sml_of hsm; unfold Sml at this; unfold wrap64; omega
            obtain ⟨ids2, vv2, hv2, pv2, lv2, tv2, mv2, bm2, kvs2, H2⟩ := HS1.out.frm0 HF3.out
            obtain ⟨x2, v2, hcl2, hblk2, hrow2, hrole2⟩ := H2.cl_at HB.out
            have hv2e : v2 = .slice (some ⟨g, 0, none⟩) (r.length + 1 + 1) cc := Option.some.inj ((blk_cell hblk2 0).symm.trans b0)
            subst hv2e
            obtain ⟨cl1, hcl1, hl1⟩ := HCL1.out
            have hxx : x2 = cl1 := Option.some.inj (hcl2.symm.trans hcl1)
            subst hxx
            rw [hl1] at hrow2
            have x1 : w3.cell? ⟨g, 1, none⟩ = some (iI y) := by
              rcases hrow2.shape with ⟨_, e⟩ | ⟨_, _, e, _, _, _, hc, _⟩
              · cases e
              · cases e
                exact hc 1 y rfl
            have zz : ∀ i, w3.frozen? ⟨g, i, none⟩ = false := by
              rcases hrow2.shape with ⟨_, e⟩ | ⟨_, _, e, _, _, _, _, hz⟩
              · cases e
              · cases e
                exact hz
            have hk1 : (1 : Int) < ((r.length + 1 + 1 : Nat) : Int) := by omega
            have hjr : j < r.length := by omega
            have hgb : g ≠ b := fun e => by have h1 := HGL.out; have h2 := HB.out; rw [e, h2] at h1; cases h1
            have r4 : Row ((w3.setCell ⟨g, 1, none⟩ (iI z)).setCell ⟨g, j + 2, none⟩ (iI y)) 3 iI (.slice (some ⟨g, 0, none⟩) (r.length + 1 + 1) cc) l2 := by
              have h1 := row_set hrow2 1 (by simp) z
              have h2 := row_set h1 (j + 2) (by simp; omega) y
              rw [hl2]
              simpa using h2
            have hF4 : Frm (fun b => R b = some (.lits c)) w3 ((w3.setCell ⟨g, 1, none⟩ (iI z)).setCell ⟨g, j + 2, none⟩ (iI y)) := ((Frm.refl _ _).set (.inl HGL.out) _).set (.inl HGL.out) _
            have H4 := H2.in_lits HB.out hcl2 hblk2 hrole2 hF4 r4
            have HP2 := Lib.hid hs2
            have Hroom := Lib.hid hroom
            have HN2 := Lib.hid hneg
            have Hzn := Lib.hid hzn
            have HL2 := Lib.hid hl2
            have HCL2 := Lib.hid hcl2
            have HH4 := Lib.hid H4
            have HR4 := Lib.hid r4
            have HF4 := Lib.hid hF4
            clear e4 hsw hput hzn hsm hroom hs2 hneg H2 H4 hcl2 hblk2 hrow2 hrole2 hcl1 hl1 r4 hF4 hl2 HSKk HVS HSK hm1 hjr
            go_wp2_with fail
            refine Plan.wp_region_plan [0, 1, 3, 7, 0, 16, 48, 112, 0, 0, 512, 1536, 3584, 0, 15872, 32256, 0, 65536, 196608, 458752, 983040, 2031616, 4194047, 8388351, 16777215, 33554431] [.mk [0, 1, 2, 3, 4, 5, 6, 7, 8, 9, 10, 11, 12, 13, 14, 15, 16, 17, 18, 19, 20, 21, 22] 23 [8], .mk [24] 25 []] [] (by kernel_rfl) (by kernel_rfl) ?_
            simp only [Plan.wayOf, Plan.pickAll, List.getElem?_cons_zero, List.getElem?_cons_succ, List.getD_eq_getElem?_getD, Option.getD_some]
            refine Plan.wpWay_seg ?_
            repeat go_big_quiet_step (fail)
            refine wpQuiet_nil ?_; refine Plan.wpWay_act ?_
            go_wp2_with (fail)
            refine And.intro ?_ ?_; focus ((iterate 1 (refine Plan.again_cons ?_ ?_; focus (go_big_quiet_step (fail); exact wpQuiet_nil rfl))); exact Plan.again_nil)
            refine Plan.wpWay_seg ?_
            repeat go_big_quiet_step (fail)
            refine wpQuiet_nil ?_; refine Plan.wpWay_act ?_
            go_wp2_with (fail)
            refine And.intro Plan.again_nil ?_
            refine Plan.wpWay_last ?_
            refine wpQuiet_nil ?_; refine NoPanic.normal ?_
            obtain ⟨w4, hw4⟩ : ∃ w4, w4 = ((w3.setCell ⟨g, 1, none⟩ (iI z)).setCell ⟨g, j + 2, none⟩ (iI y)).drew := ⟨_, rfl⟩
            rw [show ((w3.setCell ⟨g, 1, none⟩ (.int .i64 z)).setCell ⟨g, j + 2, none⟩ (.int .i64 y)).drew = w4 from hw4.symm]
            have H5 := HH4.out.frm0 (Frm.refl _ _).drew
            rw [← hw4] at H5
            have hF5 := HF4.out.drew
            rw [← hw4] at hF5
            have hM5 : SMov (MovedT c n) R w3 R w4 := ⟨hF5.mono fun q _ hq => ⟨_, hq, .inl rfl⟩, fun _ _ h => h, fun _ h => .inl h⟩
            have HM5 := Lib.hid ((HM1.out.trans (SMov.of0 HF3.out)).trans hM5)
            have r5 := HR4.out.frm0 (Frm.refl _ _).drew
            rw [← hw4, HL2.out] at r5
            have b4 : w4.heap[b]? = w3.heap[b]? := hF5.block b (H5.lt b _ HB.out |> fun h => by have := World.block_lt_of_cell? _ _ b0; exact this) (fun e => by rw [HB.out] at e; cases e)
            have b0 : w4.cell? ⟨b, 0, none⟩ = some (.slice (some ⟨g, 0, none⟩) (r.length + 1 + 1) cc) := by rw [← b0]; simp only [World.cell?, b4]
            have x1 : w4.cell? ⟨g, 1, none⟩ = some (iI z) := row_get r5 rfl
            obtain ⟨_, _, _, c3, _⟩ := H5.cells
            have hbl := H5.lt p _ H5.rme
            have hbm := H5.map.lt
            have hbb := H5.lt b _ HB.out
            have hgg := H5.lt g _ HGL.out
            have HS5 := Lib.hid H5
            have hlk := lookup_run keyInt Try.underlying46 zeroL (mapAt_of_block (w' := w4.drew) H5.map rfl) (wrap64 (-z)) false
            simp only [Bool.false_eq_true, if_false] at hlk
            have hlk2 := lookup_run keyInt Try.underlying46 zeroL (w := (w4.alloc (.cells #[.pointer (some ⟨b, 0, none⟩)] 58)).drew) (H5.map.frm ((frm_alloc w4 (.cells #[.pointer (some ⟨b, 0, none⟩)] 58)).drew) id) (wrap64 (-z)) false
            simp only [Bool.false_eq_true, if_false] at hlk2
            obtain ⟨hwr, hwo, hwc⟩ := H5.row_of (-z)
            obtain ⟨WA, wc, hwv, _⟩ := hwr.slice
            have HWR := Lib.hid hwr
            have hwv2 : mval nilS vid kvs2 (wrap64 (-z)) = .slice WA (Sat.watched (litsF s1 c l2) (-z)).length wc := by rw [HN2.out]; exact hwv
            rw [hwv2] at hlk hlk2
            have HWV := Lib.hid hwv
            have hclt : c < (litsF s1 c l2).cls.length := by have := (List.getElem?_eq_some_iff.1 (lits_get (l := l2) HCL2.out)).1; exact this
            have HCLT := Lib.hid hclt
            have henc : encC ids2 c = .pointer (some ⟨b, 0, none⟩) := by
              obtain ⟨b2, h1, h2, h3⟩ := H5.clAt (c := c) hclt
              rw [h1, Option.some.inj (h3.symm.trans (H5.onec b c HB.out))]
            have HEN := Lib.hid henc
            clear H5 hF5 hM5 r5 b4 hwr hwo hwc hwv hwv2 hclt henc hw4 zz xk HH4 HR4 HF4
            go_wp2_with fail
            refine Plan.wp_region_plan [0, 1, 3, 7, 0, 16, 48, 112, 240, 496, 1008, 0, 2048, 6144, 14336, 0, 32768, 98304, 229376, 491520, 1015808, 2064384, 4192256, 0, 8388608, 33552384, 67108863] [.mk [0, 1, 2, 3, 4, 5, 6, 7, 8, 9, 10, 11, 12, 13, 14, 15, 16, 17, 18, 19, 20, 21, 22, 23] 24 [0, 1, 2, 3, 4, 5, 6, 7, 8, 9, 10, 11, 12, 13, 14, 15, 16, 17, 18, 19, 20, 21, 22], .mk [] 25 [0, 1, 2, 3, 4, 5, 6, 7, 8, 9, 10], .mk [] 26 []] [] (by kernel_rfl) (by kernel_rfl) ?_
            simp only [Plan.wayOf, Plan.pickAll, List.getElem?_cons_zero, List.getElem?_cons_succ, List.getD_eq_getElem?_getD, Option.getD_some]
            refine Plan.wpWay_seg ?_
            repeat go_big_quiet_step (fail)
            refine wpQuiet_nil ?_; refine Plan.wpWay_act ?_
            go_wp2_with (fail)
            refine And.intro ?_ ?_; focus ((iterate 23 (refine Plan.again_cons ?_ ?_; focus (go_big_quiet_step (fail); exact wpQuiet_nil rfl))); exact Plan.again_nil)
            refine Plan.wpWay_seg ?_
            refine wpQuiet_nil ?_; refine Plan.wpWay_act ?_
            refine (wpList_append_wrow rfl _ _ 47 rfl 58 i0 (.pointer none) 8 Try.underlying47 hi hz0 hz1 hz2 rfl (enc := encC ids2) (encC_one ids2) (.slice WA (Sat.watched (litsF s1 c l2) (-z)).length wc) (Sat.watched (litsF s1 c l2) (-z)) [c] rfl (HWV.out ▸ HWR.out.frm ((frm_alloc w4 (.cells #[.pointer (some ⟨b, 0, none⟩)] 58)).drew) fun _ _ => id) ⟨w4.heap.size, 0, none⟩ 1 rfl ?c1 (by simp) ?c2 ?c3 ?_)
            case c1 => intro j y hj; match j, hj with | 0, hj => (simp at hj; subst hj; rw [HEN.out]; exact blk_cell (blk_new _) 0) | j + 1, hj => (simp at hj)
            case c2 => have := Hroom.out; have : maxLen = 9223372036854775807 := rfl; simp only [List.length_cons, List.length_nil]; omega
            case c3 => have := Hroom.out; simp only [List.length_cons, List.length_nil]; omega
            intro g7 cap7 w7 hrow hfr hg hlt
            obtain ⟨n7, hn7⟩ : ∃ n7, n7 = (Sat.watched (litsF s1 c l2) (-z)).length + [c].length := ⟨_, rfl⟩
            rw [← hn7] at hrow ⊢
            clear hn7
            have HRW := Lib.hid hrow
            have HFR := Lib.hid hfr
            have HG := Lib.hid hg
            have HLT := Lib.hid hlt
            have h8 := HS5.out.frm0 ((frm_alloc w4 (.cells #[.pointer (some ⟨b, 0, none⟩)] 58)).drew)
            have hnp : ∀ {q : Nat} {r : Role}, R q = some r → (∀ k, r ≠ .wrow k) → ¬ (Value.slice WA (Sat.watched (litsF s1 c l2) (-z)).length wc).ownBlock = some q := fun hq hr e => by rw [← HWV.out] at e; have := (HS5.out.row_of (-z)).2.1 _ e; rw [hq] at this; exact hr _ (Option.some.inj this)
            have c3 : w7.cell? ⟨p, 3, none⟩ = some (.map (some bm2)) := blk_cell (blk_frm h8.box hfr (hnp h8.rme (fun k e => by cases e))) 3
            have b7 : w7.heap[b]? = (w4.alloc (.cells #[.pointer (some ⟨b, 0, none⟩)] 58)).heap[b]? := hfr.block b (h8.lt b _ HB.out) (hnp HB.out (fun k e => by cases e))
            have b0 : w7.cell? ⟨b, 0, none⟩ = some (.slice (some ⟨g, 0, none⟩) (r.length + 1 + 1) cc) := by rw [← frm_cell (frm_alloc w4 (.cells #[.pointer (some ⟨b, 0, none⟩)] 58)) b0]; simp only [World.cell?, b7]
            have g7' : w7.heap[g]? = (w4.alloc (.cells #[.pointer (some ⟨b, 0, none⟩)] 58)).heap[g]? := hfr.block g (h8.lt g _ HGL.out) (hnp HGL.out (fun k e => by cases e))
            have x1 : w7.cell? ⟨g, 1, none⟩ = some (iI z) := by rw [← frm_cell (frm_alloc w4 (.cells #[.pointer (some ⟨b, 0, none⟩)] 58)) x1]; simp only [World.cell?, g7']
            have HM7 := Lib.hid (h8.map.frm hfr (hnp h8.rmap (fun k e => by cases e)))
            clear hrow hfr hg hlt h8 hnp b7 g7'
            go_wp2_with fail
            refine And.intro ?_ ?_; focus ((iterate 11 (refine Plan.again_cons ?_ ?_; focus (go_big_quiet_step (fail); exact wpQuiet_nil rfl))); exact Plan.again_nil)
            refine Plan.wpWay_seg ?_
            refine wpQuiet_nil ?_; refine Plan.wpWay_act ?_
            refine wpList_update rfl _ _ _ 46 rfl keyInt Try.underlying46 (ev := vid) (wrap64 (-z)) (.slice (some ⟨g7, 0, none⟩) n7 cap7) rfl rfl rfl HM7.out ?_
            intro w8 hm8 hg8
            go_simp
            go_wp2_with fail
            refine And.intro Plan.again_nil ?_
            refine Plan.wpWay_last ?_
            refine wpQuiet_nil ?_; refine NoPanic.normal ?_
            have hff := (frm_alloc w4 (.cells #[.pointer (some ⟨b, 0, none⟩)] 58)).drew
            rw [HN2.out] at hm8
            obtain ⟨W1, W2⟩ := (HS5.out.frm0 hff).watch1 (k := -z) HCLT.out HRW.out (by rw [HWV.out]; exact HFR.out) (by rw [HWV.out]; exact HG.out.imp id fun e => by rw [e]; exact Nat.le_refl _) HLT.out hm8 hg8
            rw [← HP2.out] at W1
            have HS9 := Lib.hid (show SolverAt w8 _ p s' from ⟨_, _, _, _, _, _, _, _, _, W1⟩)
            have HM9 := Lib.hid ((HM5.out.trans (SMov.of0 hff)).trans (W2.mono fun r hr => hr.elim (fun e => .inr (.inl e)) fun e => .inr (.inr ⟨_, fun h => Hzn.out (by omega), e⟩)))
            clear W1 W2 hff HRW HFR HG HLT hm8 hg8 HM7 c3 hlk hlk2 hbl hbm hbb hgg b0 x1
            go_wp2
            go_ret
            exact ⟨rfl, _, HS9.out, HM9.out⟩
        · have hkI : ¬ (k : Int) < ((r.length + 1 + 1 : Nat) : Int) := by omega
          have e := HSKk.out
          rw [List.drop_eq_nil_of_le (by omega)] at e
          simp only [seekF] at e
          subst e
          have := HVS.out
          simp only [Option.some.injEq, Prod.mk.injEq] at this
          obtain ⟨rfl, rfl⟩ := this
          go_wp2
          go_ret
          exact ⟨rfl, R, HS1.out.frm0 HFk.out, HM1.out.trans (SMov.of0 HFk.out)⟩
end
end SaW
end Go.Proofs.Ytfpjfogddepbkaa
/- For the walk of spread: the least fuel, rows of clauses by their blocks, append to what has no room. -/
namespace Go.Mem
open Go.RowKit
/-- The least one. -/
theorem least_ex {P : Nat → Prop} (h : ∃ k, P k) : ∃ k, P k ∧ ∀ j, P j → k ≤ j := by
  obtain ⟨k, hk⟩ := h
  induction k using Nat.strongRecOn with
  | ind k ih =>
    by_cases hex : ∃ j, j < k ∧ P j
    · obtain ⟨j, hj, hp⟩ := hex
      exact ih j hj hp
    · exact ⟨k, hk, fun j hp => Nat.le_of_not_lt fun hlt => hex ⟨j, hlt, hp⟩⟩
open Classical in
noncomputable def leastK (P : Nat → Prop) : Nat := if h : ∃ k, P k ∧ ∀ j, P j → k ≤ j then Classical.choose h else 0
theorem leastK_spec {P : Nat → Prop} (h : ∃ k, P k) : P (leastK P) ∧ ∀ j, P j → leastK P ≤ j := by
  unfold leastK
  rw [dif_pos (least_ex h)]
  exact Classical.choose_spec (least_ex h)
/-- The block that an append may write. -/
def live : Value → Option Nat
  | .slice (some a) _ (_ + 1) => some a.block
  | _ => none
theorem live_own {v : Value} {g : Nat} (h : live v = some g) : v.ownBlock = some g := by
  unfold live at h
  split at h
  · exact h
  · cases h
theorem row_cap2 {α : Type} {w : World} {e : TypeId} {enc : α → Value} {A : Option Addr} {n c : Nat} {xs : List α} (h : Row w e enc (.slice A n c) xs) : n ≤ c := by
  rcases h.shape with ⟨e1, h2⟩ | ⟨_, _, e1, _, h1, _⟩
  · injection e1 with ea eb ec
    omega
  · injection e1 with ea eb ec
    omega
theorem row_cap' {α : Type} {w : World} {e : TypeId} {enc : α → Value} {A : Option Addr} {n c : Nat} {xs : List α} (h : Row w e enc (.slice A n c) xs) : n = xs.length := by
  rcases h.shape with ⟨e1, h2⟩ | ⟨_, _, e1, _, h1, _⟩
  · injection e1 with ea eb ec
    subst h2
    exact eb
  · injection e1 with ea eb ec
section
variable {P : Program} {w : World}
theorem run_append_live (t ty e : TypeId) (i : TypeInfo) (z : Value) (bytes : Nat) (ht : P.underlying t = some (.slice e)) (hi : P.info? e = some i) (hz : i.zero = some z)
    (hsize : i.size = 1) (hby : i.bytes = bytes) (hzs : z.cells.size = 1) {α : Type} {enc : α → Value} (h1 : ∀ y, (enc y).oneCell' = true)
    (v : Value) (xs ys : List α) (hrow : WRow w e enc v xs) (ad : Addr) (c : Nat) (hc : ∀ j y, ys[j]? = some y → w.cell? (ad.add j) = some (enc y)) (hpos : 0 < ys.length) (h63 : xs.length + ys.length ≤ maxLen) (hbytes : (xs.length + ys.length) * bytes ≤ 140737488355328) :
    ∃ g cap w', (Builtin.append_ #[t, t] ty #[v, .slice (some ad) ys.length c]).run P w = .ok (.slice (some ⟨g, 0, none⟩) (xs.length + ys.length) cap) w' ∧ Row w' e enc (.slice (some ⟨g, 0, none⟩) (xs.length + ys.length) cap) (xs ++ ys) ∧ Frm (fun b => live v = some b) w w' ∧ (live v = some g ∨ g = w.heap.size) ∧ g < w'.heap.size := by
  by_cases hz : ∃ A, v = .slice A 0 0
  · obtain ⟨A, rfl⟩ := hz
    have hx : xs = [] := by
      rcases hrow with h | ⟨h, _⟩
      · exact List.eq_nil_of_length_eq_zero (row_cap' h).symm
      · exact h
    subst hx
    obtain ⟨g', cap, w', hrun, h2, h3, h4, h5⟩ := run_append_wrow (P := P) t ty e i z bytes ht hi hz hsize hby hzs h1 (.slice none 0 0) [] ys (.inl (Row.nil w e enc)) ad c hc hpos h63 hbytes
    rw [← append_noroom t ty e i z bytes ht hi hz hsize hby A ad ys.length c hpos (by simpa using h63) (by simpa using hbytes)] at hrun
    refine ⟨g', cap, w', hrun, h2, h3.mono fun b _ hb => (by cases hb), ?_, h5⟩
    rcases h4 with h4 | h4
    · cases h4
    · exact .inr h4
  · obtain ⟨g', cap, w', hrun, h2, h3, h4, h5⟩ := run_append_wrow (P := P) t ty e i z bytes ht hi ‹_› hsize hby hzs h1 v xs ys hrow ad c hc hpos h63 hbytes
    have hl : ∀ b, v.ownBlock = some b → live v = some b := by
      intro b hb
      cases v with
      | slice A n cap =>
        cases A with
        | none => cases hb
        | some a =>
          cases cap with
          | zero =>
            refine absurd ?_ hz
            have : n = 0 := by
              rcases hrow with h | ⟨_, _, h⟩
              · have := (row_cap2 h); omega
              · injection h
            subst this
            exact ⟨_, rfl⟩
          | succ cap => exact hb
      | _ => cases hb
    exact ⟨g', cap, w', hrun, h2, h3.mono fun b _ hb => hl b hb, h4.imp (hl _) id, h5⟩
theorem wpList_append_live {ops : Array Oper} {rest : List Oper} {o : Oper} {a : Act} {Q : Exit → Act → World → Prop} (hgd : o.guard = none) (s x : Operand) (t : TypeId)
    (ho : o.op = .call { callee := .builtin .append, args := #[s, x], argTypes := #[t, t] })
    (e : TypeId) (i : TypeInfo) (z : Value) (bytes : Nat) (ht : P.underlying t = some (.slice e)) (hi : P.info? e = some i) (hz : i.zero = some z)
    (hsize : i.size = 1) (hby : i.bytes = bytes) (hzs : z.cells.size = 1) {α : Type} {enc : α → Value} (h1 : ∀ y, (enc y).oneCell' = true)
    (v : Value) (xs ys : List α) (hv : a.eval s = v) (hrow : WRow w e enc v xs) (ad : Addr) (c : Nat) (hx : a.eval x = .slice (some ad) ys.length c) (hc : ∀ j y, ys[j]? = some y → w.cell? (ad.add j) = some (enc y)) (hpos : 0 < ys.length) (h63 : xs.length + ys.length ≤ maxLen) (hbytes : (xs.length + ys.length) * bytes ≤ 140737488355328)
    (h : ∀ g cap w', Row w' e enc (.slice (some ⟨g, 0, none⟩) (xs.length + ys.length) cap) (xs ++ ys) → Frm (fun b => live v = some b) w w' → (live v = some g ∨ g = w.heap.size) → g < w'.heap.size →
      wpList P ops Q rest (a.put o.dst (.slice (some ⟨g, 0, none⟩) (xs.length + ys.length) cap)) w') : wpList P ops Q (o :: rest) a w := by
  refine wpList_plain hgd fun K hK => ?_
  obtain ⟨g, cap, w', hrun, h2, h3, h4, h5⟩ := run_append_live (P := P) t o.type e i z bytes ht hi hz hsize hby hzs h1 v xs ys hrow ad c hc hpos h63 hbytes
  unfold Oper.wp execOp
  simp only [ho, resolve, invoke, builtin, Sem.run_bind, Sem.run_pure, Result.andThen_ok, List.map_toArray, List.map_cons, List.map_nil, hv, hx, hrun]
  exact hK _ _ (h g cap w' h2 h3 h4 h5)
end
end Go.Mem
namespace Go.Proofs.Ytfpjfogddepbkaa
open Go.RowKit Go.Mem Go.Sat
namespace SaW
/-- Clauses' blocks. -/
def ptrs (ids : List Nat) (l : List Nat) : List Nat := l.map fun c => ids.getD c 0
theorem row_ptrs {w : World} {ids l : List Nat} {v : Value} : Row w 58 (encC ids) v l ↔ Row w 58 ptr v (ptrs ids l) := by
  unfold Row ptrs
  rw [List.length_map, List.map_map]
  exact Iff.rfl
theorem wrow_ptrs {w : World} {ids l : List Nat} {v : Value} : WRow w 58 (encC ids) v l ↔ WRow w 58 ptr v (ptrs ids l) := by
  unfold WRow
  rw [row_ptrs]
  refine or_congr Iff.rfl (and_congr ?_ Iff.rfl)
  unfold ptrs
  simp
/-- These blocks are these clauses'. -/
inductive Bls (R : Nat → Option Role) : List Nat → List Nat → Prop
  | nil : Bls R [] []
  | cons {b c : Nat} {bs cs : List Nat} : R b = some (.cl c) → Bls R bs cs → Bls R (b :: bs) (c :: cs)
theorem Bls.len {R : Nat → Option Role} {bs cs : List Nat} (h : Bls R bs cs) : bs.length = cs.length := by
  induction h with
  | nil => rfl
  | cons _ _ ih => simp [ih]
theorem Bls.mono {R R' : Nat → Option Role} {bs cs : List Nat} (h : Bls R bs cs) (hR : ∀ b r, R b = some r → R' b = some r) : Bls R' bs cs := by
  induction h with
  | nil => exact .nil
  | cons hb _ ih => exact .cons (hR _ _ hb) ih
theorem Bls.snoc {R : Nat → Option Role} {bs cs : List Nat} (h : Bls R bs cs) {b c : Nat} (hb : R b = some (.cl c)) : Bls R (bs ++ [b]) (cs ++ [c]) := by
  induction h with
  | nil => exact .cons hb .nil
  | cons h1 _ ih => exact .cons h1 ih
theorem Bls.app {R : Nat → Option Role} {bs cs : List Nat} (h : Bls R bs cs) {b2 c2 : List Nat} (hb : Bls R b2 c2) : Bls R (bs ++ b2) (cs ++ c2) := by
  induction h with
  | nil => exact hb
  | cons h1 _ ih => exact .cons h1 ih
theorem Bls.drop {R : Nat → Option Role} {bs cs : List Nat} (h : Bls R bs cs) : ∀ k, Bls R (bs.drop k) (cs.drop k) := by
  induction h with
  | nil => intro k; simp; exact .nil
  | cons h1 h2 ih =>
    intro k
    cases k with
    | zero => exact .cons h1 h2
    | succ k => exact ih k
theorem Bls.get {R : Nat → Option Role} {bs cs : List Nat} (h : Bls R bs cs) : ∀ {k b c : Nat}, bs[k]? = some b → cs[k]? = some c → R b = some (.cl c) := by
  induction h with
  | nil => intro k b c h1; simp at h1
  | cons hb _ ih =>
    intro k b c h1 h2
    cases k with
    | zero => simp at h1 h2; rw [← h1, ← h2]; exact hb
    | succ k => exact ih (by simpa using h1) (by simpa using h2)
theorem SRep.bls {w : World} {R : Nat → Option Role} {p : Nat} {s : St} {ids : List Nat} {vv hv pv lv tv mv : Value} {bm : Nat} {kvs : List (Int × Value)} (h : SRep w R p s ids vv hv pv lv tv mv bm kvs) : ∀ {l : List Nat}, (∀ c ∈ l, c < s.cls.length) → Bls R (ptrs ids l) l
  | [], _ => .nil
  | c :: l, hl => by
    obtain ⟨b, h1, h2, h3⟩ := h.clAt (hl c List.mem_cons_self)
    refine .cons ?_ (h.bls fun d hd => hl d (List.mem_cons_of_mem _ hd))
    show R (ids.getD c 0) = _
    rw [List.getD_eq_getElem?_getD, h3]
    exact h2
theorem SRep.of_bls {w : World} {R : Nat → Option Role} {p : Nat} {s : St} {ids : List Nat} {vv hv pv lv tv mv : Value} {bm : Nat} {kvs : List (Int × Value)} (h : SRep w R p s ids vv hv pv lv tv mv bm kvs) {bs cs : List Nat} (hb : Bls R bs cs) : bs = ptrs ids cs ∧ ∀ c ∈ cs, c < s.cls.length := by
  induction hb with
  | nil => exact ⟨rfl, fun c hc => by simp at hc⟩
  | cons hb _ ih =>
    rename_i b c bs cs _
    have hi := h.onec b c hb
    refine ⟨?_, fun d hd => ?_⟩
    · show b :: bs = ids.getD c 0 :: ptrs ids cs
      rw [← ih.1, List.getD_eq_getElem?_getD, hi]
      rfl
    · rcases List.mem_cons.1 hd with rfl | hd
      · rw [← h.idl]; exact (List.getElem?_eq_some_iff.1 hi).1
      · exact ih.2 d hd
end SaW
end Go.Proofs.Ytfpjfogddepbkaa
