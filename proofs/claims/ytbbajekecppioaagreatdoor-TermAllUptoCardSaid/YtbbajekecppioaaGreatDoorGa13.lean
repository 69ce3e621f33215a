/- The pool's simple at one operand, result, Cast walked. -/
import Derived.Test.YtbbajekecppioaaGreatDoorGa12
set_option linter.unusedSimpArgs false
set_option linter.unusedVariables false
namespace Go.Proofs.YtbbajekecppioaaGreatDoor
open Go.RowKit Go.Mem Go.Wd Go.Tp
namespace TmW
def simple1F (s : TPool) (op : ByteArray) (a : Int) : Int × Bool := match nth s.l a with | some n => if n.op = op then (n.kids.headD 0, true) else (0, false) | none => (0, false)
theorem eqSS (a b : ByteArray) : (a.toList == b.toList) = decide (a = b) := by
  rw [eqS]
  have : (⟨b.toList.toArray⟩ : ByteArray) = b := by rw [Lib.toList_data]
  rw [this]
set_option maxRecDepth 100000 in
set_option maxHeartbeats 2000000 in
theorem simple1_calls {w : World} {own : Nat → Prop} {p : Nat} {s : TPool} (h : PoolAt w own p s) (op : ByteArray) (a : Int) (lv : Value) (hl : Sees w (Value.int .i64) lv [a]) (hi : op ≠ ⟨#[105, 116, 101]⟩) {n : TNode} (hn : nth s.l a = some n) (hk : n.op = op → n.kids ≠ []) :
    Calls Tryz.prog 43 #[.pointer (some ⟨p, 0, none⟩), .string op, lv] w fun e w' => e = .returned (.tuple #[.int .i64 (simple1F s op a).1, .bool (simple1F s op a).2]) ∧ Frm (fun _ => False) w w' := by
  obtain ⟨l0, l1⟩ := nth_lt hn
  obtain ⟨g, cap, kv, p0, _, hkv, _, e0, e1, e2, e3, e4, e5⟩ := h.node hn
  obtain ⟨KA, KC, rfl, hkc⟩ := sees_slice hkv.sees
  rcases hl with ⟨_, h⟩ | ⟨g', o, cap', rfl, hc1, hc2, hc⟩
  · cases h
  have c0 : w.cell? ⟨g', o, none⟩ = _ := hc 0 a rfl
  have d0 : (op.toList == [105, 116, 101]) = false := by rw [eqS]; exact decide_eq_false hi
  have hg := World.block_lt_of_cell? _ _ e0
  have hg' := World.block_lt_of_cell? _ _ c0
  have hp := World.block_lt_of_cell? _ _ p0
  by_cases ho : n.op = op
  · obtain ⟨k, hks⟩ : ∃ k, n.kids[0]? = some k := by
      cases hh : n.kids with
      | nil => exact absurd hh (hk ho)
      | cons k r => exact ⟨k, rfl⟩
    obtain ⟨gk, ok, rfl, hck⟩ := hkc 0 k hks
    have ck : w.cell? ⟨gk, ok, none⟩ = some (.int .i64 k) := hck
    have hgk := World.block_lt_of_cell? _ _ ck
    have hkl : 0 < n.kids.length := (List.getElem?_eq_some_iff.1 hks).1
    have hs : Hid (simple1F s op a = (k, true)) := Lib.hid (by
      unfold simple1F
      rw [hn]
      simp only [ho, if_true]
      cases hh : n.kids with
      | nil => rw [hh] at hks; simp at hks
      | cons k' r => rw [hh] at hks; simp at hks; rw [hks]; rfl)
    have ds : (n.op.toList == op.toList) = true := by rw [eqSS]; exact decide_eq_true ho
    clear h hn hk hkv hkc hc hi ho hck hks
    go_enter Tryz.func43, Tryz.ntmps43
    go_wp2
    refine Plan.wp_region_plan [0, 1, 3, 7, 0, 16, 48, 127, 255, 0, 1023] [.mk [0, 1, 2, 3, 4, 5, 6, 7, 8] 9 [0, 1, 2, 3, 4, 5, 6, 7, 8], .mk [] 10 []] [] (by kernel_rfl) (by kernel_rfl) ?_
    simp only [Plan.wayOf, Plan.pickAll, List.getElem?_cons_zero, List.getElem?_cons_succ, List.getD_eq_getElem?_getD, Option.getD_some]
    refine Plan.wpWay_seg ?_
    repeat go_big_quiet_step (fail)
    refine wpQuiet_nil ?_; refine Plan.wpWay_act ?_
    go_wp2_with (fail)
    refine And.intro ?_ ?_; focus ((iterate 9 (refine Plan.again_cons ?_ ?_; focus (go_big_quiet_step (fail); exact wpQuiet_nil rfl))); exact Plan.again_nil)
    refine Plan.wpWay_seg ?_
    refine wpQuiet_nil ?_; refine Plan.wpWay_act ?_
    go_wp2_with (fail)
    refine And.intro Plan.again_nil ?_
    refine Plan.wpWay_last ?_
    refine wpQuiet_nil ?_; refine NoPanic.normal ?_
    go_wp2
    go_ret2
    exact ⟨by rw [hs.out]; rfl, (frm_alloc _ _).drew⟩
  · have hs : Hid (simple1F s op a = (0, false)) := Lib.hid (by unfold simple1F; rw [hn]; simp only [ho, if_false])
    have ds : (n.op.toList == op.toList) = false := by rw [eqSS]; exact decide_eq_false ho
    clear h hn hk hkv hkc hc hi ho
    go_enter Tryz.func43, Tryz.ntmps43
    go_wp2
    refine Plan.wp_region_plan [0, 1, 3, 7, 0, 16, 48, 127, 255, 0, 1023] [.mk [0, 1, 2, 3, 4, 5, 6, 7, 8] 9 [0, 1, 2, 3, 4, 5, 6, 7, 8], .mk [] 10 []] [] (by kernel_rfl) (by kernel_rfl) ?_
    simp only [Plan.wayOf, Plan.pickAll, List.getElem?_cons_zero, List.getElem?_cons_succ, List.getD_eq_getElem?_getD, Option.getD_some]
    refine Plan.wpWay_seg ?_
    repeat go_big_quiet_step (fail)
    refine wpQuiet_nil ?_; refine Plan.wpWay_act ?_
    go_wp2_with (fail)
    refine And.intro ?_ ?_; focus ((iterate 9 (refine Plan.again_cons ?_ ?_; focus (go_big_quiet_step (fail); exact wpQuiet_nil rfl))); exact Plan.again_nil)
    refine Plan.wpWay_seg ?_
    refine wpQuiet_nil ?_; refine Plan.wpWay_act ?_
    go_wp2_with (fail)
    refine And.intro Plan.again_nil ?_
    refine Plan.wpWay_last ?_
    refine wpQuiet_nil ?_; refine NoPanic.normal ?_
    go_wp2
    go_ret2
    exact ⟨by rw [hs.out]; rfl, (frm_alloc _ _).drew⟩
def resultF (op : ByteArray) (t : Ty) : Ty := if (testF t op 0 0).2 = 0 ∨ op = ⟨#[38, 38]⟩ ∨ op = ⟨#[124, 124]⟩ then (1, false) else t
set_option maxRecDepth 100000 in
set_option maxHeartbeats 2000000 in
theorem result_calls (w : World) (hE : Env w) (op : ByteArray) (t : Ty) :
    Calls Tryz.prog 70 #[.string op, .agg #[.int .i64 t.1, .bool t.2]] w fun e w' => e = .returned (.agg #[.int .i64 (resultF op t).1, .bool (resultF op t).2]) ∧ Frm (fun _ => False) w w' := by
  have hF := Lib.hid ((frm_alloc w (.cells #[.int .i64 t.1, .bool t.2] 23)).alloc (.cells #[.int .i64 0, .bool false] 23))
  have HT := Lib.hid (fun w1 (hf : Frm (fun _ => False) w w1) => (show Calls Tryz.prog 64 #[.agg #[.int .i64 t.1, .bool t.2], .string op, .int .u64 0, .int .u64 0] w1 _ from Test_calls w1 t op 0 0 (by decide) (by decide) (hE.frm0 hf).tabs))
  have HB0 := Lib.hid (blk_alloc (blk_new (w := w) (.cells #[.int .i64 t.1, .bool t.2] 23)) (.cells #[.int .i64 0, .bool false] 23))
  have HC0 := Lib.hid (show ((w.alloc (.cells #[.int .i64 t.1, .bool t.2] 23)).alloc (.cells #[.int .i64 0, .bool false] 23)).heap[w.heap.size + 1]? = some (.cells #[.int .i64 0, .bool false] 23) from blk_new_at _ (by simp))
  clear hE
  by_cases h1 : (testF t op 0 0).2 = 0
  · have d : ((testF t op 0 0).2 == 0) = true := by simp [h1]
    have hs : Hid (resultF op t = (1, false)) := Lib.hid (by unfold resultF; simp [h1])
    generalize testF t op 0 0 = tt at *
    clear h1
    go_enter Tryz.func70, Tryz.ntmps70
    go_wp2_with fail
    refine (HT.out _ hF.out).mono ?_
    rintro e w1 ⟨rfl, hf1⟩
    obtain ⟨HB1, b0, b1⟩ := box_at HB0.out hf1
    obtain ⟨HC1, c0, c1⟩ := box_at HC0.out hf1
    have f0 := blk_free HC1 0
    have f1 := blk_free HC1 1
    have HF1 := Lib.hid (frm_then hF.out hf1)
    have HBX := Lib.hid HC1
    have hl1 := lt_of_block HC1
    clear hf1 HB1 HC1
    go_wp2_with fail
    refine (boolean_calls _).mono ?_
    rintro e w2 ⟨rfl, hf2⟩
    obtain ⟨HC2, c2, c3⟩ := box_at HBX.out hf2
    have f2 := blk_free HC2 0
    have f3 := blk_free HC2 1
    have HF2 := Lib.hid (frm_then HF1.out hf2)
    clear hf2 HC2
    go_wp2
    refine bodyPost_ret (v := .agg #[.int .i64 1, .bool false]) ?_ rfl ⟨by rw [hs.out], (HF2.out.set (p := ⟨w.heap.size + 1, 0, none⟩) (.inr (Nat.le_succ _)) _).set (p := ⟨w.heap.size + 1, 1, none⟩) (.inr (Nat.le_succ _)) _⟩
    simp [results, Tryz.results70, go_sem, c2, c3]
  · have d : ((testF t op 0 0).2 == 0) = false := by simp [h1]
    cases d1 : (op.toList == [38, 38])
    · cases d2 : (op.toList == [124, 124])
      · have hs : Hid (resultF op t = t) := Lib.hid (by
          unfold resultF
          rw [eqS] at d1 d2
          rw [if_neg]
          simp at d1 d2
          simp [h1, d1, d2])
        generalize testF t op 0 0 = tt at *
        clear h1
        go_enter Tryz.func70, Tryz.ntmps70
        go_wp2_with fail
        refine (HT.out _ hF.out).mono ?_
        rintro e w1 ⟨rfl, hf1⟩
        obtain ⟨HB1, b0, b1⟩ := box_at HB0.out hf1
        obtain ⟨HC1, c0, c1⟩ := box_at HC0.out hf1
        have f0 := blk_free HC1 0
        have f1 := blk_free HC1 1
        have HF1 := Lib.hid (frm_then hF.out hf1)
        have HBX := Lib.hid HC1
        have hl1 := lt_of_block HC1
        clear hf1 HB1 HC1
        go_wp2
        refine bodyPost_ret (v := .agg #[.int .i64 t.1, .bool t.2]) ?_ rfl ⟨by rw [hs.out], (HF1.out.set (p := ⟨w.heap.size + 1, 0, none⟩) (.inr (Nat.le_succ _)) _).set (p := ⟨w.heap.size + 1, 1, none⟩) (.inr (Nat.le_succ _)) _⟩
        simp [results, Tryz.results70, go_sem, c0, c1]
      · have hs : Hid (resultF op t = (1, false)) := Lib.hid (by
          unfold resultF
          rw [eqS] at d2
          simp at d2
          simp [d2])
        generalize testF t op 0 0 = tt at *
        clear h1
        go_enter Tryz.func70, Tryz.ntmps70
        go_wp2_with fail
        refine (HT.out _ hF.out).mono ?_
        rintro e w1 ⟨rfl, hf1⟩
        obtain ⟨HB1, b0, b1⟩ := box_at HB0.out hf1
        obtain ⟨HC1, c0, c1⟩ := box_at HC0.out hf1
        have f0 := blk_free HC1 0
        have f1 := blk_free HC1 1
        have HF1 := Lib.hid (frm_then hF.out hf1)
        have HBX := Lib.hid HC1
        have hl1 := lt_of_block HC1
        clear hf1 HB1 HC1
        go_wp2_with fail
        refine (boolean_calls _).mono ?_
        rintro e w2 ⟨rfl, hf2⟩
        obtain ⟨HC2, c2, c3⟩ := box_at HBX.out hf2
        have f2 := blk_free HC2 0
        have f3 := blk_free HC2 1
        have HF2 := Lib.hid (frm_then HF1.out hf2)
        clear hf2 HC2
        go_wp2
        refine bodyPost_ret (v := .agg #[.int .i64 1, .bool false]) ?_ rfl ⟨by rw [hs.out], (HF2.out.set (p := ⟨w.heap.size + 1, 0, none⟩) (.inr (Nat.le_succ _)) _).set (p := ⟨w.heap.size + 1, 1, none⟩) (.inr (Nat.le_succ _)) _⟩
        simp [results, Tryz.results70, go_sem, c2, c3]
    · have hs : Hid (resultF op t = (1, false)) := Lib.hid (by
        unfold resultF
        rw [eqS] at d1
        simp at d1
        simp [d1])
      generalize testF t op 0 0 = tt at *
      clear h1
      go_enter Tryz.func70, Tryz.ntmps70
      go_wp2_with fail
      refine (HT.out _ hF.out).mono ?_
      rintro e w1 ⟨rfl, hf1⟩
      obtain ⟨HB1, b0, b1⟩ := box_at HB0.out hf1
      obtain ⟨HC1, c0, c1⟩ := box_at HC0.out hf1
      have f0 := blk_free HC1 0
      have f1 := blk_free HC1 1
      have HF1 := Lib.hid (frm_then hF.out hf1)
      have HBX := Lib.hid HC1
      have hl1 := lt_of_block HC1
      clear hf1 HB1 HC1
      go_wp2_with fail
      refine (boolean_calls _).mono ?_
      rintro e w2 ⟨rfl, hf2⟩
      obtain ⟨HC2, c2, c3⟩ := box_at HBX.out hf2
      have f2 := blk_free HC2 0
      have f3 := blk_free HC2 1
      have HF2 := Lib.hid (frm_then HF1.out hf2)
      clear hf2 HC2
      go_wp2
      refine bodyPost_ret (v := .agg #[.int .i64 1, .bool false]) ?_ rfl ⟨by rw [hs.out], (HF2.out.set (p := ⟨w.heap.size + 1, 0, none⟩) (.inr (Nat.le_succ _)) _).set (p := ⟨w.heap.size + 1, 1, none⟩) (.inr (Nat.le_succ _)) _⟩
      simp [results, Tryz.results70, go_sem, c2, c3]
end TmW
end Go.Proofs.YtbbajekecppioaaGreatDoor
/- The pool's Cast walked. -/
namespace Go.Proofs.YtbbajekecppioaaGreatDoor
open Go.RowKit Go.Mem Go.Wd Go.Tp
namespace TmW
def sCast : ByteArray := ⟨#[99, 97, 115, 116]⟩
def castN (t : Ty) (f : Int) : TNode := ⟨sCast, t, 0, 0, [f]⟩
def CastF (s : TPool) (t : Ty) (f : Int) : (Int × Int) × TPool :=
  if inP s f = true then
    if rightF t = true then
      if typeF s f = t then ((f, 0), s)
      else if (constF s f).2 = true then (((numF s t (castF (typeF s f) t (constF s f).1)).1, 0), (numF s t (castF (typeF s f) t (constF s f).1)).2)
      else (((nodeF s (castN t f)).1, 0), (nodeF s (castN t f)).2)
    else ((0, 100), s)
  else ((0, 101), s)
theorem castF_lt (s t : Ty) (v : Nat) : castF s t v < 2 ^ 64 := by
  unfold castF
  split
  · split
    · have := Nat.min_le_right (normF s v) 1; omega
    · exact norm_lt64 _ _
  · omega
set_option maxRecDepth 100000 in
set_option maxHeartbeats 4000000 in
theorem PCast_calls {w : World} {own : Nat → Prop} {p : Nat} {s : TPool} (hE : Env w) (h : PoolAt w own p s) (t : Ty) (f : Int) (hcn : (constF s f).1 < 2 ^ 64) (hroom : s.l.length < 4294967296) :
    Calls Tryz.prog 16 #[.pointer (some ⟨p, 0, none⟩), .agg #[.int .i64 t.1, .bool t.2], .int .i64 f] w (TPost own w p (.tuple #[.int .i64 (CastF s t f).1.1, .int .i64 (CastF s t f).1.2]) (CastF s t f).2) := by
  obtain ⟨x, sg⟩ := t
  have hF := Lib.hid (frm_alloc w (.cells #[.int .i64 x, .bool sg] 23))
  have HB0 := Lib.hid (Box.new w (x, sg))
  have HH := Lib.hid (has1 (h.alloc (.cells #[.int .i64 x, .bool sg] 23)) f (w.heap.size + 1) (by simp))
  have HR := Lib.hid (fun w1 (hf : Frm (fun _ => False) w w1) => Right_calls w1 (x, sg) (hE.frm0 hf).tabs)
  have HP := Lib.hid h
  have HE := Lib.hid hE
  clear hE
  cases hn : nth s.l f with
  | none =>
    have hs : Hid (CastF s (x, sg) f = ((0, 101), s)) := Lib.hid (by unfold CastF; rw [nth_out hn]; rfl)
    rw [nth_out hn] at HH
    clear h hn hcn HR
    go_enter Tryz.func16, Tryz.ntmps16
    go_wp2_with fail
    refine HH.out.mono ?_
    rintro e w1 ⟨rfl, hf1⟩
    have HF1 := Lib.hid (frm_then hF.out hf1)
    have HB1 := Lib.hid (HB0.out.frm0 hf1)
    obtain ⟨b0, b1⟩ := HB1.out.cells
    clear hf1
    go_wp2
    go_ret2
    rw [hs.out]
    exact TPost.same HP.out rfl HF1.out
  | some n =>
    obtain ⟨op, ty, num, v, kids⟩ := n
    have hin := nth_in hn
    have htf : typeF s f = ty := by unfold typeF; rw [hn]
    have HN := Lib.hid hn
    obtain ⟨l0, l1⟩ := nth_lt hn
    have hf64 : is64 f := ⟨by omega, by omega⟩
    rw [hin] at HH
    have hs0 := Lib.hid (show CastF s (x, sg) f = _ from if_pos hin)
    rw [htf] at hs0
    clear hin htf hn
    by_cases hr : rightF (x, sg) = true
    case neg =>
      have hs := Lib.hid (hs0.out.trans (if_neg hr))
      rw [show rightF (x, sg) = false by simpa using hr] at HR
      clear hr hs0 h hcn
      go_enter Tryz.func16, Tryz.ntmps16
      go_wp2_with fail
      refine HH.out.mono ?_
      rintro e w1 ⟨rfl, hf1⟩
      have HF1 := Lib.hid (frm_then hF.out hf1)
      have HB1 := Lib.hid (HB0.out.frm0 hf1)
      obtain ⟨b0, b1⟩ := HB1.out.cells
      clear hf1
      go_wp2_with fail
      refine (HR.out _ HF1.out).mono ?_
      rintro e w2 ⟨rfl, hf2⟩
      have HF2 := Lib.hid (frm_then HF1.out hf2)
      have HB2 := Lib.hid (HB1.out.frm0 hf2)
      obtain ⟨c0, c1⟩ := HB2.out.cells
      clear hf2
      go_wp2
      go_ret2
      rw [hs.out]
      exact TPost.same HP.out rfl HF2.out
    case pos =>
    have hs1 := Lib.hid (hs0.out.trans (if_pos hr))
    rw [hr] at HR
    clear hr hs0 h
    by_cases hyx : ty = (x, sg)
    · have hs := Lib.hid (hs1.out.trans (if_pos hyx))
      subst hyx
      clear hs1 hcn
      go_enter Tryz.func16, Tryz.ntmps16
      go_wp2_with fail
      refine HH.out.mono ?_
      rintro e w1 ⟨rfl, hf1⟩
      have HF1 := Lib.hid (frm_then hF.out hf1)
      have HB1 := Lib.hid (HB0.out.frm0 hf1)
      obtain ⟨b0, b1⟩ := HB1.out.cells
      clear hf1
      go_wp2_with fail
      refine (HR.out _ HF1.out).mono ?_
      rintro e w2 ⟨rfl, hf2⟩
      have HF2 := Lib.hid (frm_then HF1.out hf2)
      have HB2 := Lib.hid (HB1.out.frm0 hf2)
      obtain ⟨c0, c1⟩ := HB2.out.cells
      clear hf2
      obtain ⟨gp, cp, kv, p0, _, _, _, e0, e1, e2, e3, e4, e5⟩ := (HP.out.frm0 HF2.out).node HN.out
      dsimp only at e1 e2
      clear e0 e3 e4 e5
      go_wp2
      go_quiet (fail)
      obtain ⟨w3, hw3⟩ : ∃ w3, w3 = w2.drewN nq := ⟨_, rfl⟩
      rw [← hw3]
      have HF3 := Lib.hid (show Frm (fun _ => False) w w3 by rw [hw3]; exact HF2.out.drewN _)
      have HB3 := Lib.hid (show Box w3 w.heap.size (x, sg) by rw [hw3]; exact HB2.out)
      clear hw3
      go_wp2
      go_ret2
      rw [hs.out]
      exact TPost.same HP.out rfl HF3.out
    · have hs2 := Lib.hid (hs1.out.trans (if_neg hyx))
      generalize hcc : constF s f = cc at *
      obtain ⟨cn, ci⟩ := cc
      dsimp only at hs2 hcn
      have HCC := Lib.hid hcc
      clear hs1 hcc
      by_cases hx : ty.1 = x
      · have hd1 : (ty.1 == x) = true := by simp [hx]
        have hne : ty.2 ≠ sg := fun e => hyx (Prod.ext hx e)
        have hd2 : (ty.2 == sg) = false := by simp [hne]
        clear hyx hx hne
        go_enter Tryz.func16, Tryz.ntmps16
        go_wp2_with fail
        refine HH.out.mono ?_
        rintro e w1 ⟨rfl, hf1⟩
        have HF1 := Lib.hid (frm_then hF.out hf1)
        have HB1 := Lib.hid (HB0.out.frm0 hf1)
        obtain ⟨b0, b1⟩ := HB1.out.cells
        clear hf1
        go_wp2_with fail
        refine (HR.out _ HF1.out).mono ?_
        rintro e w2 ⟨rfl, hf2⟩
        have HF2 := Lib.hid (frm_then HF1.out hf2)
        have HB2 := Lib.hid (HB1.out.frm0 hf2)
        obtain ⟨c0, c1⟩ := HB2.out.cells
        clear hf2
        obtain ⟨gp, cp, kv, p0, _, _, _, e0, e1, e2, e3, e4, e5⟩ := (HP.out.frm0 HF2.out).node HN.out
        dsimp only at e1 e2
        clear e0 e3 e4 e5
        go_wp2
        go_quiet (fail)
        obtain ⟨w3, hw3⟩ : ∃ w3, w3 = w2.drewN nq := ⟨_, rfl⟩
        rw [← hw3]
        have HF3 := Lib.hid (show Frm (fun _ => False) w w3 by rw [hw3]; exact HF2.out.drewN _)
        have HB3 := Lib.hid (show Box w3 w.heap.size (x, sg) by rw [hw3]; exact HB2.out)
        clear hw3
        have HC := Lib.hid (fun w1 (hf : Frm (fun _ => False) w w1) => Const_calls (HP.out.frm0 hf) f)
        cases ci
        case true =>
          have hs := Lib.hid (hs2.out.trans (if_pos rfl))
          have HCA := Lib.hid (fun w1 (hf : Frm (fun _ => False) w w1) => Cast_calls w1 ty (x, sg) cn hcn (HE.out.frm0 hf).tabs)
          have HNU := Lib.hid (fun w1 (hf : Frm (fun _ => False) w w1) => num_calls (HE.out.frm0 hf) (HP.out.frm0 hf) (x, sg) (castF ty (x, sg) cn) (castF_lt _ _ _) hroom)
          rw [HCC.out] at HC
          generalize numF s (x, sg) (castF ty (x, sg) cn) = q at *
          clear hs2 hcn
          go_wp2_with fail
          refine (HC.out _ HF3.out).mono ?_
          rintro e w4 ⟨rfl, hf4⟩
          have HF4 := Lib.hid (frm_then HF3.out hf4)
          have HB4 := Lib.hid (HB3.out.frm0 hf4)
          obtain ⟨b0, b1⟩ := HB4.out.cells
          obtain ⟨gp4, cp4, kv4, p04, _, _, _, e0, e14, e24, e3, e4, e5⟩ := (HP.out.frm0 HF4.out).node HN.out
          dsimp only at e14 e24
          clear hf4 e0 e3 e4 e5
          go_wp2
          refine Plan.wp_region_plan [0, 0, 0, 4, 12, 28, 0, 124, 252, 508, 0, 0, 4092, 8191, 16383, 32767] [.mk [0, 1, 2, 3, 4, 5, 6, 7, 8, 9, 10, 11] 12 [0, 1], .mk [] 13 []] [14, 15] (by kernel_rfl) (by kernel_rfl) ?_
          simp only [Plan.wayOf, Plan.pickAll, List.getElem?_cons_zero, List.getElem?_cons_succ, List.getD_eq_getElem?_getD, Option.getD_some]
          refine Plan.wpWay_seg ?_
          repeat go_big_quiet_step (fail)
          refine wpQuiet_nil ?_; refine Plan.wpWay_act ?_
          go_wp2_with fail
          refine (HCA.out _ HF4.out.drew).mono ?_
          rintro e w5 ⟨rfl, hf5⟩
          have HB5 := Lib.hid (HB4.out.frmD hf5)
          obtain ⟨b05, b15⟩ := HB5.out.cells
          have HF5 := Lib.hid (frm_then HF4.out.drew hf5)
          have p05 := frm_cellD hf5 p04
          have e15 := frm_cellD hf5 e14
          have e25 := frm_cellD hf5 e24
          clear hf5
          go_wp2_with fail
          refine And.intro ?_ ?_; focus ((iterate 2 (refine Plan.again_cons ?_ ?_; focus (go_big_quiet_step (fail); exact wpQuiet_nil rfl))); exact Plan.again_nil)
          refine Plan.wpWay_seg ?_
          refine wpQuiet_nil ?_; refine Plan.wpWay_act ?_
          go_wp2_with fail
          refine (HNU.out _ HF5.out).mono ?_
          rintro e w6 ⟨rfl, own6, hP6, hM6⟩
          have HP6 := Lib.hid hP6
          have HM6 := Lib.hid hM6
          clear hP6 hM6
          go_wp2_with fail
          refine And.intro Plan.again_nil ?_
          refine Plan.wpWay_last ?_
          repeat go_big_quiet_step (fail)
          refine wpQuiet_nil ?_; refine NoPanic.normal ?_
          go_wp2
          go_ret2
          rw [hs.out]
          exact ⟨rfl, own6, HP6.out, moves_pre HF5.out HM6.out⟩
        case false =>
          have hs := Lib.hid (hs2.out.trans (if_neg (by decide)))
          rw [HCC.out] at HC
          clear hs2 hcn
          go_wp2_with fail
          refine (HC.out _ HF3.out).mono ?_
          rintro e w4 ⟨rfl, hf4⟩
          have HF4 := Lib.hid (frm_then HF3.out hf4)
          have HB4 := Lib.hid (HB3.out.frm0 hf4)
          obtain ⟨b0, b1⟩ := HB4.out.cells
          have hl4 := World.block_lt_of_cell? _ _ b0
          clear hf4
          have HP4 := Lib.hid (HP.out.frm0 (HF4.out.alloc (.cells #[.int .i64 f] 3)))
          have hlo := HP.out.lo _ HP.out.me
          have hlt := HP.out.lt _ HP.out.me
          have hsz4 := HF4.out.size
          have hown : PoolAt (w4.alloc (.cells #[.int .i64 f] 3)) (fun b => own b ∨ b = w4.heap.size) p s := HP4.out.more (fun b hb => .inl hb) (fun b hb => by
            rcases hb with hb | rfl
            · exact .inl hb
            · exact .inr ⟨by simp, by omega⟩)
          have HD := Lib.hid (node_calls (HE.out.frm0 (HF4.out.alloc (.cells #[.int .i64 f] 3))) hown (castN (x, sg) f) (.slice (some ⟨w4.heap.size, 0, none⟩) 1 1) (by show (4 : Nat) ≤ _; omega) (by show (0 : Nat) < _; omega) ⟨by show (_ : Int) ≤ 0; omega, by show (0 : Int) ≤ _; omega⟩
            (fun k hk => by simp only [castN, List.mem_singleton] at hk; subst hk; exact hf64) (by show (1 : Nat) ≤ _; omega)
            ⟨by simp [castN], .inr ⟨w4.heap.size, 1, #[.int .i64 f], rfl, Nat.zero_le _, blk_new _, by show (1 : Nat) ≤ 1; omega, by decide, by simp, by simp [castN]⟩⟩ (fun g hg => by cases hg; exact .inr rfl) hroom)
          generalize nodeF s (castN (x, sg) f) = q at *
          clear hown
          go_wp2_with fail
          refine HD.out.mono ?_
          rintro e w6 ⟨rfl, own6, hP6, hM6⟩
          have HP6 := Lib.hid hP6
          have HM6 := Lib.hid hM6
          clear hP6 hM6
          go_wp2
          go_ret2
          rw [hs.out]
          refine ⟨rfl, own6, HP6.out, ?_⟩
          have h1 : PMoves own w (fun b => own b ∨ b = w4.heap.size) (w4.alloc (.cells #[.int .i64 f] 3)) := ⟨(HF4.out.alloc _).mono fun _ _ h => h.elim, fun b hb => (by
            rcases hb with hb | rfl
            · exact .inl hb
            · exact .inr hsz4), kept_frm0 (HF4.out.alloc _)⟩
          exact h1.trans HM6.out
      · have hd1 : (ty.1 == x) = false := by simp [hx]
        clear hyx hx
        go_enter Tryz.func16, Tryz.ntmps16
        go_wp2_with fail
        refine HH.out.mono ?_
        rintro e w1 ⟨rfl, hf1⟩
        have HF1 := Lib.hid (frm_then hF.out hf1)
        have HB1 := Lib.hid (HB0.out.frm0 hf1)
        obtain ⟨b0, b1⟩ := HB1.out.cells
        clear hf1
        go_wp2_with fail
        refine (HR.out _ HF1.out).mono ?_
        rintro e w2 ⟨rfl, hf2⟩
        have HF2 := Lib.hid (frm_then HF1.out hf2)
        have HB2 := Lib.hid (HB1.out.frm0 hf2)
        obtain ⟨c0, c1⟩ := HB2.out.cells
        clear hf2
        obtain ⟨gp, cp, kv, p0, _, _, _, e0, e1, e2, e3, e4, e5⟩ := (HP.out.frm0 HF2.out).node HN.out
        dsimp only at e1 e2
        clear e0 e3 e4 e5
        go_wp2
        go_quiet (fail)
        obtain ⟨w3, hw3⟩ : ∃ w3, w3 = w2.drewN nq := ⟨_, rfl⟩
        rw [← hw3]
        have HF3 := Lib.hid (show Frm (fun _ => False) w w3 by rw [hw3]; exact HF2.out.drewN _)
        have HB3 := Lib.hid (show Box w3 w.heap.size (x, sg) by rw [hw3]; exact HB2.out)
        clear hw3
        have HC := Lib.hid (fun w1 (hf : Frm (fun _ => False) w w1) => Const_calls (HP.out.frm0 hf) f)
        cases ci
        case true =>
          have hs := Lib.hid (hs2.out.trans (if_pos rfl))
          have HCA := Lib.hid (fun w1 (hf : Frm (fun _ => False) w w1) => Cast_calls w1 ty (x, sg) cn hcn (HE.out.frm0 hf).tabs)
          have HNU := Lib.hid (fun w1 (hf : Frm (fun _ => False) w w1) => num_calls (HE.out.frm0 hf) (HP.out.frm0 hf) (x, sg) (castF ty (x, sg) cn) (castF_lt _ _ _) hroom)
          rw [HCC.out] at HC
          generalize numF s (x, sg) (castF ty (x, sg) cn) = q at *
          clear hs2 hcn
          go_wp2_with fail
          refine (HC.out _ HF3.out).mono ?_
          rintro e w4 ⟨rfl, hf4⟩
          have HF4 := Lib.hid (frm_then HF3.out hf4)
          have HB4 := Lib.hid (HB3.out.frm0 hf4)
          obtain ⟨b0, b1⟩ := HB4.out.cells
          obtain ⟨gp4, cp4, kv4, p04, _, _, _, e0, e14, e24, e3, e4, e5⟩ := (HP.out.frm0 HF4.out).node HN.out
          dsimp only at e14 e24
          clear hf4 e0 e3 e4 e5
          go_wp2
          refine Plan.wp_region_plan [0, 0, 0, 4, 12, 28, 0, 124, 252, 508, 0, 0, 4092, 8191, 16383, 32767] [.mk [0, 1, 2, 3, 4, 5, 6, 7, 8, 9, 10, 11] 12 [0, 1], .mk [] 13 []] [14, 15] (by kernel_rfl) (by kernel_rfl) ?_
          simp only [Plan.wayOf, Plan.pickAll, List.getElem?_cons_zero, List.getElem?_cons_succ, List.getD_eq_getElem?_getD, Option.getD_some]
          refine Plan.wpWay_seg ?_
          repeat go_big_quiet_step (fail)
          refine wpQuiet_nil ?_; refine Plan.wpWay_act ?_
          go_wp2_with fail
          refine (HCA.out _ HF4.out.drew).mono ?_
          rintro e w5 ⟨rfl, hf5⟩
          have HB5 := Lib.hid (HB4.out.frmD hf5)
          obtain ⟨b05, b15⟩ := HB5.out.cells
          have HF5 := Lib.hid (frm_then HF4.out.drew hf5)
          have p05 := frm_cellD hf5 p04
          have e15 := frm_cellD hf5 e14
          have e25 := frm_cellD hf5 e24
          clear hf5
          go_wp2_with fail
          refine And.intro ?_ ?_; focus ((iterate 2 (refine Plan.again_cons ?_ ?_; focus (go_big_quiet_step (fail); exact wpQuiet_nil rfl))); exact Plan.again_nil)
          refine Plan.wpWay_seg ?_
          refine wpQuiet_nil ?_; refine Plan.wpWay_act ?_
          go_wp2_with fail
          refine (HNU.out _ HF5.out).mono ?_
          rintro e w6 ⟨rfl, own6, hP6, hM6⟩
          have HP6 := Lib.hid hP6
          have HM6 := Lib.hid hM6
          clear hP6 hM6
          go_wp2_with fail
          refine And.intro Plan.again_nil ?_
          refine Plan.wpWay_last ?_
          repeat go_big_quiet_step (fail)
          refine wpQuiet_nil ?_; refine NoPanic.normal ?_
          go_wp2
          go_ret2
          rw [hs.out]
          exact ⟨rfl, own6, HP6.out, moves_pre HF5.out HM6.out⟩
        case false =>
          have hs := Lib.hid (hs2.out.trans (if_neg (by decide)))
          rw [HCC.out] at HC
          clear hs2 hcn
          go_wp2_with fail
          refine (HC.out _ HF3.out).mono ?_
          rintro e w4 ⟨rfl, hf4⟩
          have HF4 := Lib.hid (frm_then HF3.out hf4)
          have HB4 := Lib.hid (HB3.out.frm0 hf4)
          obtain ⟨b0, b1⟩ := HB4.out.cells
          have hl4 := World.block_lt_of_cell? _ _ b0
          clear hf4
          have HP4 := Lib.hid (HP.out.frm0 (HF4.out.alloc (.cells #[.int .i64 f] 3)))
          have hlo := HP.out.lo _ HP.out.me
          have hlt := HP.out.lt _ HP.out.me
          have hsz4 := HF4.out.size
          have hown : PoolAt (w4.alloc (.cells #[.int .i64 f] 3)) (fun b => own b ∨ b = w4.heap.size) p s := HP4.out.more (fun b hb => .inl hb) (fun b hb => by
            rcases hb with hb | rfl
            · exact .inl hb
            · exact .inr ⟨by simp, by omega⟩)
          have HD := Lib.hid (node_calls (HE.out.frm0 (HF4.out.alloc (.cells #[.int .i64 f] 3))) hown (castN (x, sg) f) (.slice (some ⟨w4.heap.size, 0, none⟩) 1 1) (by show (4 : Nat) ≤ _; omega) (by show (0 : Nat) < _; omega) ⟨by show (_ : Int) ≤ 0; omega, by show (0 : Int) ≤ _; omega⟩
            (fun k hk => by simp only [castN, List.mem_singleton] at hk; subst hk; exact hf64) (by show (1 : Nat) ≤ _; omega)
            ⟨by simp [castN], .inr ⟨w4.heap.size, 1, #[.int .i64 f], rfl, Nat.zero_le _, blk_new _, by show (1 : Nat) ≤ 1; omega, by decide, by simp, by simp [castN]⟩⟩ (fun g hg => by cases hg; exact .inr rfl) hroom)
          generalize nodeF s (castN (x, sg) f) = q at *
          clear hown
          go_wp2_with fail
          refine HD.out.mono ?_
          rintro e w6 ⟨rfl, own6, hP6, hM6⟩
          have HP6 := Lib.hid hP6
          have HM6 := Lib.hid hM6
          clear hP6 hM6
          go_wp2
          go_ret2
          rw [hs.out]
          refine ⟨rfl, own6, HP6.out, ?_⟩
          have h1 : PMoves own w (fun b => own b ∨ b = w4.heap.size) (w4.alloc (.cells #[.int .i64 f] 3)) := ⟨(HF4.out.alloc _).mono fun _ _ h => h.elim, fun b hb => (by
            rcases hb with hb | rfl
            · exact .inl hb
            · exact .inr hsz4), kept_frm0 (HF4.out.alloc _)⟩
          exact h1.trans HM6.out
end TmW
end Go.Proofs.YtbbajekecppioaaGreatDoor
