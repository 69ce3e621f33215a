/- The pool's Do walked: its core, whatever typed, apply and simple come to. -/
import Derived.Test.YtbbajekecppioaaGreatDoorGa16
set_option linter.unusedSimpArgs false
set_option linter.unusedVariables false
namespace Go.Proofs.YtbbajekecppioaaGreatDoor
open Go.RowKit Go.Mem Go.Wd Go.Tp
namespace TmW
theorem info_u64 : (Tryz.prog.info? 24).map (fun i => (i.zero, i.size, i.bytes)) = some (some (.int .u64 0), 1, 8) := by kernel_rfl
def constsF (s : TPool) (l : List Int) : List Nat := l.filterMap fun f => if (constF s f).2 then some (constF s f).1 else none
theorem consts_step_yes {s : TPool} {l : List Int} {k : Nat} {x : Int} (hx : l[k]? = some x) (h : (constF s x).2 = true) : constsF s (l.take (k + 1)) = constsF s (l.take k) ++ [(constF s x).1] := by
 rw [List.take_add_one, hx]; unfold constsF; rw [List.filterMap_append]; simp [h]
theorem consts_step_no {s : TPool} {l : List Int} {k : Nat} {x : Int} (hx : l[k]? = some x) (h : (constF s x).2 = false) : constsF s (l.take (k + 1)) = constsF s (l.take k) := by
 rw [List.take_add_one, hx]; unfold constsF; rw [List.filterMap_append]; simp [h]
theorem consts_le (s : TPool) (l : List Int) : (constsF s l).length ≤ l.length := List.length_filterMap_le _ _
def opN (op : ByteArray) (r : Ty) (l : List Int) : TNode := ⟨op, r, 0, 0, l⟩
set_option maxRecDepth 100000 in
set_option maxHeartbeats 4000000 in
theorem do_bad {w : World} {own : Nat → Prop} {p : Nat} {s : TPool} (h : PoolAt w own p s) (op : ByteArray) (lv : Value) (l : List Int) (hl : Sees w (Value.int .i64) lv l) (hin : l.all (inP s) = false) :
  Calls Tryz.prog 21 #[.pointer (some ⟨p, 0, none⟩), .string op, lv] w (TPost own w p (.tuple #[.int .i64 0, .int .i64 101]) s) := by
 have HH := Lib.hid (has_calls h lv l hl)
 rw [hin] at HH
 have HP := Lib.hid h
 obtain ⟨A, cap, rfl, _⟩ := sees_slice hl
 clear h hin
 go_enter Tryz.func21, Tryz.ntmps21
 go_wp2_with fail
 refine HH.out.mono ?_
 rintro e w1 ⟨rfl, hf1⟩
 go_wp2
 go_ret2
 exact TPost.same HP.out rfl hf1
set_option maxRecDepth 100000 in
set_option maxHeartbeats 4000000 in
theorem do_untyped {w : World} {own : Nat → Prop} {p : Nat} {s : TPool} (h : PoolAt w own p s) (op : ByteArray) (lv : Value) (l : List Int) (hl : Sees w (Value.int .i64) lv l) (hin : l.all (inP s) = true) (ty r : Ty)
  (HTY0 : ∀ w1, Frm (fun _ => False) w w1 → Calls Tryz.prog 42 #[.pointer (some ⟨p, 0, none⟩), .string op, lv] w1 (TyPost w1 false ty r)) :
  Calls Tryz.prog 21 #[.pointer (some ⟨p, 0, none⟩), .string op, lv] w (TPost own w p (.tuple #[.int .i64 0, .int .i64 100]) s) := by
 have HH := Lib.hid (has_calls h lv l hl)
 rw [hin] at HH
 have HP := Lib.hid h
 have HTY := Lib.hid HTY0
 obtain ⟨A, cap, rfl, _⟩ := sees_slice hl
 clear h hin HTY0
 go_enter Tryz.func21, Tryz.ntmps21
 go_wp2_with fail
 refine HH.out.mono ?_
 rintro e w1 ⟨rfl, hf1⟩
 have HF1 := Lib.hid hf1
 clear hf1
 go_wp2_with fail
 refine (HTY.out _ HF1.out).mono ?_
 rintro e w2 ⟨t', r', rfl, _, hf2⟩
 have HF2 := Lib.hid (frm_then HF1.out hf2)
 clear hf2
 go_wp2
 go_ret2
 exact TPost.same HP.out rfl ((HF2.out.alloc _).alloc _)
theorem clone_calls (w : World) (v : Value) (l : List Int) (hv : Sees w (Value.int .i64) v l) (hn : l.length ≤ 1000) :
  Calls Tryz.prog 44 #[v] w fun e w' => ∃ cv, e = .returned cv ∧ Row w' 3 (Value.int .i64) cv l ∧ (∀ g, cv.ownBlock = some g → w.heap.size ≤ g) ∧ Frm (fun _ => False) w w' := by
 rcases hv with ⟨rfl, rfl⟩ | ⟨g, o, cap, rfl, h1, h2, hc⟩
 ·exact (Tryz.slices_Clone_int_nil 0 0 w).mono fun e w' ⟨he, hw⟩ => ⟨_, he, Row.nil _ _ _, fun g hg => (by cases hg), by rw [hw]; exact Frm.refl _ _⟩
 ·refine (Tryz.slices_Clone_int g o l.length cap l w (Nat.le_refl _) (by omega) (fun j hj => ?_)).mono fun e w' ⟨v', he, hr, _, hb⟩ => ⟨v', he, ?_, fun g hg => (hr.lt g hg).1, Frm.of_below hb⟩
  ·rw [hc j _ (List.getElem?_eq_getElem hj)]
   simp [List.getD_eq_getElem?_getD, hj]
  ·rw [List.take_length] at hr
   exact own_base hr
def doR (s : TPool) (op : ByteArray) (l : List Int) (r : Ty) (ap : Nat × Int) (sm : (Int × Bool) × TPool) : (Int × Int) × TPool :=
 if (constsF s l).length = l.length then (((numF s r ap.1).1, 0), (numF s r ap.1).2)
 else if sm.1.2 = true then ((sm.1.1, 0), sm.2)
 else (((nodeF sm.2 (opN op r l)).1, 0), (nodeF sm.2 (opN op r l)).2)
set_option maxRecDepth 100000 in
set_option maxHeartbeats 4000000 in
theorem do_typed {w : World} {own : Nat → Prop} {p : Nat} {s : TPool} (hE : Env w) (h : PoolAt w own p s) (op : ByteArray) (hop : op.size ≤ 140737488355328) (lv : Value) (l : List Int) (hl : Sees w (Value.int .i64) lv l) (hgl : ∀ g, InBlk lv g → ¬ own g) (hn : l.length ≤ 3) (hn1 : 1 ≤ l.length) (hin : l.all (inP s) = true) (ty r : Ty) (ap : Nat × Int) (sm : (Int × Bool) × TPool)
  (hroom : s.l.length + 2 < 4294967296) (hsm : sm.2.l.length ≤ s.l.length + 1) (hap : ap.1 < 2 ^ 64)
  (HTY0 : ∀ w1, Frm (fun _ => False) w w1 → Calls Tryz.prog 42 #[.pointer (some ⟨p, 0, none⟩), .string op, lv] w1 (TyPost w1 true ty r))
  (HAP0 : ∀ w1 v, Frm (fun _ => False) w w1 → Sees w1 u64 v (constsF s l) → (constsF s l).length = l.length → Calls Tryz.prog 33 #[.string op, .agg #[.int .i64 ty.1, .bool ty.2], v] w1 fun e w' => e = .returned (.tuple #[.int .u64 ap.1, .int .i64 ap.2]) ∧ Frm (fun _ => False) w1 w')
  (HSI0 : ∀ w1, Frm (fun _ => False) w w1 → Calls Tryz.prog 43 #[.pointer (some ⟨p, 0, none⟩), .string op, lv] w1 (TPost own w1 p (.tuple #[.int .i64 sm.1.1, .bool sm.1.2]) sm.2)) :
  Calls Tryz.prog 21 #[.pointer (some ⟨p, 0, none⟩), .string op, lv] w (TPost own w p (.tuple #[.int .i64 (doR s op l r ap sm).1.1, .int .i64 (doR s op l r ap sm).1.2]) (doR s op l r ap sm).2) := by
 obtain ⟨i0, hi, hz0, hz1, hz2⟩ := info_parts info_u64
 have HH := Lib.hid (has_calls h lv l hl)
 rw [hin] at HH
 have HP := Lib.hid h
 have HE := Lib.hid hE
 have HTY := Lib.hid HTY0
 have HAP := Lib.hid HAP0
 have HSI := Lib.hid HSI0
 have HX := Lib.hid hl
 have Hin := Lib.hid (fun x (hx : x ∈ l) => (List.all_eq_true.1 hin) x hx)
 have Hop := Lib.hid hop
 have Hgl := Lib.hid hgl
 have Hap := Lib.hid hap
 obtain ⟨A, cap, rfl, hcells⟩ := sees_slice hl
 obtain ⟨gl, ol, rfl⟩ : ∃ g o, A = some ⟨g, o, none⟩ := by
  obtain ⟨x, hx⟩ : ∃ x, l[0]? = some x := ⟨_, List.getElem?_eq_getElem (by omega)⟩
  obtain ⟨g, o, e, _⟩ := hcells 0 x hx
  exact ⟨g, o, e⟩
 clear hE h hin HTY0 HAP0 HSI0 hop hcells hap hgl
 iterate 1
  go_enter Tryz.func21, Tryz.ntmps21
  go_wp2_with fail
  refine HH.out.mono ?_
  rintro e w1 ⟨rfl, hf1⟩
  have HF1 := Lib.hid hf1
  clear hf1
  go_wp2_with fail
  refine (HTY.out _ HF1.out).mono ?_
  rintro e w2 ⟨t', r', rfl, hok, hf2⟩
  obtain ⟨rfl, rfl⟩ := hok rfl
  have HF2 := Lib.hid (frm_then HF1.out hf2)
  clear hf2 hok
  go_wp2
  obtain ⟨w3, hw3⟩ : ∃ w3, w3 = (w2.alloc (.cells #[.int .i64 t'.1, .bool t'.2] 23)).alloc (.cells #[.int .i64 r'.1, .bool r'.2] 23) := ⟨_, rfl⟩
  rw [← hw3]
  have HB8 := Lib.hid (show Box w3 w2.heap.size t' by rw [hw3]; exact (Box.new w2 t').frm0 (frm_alloc _ _))
  have HB9 := Lib.hid (show Box w3 (w2.heap.size + 1) r' by rw [hw3]; exact (show ((w2.alloc (.cells #[.int .i64 t'.1, .bool t'.2] 23)).alloc (.cells #[.int .i64 r'.1, .bool r'.2] 23)).heap[w2.heap.size + 1]? = _ from blk_new_at _ (by simp)))
  have HF3 := Lib.hid (show Frm (fun _ => False) w w3 by rw [hw3]; exact (HF2.out.alloc _).alloc _)
  have hwl := HF2.out.size
  generalize w2.heap.size = b8 at *
  clear hw3
  go_loopw [11, 36] (fun v11 v36 w' => ∃ k : Nat, k ≤ l.length ∧ v36 = .int .i64 k ∧ Hid (Row w' 24 u64 v11 (constsF s (l.take k))) ∧ Hid (Frm (fun _ => False) w3 w') ∧ Hid (∀ g, v11.ownBlock = some g → w3.heap.size ≤ g)) (fun _ v36 _ => l.length - (intOf v36).toNat)
  case atStart => exact ⟨0, Nat.zero_le _, rfl, Lib.hid (Row.nil _ _ _), Lib.hid (Frm.refl _ _), Lib.hid fun g hg => by cases hg⟩
  case round =>
   obtain ⟨k, hk, rfl, HR, HFr, HO⟩ := hrel
   have HFw := Lib.hid (frm_then HF3.out HFr.out)
   by_cases hlt : k < l.length
   ·obtain ⟨x, hx⟩ : ∃ x, l[k]? = some x := ⟨_, List.getElem?_eq_getElem hlt⟩
    have kx : wr.cell? ⟨gl, ol + k, none⟩ = some (.int .i64 x) := frm_cell HFw.out (HX.out.cells_at k x hx)
    have hltI : (k : Int) < (l.length : Int) := by omega
    have HC := Lib.hid (Const_calls (HP.out.frm0 HFw.out) x)
    have Hx := Lib.hid hx
    obtain ⟨cc, hcc⟩ : ∃ cc, constF s x = cc := ⟨_, rfl⟩
    rw [hcc] at HC
    obtain ⟨cn, ci⟩ := cc
    have Hcc := Lib.hid hcc
    clear hx hcc
    cases ci
    ·have HS := Lib.hid (consts_step_no Hx.out (by rw [Hcc.out]))
     go_wp2_with fail
     refine HC.out.mono ?_
     rintro e w4 ⟨rfl, hf4⟩
     have HF4 := Lib.hid hf4
     clear hf4
     go_wp2
     go_roundw
     case rel => exact ⟨k + 1, by omega, by go_num, Lib.hid (by rw [HS.out]; exact HR.out.frm0 HF4.out), Lib.hid (frm_then HFr.out HF4.out), HO⟩
     case measure => simp [intOf]; omega
    ·have HS := Lib.hid ((consts_step_yes Hx.out (by rw [Hcc.out])).trans (by rw [Hcc.out]))
     have hcl := consts_le s (l.take k)
     have htl : (l.take k).length ≤ 3 := by rw [List.length_take]; omega
     go_wp2_with fail
     refine HC.out.mono ?_
     rintro e w4 ⟨rfl, hf4⟩
     have HF4 := Lib.hid hf4
     clear hf4
     go_wp2_with (first | (at_builtin; refine wpList_append_row rfl _ _ 29 rfl 24 i0 (.int .u64 0) 8 Tryz.underlying29 hi hz0 hz1 hz2 rfl (enc := u64) u11 (constsF s (l.take k)) rfl (HR.out.frm0 (frm_then HF4.out (frm_alloc _ _))) ⟨w4.heap.size, 0, none⟩ 1 cn rfl ?c1 rfl ?c2 ?c3 ?_) | go_in)
     case c1 => exact blk_cell (blk_new _) 0
     case c2 => have : maxLen = 9223372036854775807 := rfl; omega
     case c3 => omega
     intro g cap' w7 hrow hfr hg hlt7
     have HR' := Lib.hid hrow
     have HF' := Lib.hid ((frm_then HFr.out (frm_then HF4.out (frm_alloc _ _))).trans hfr fun x hx h => by have := HO.out x h; omega)
     have Hg := Lib.hid (show w3.heap.size ≤ g by rcases hg with h | h; exact HO.out g h; rw [h]; have := HFr.out.size; have := HF4.out.size; simp; omega)
     clear hrow hfr hg
     go_wp2
     go_roundw
     case rel => exact ⟨k + 1, by omega, by go_num, Lib.hid (by rw [HS.out]; exact HR'.out), HF', Lib.hid fun g' hg' => by cases hg'; exact Hg.out⟩
     case measure => simp [intOf]; omega
   ·have hke : k = l.length := by omega
    subst hke
    rw [List.take_length] at HR
    have hltI : ¬ (l.length : Int) < (l.length : Int) := by omega
    clear hlt hk
    obtain ⟨n8, n9⟩ := (HB8.out.frm0 HFr.out).cells
    obtain ⟨m8, m9⟩ := (HB9.out.frm0 HFr.out).cells
    obtain ⟨VA, vc, rfl, _⟩ := sees_slice HR.out.sees
    by_cases hall : (constsF s l).length = l.length
    ·have hs := Lib.hid (show doR s op l r' ap sm = (((numF s r' ap.1).1, 0), (numF s r' ap.1).2) from if_pos hall)
     have hd : (((constsF s l).length : Int) == (l.length : Int)) = true := by simp [hall]
     have HA2 := Lib.hid (HAP.out wr _ HFw.out HR.out.sees hall)
     have HNU := Lib.hid (fun w1 (hf : Frm (fun _ => False) w w1) => num_calls (HE.out.frm0 hf) (HP.out.frm0 hf) r' ap.1 Hap.out (by omega))
     generalize numF s r' ap.1 = q at *
     clear hall
     go_wp2_with fail
     refine HA2.out.mono ?_
     rintro e w4 ⟨rfl, hf4⟩
     have HF4 := Lib.hid (frm_then HFr.out hf4)
     have HFw4 := Lib.hid (frm_then HFw.out hf4)
     obtain ⟨i8, i9⟩ := (HB9.out.frm0 HF4.out).cells
     clear hf4
     go_wp2_with fail
     refine (HNU.out _ HFw4.out).mono ?_
     rintro e w5 ⟨rfl, own5, hP5, hM5⟩
     have HP5 := Lib.hid hP5
     have HM5 := Lib.hid hM5
     clear hP5 hM5
     go_wp2
     go_ret2
     rw [hs.out]
     exact ⟨rfl, own5, HP5.out, moves_pre HFw4.out HM5.out⟩
    ·have hs := Lib.hid (show doR s op l r' ap sm = _ from if_neg hall)
     have hd : (((constsF s l).length : Int) == (l.length : Int)) = false := by simp; omega
     have HS2 := Lib.hid (HSI.out wr HFw.out)
     obtain ⟨⟨sf, si⟩, ss⟩ := sm
     dsimp only at hs HS2 hsm
     clear hall
     go_wp2_with fail
     refine HS2.out.mono ?_
     rintro e w4 ⟨rfl, own4, hP4, hM4⟩
     have HP4 := Lib.hid hP4
     have HM4 := Lib.hid (moves_pre HFw.out hM4)
     have hM4' := hM4
     cases si
     case true =>
      clear hP4 hM4 hM4'
      go_wp2
      go_ret2
      rw [hs.out]
      exact ⟨rfl, own4, HP4.out, HM4.out⟩
     case false =>
      have hob : ∀ b, own b → b < w.heap.size := HP.out.lt
      have i8 := (HB9.out.frm0 HFr.out).frm hM4.1 (fun hb => by have := hob _ hb; omega)
      obtain ⟨j8, j9⟩ := i8.cells
      have HB94 := Lib.hid i8
      have HX4 := Lib.hid ((HX.out.frm HFw.out fun _ _ _ => id).frm hM4.1 fun g hg _ ho => Hgl.out g hg ho)
      clear hP4 hM4 hM4' i8
      go_wp2
      refine Plan.wp_region_plan [0, 0, 0, 0, 8, 30, 63, 127, 255] [.mk [0, 1, 2, 3] 4 [0, 1, 2], .mk [5] 6 []] [7, 8] (by kernel_rfl) (by kernel_rfl) ?_
      simp only [Plan.wayOf, Plan.pickAll, List.getElem?_cons_zero, List.getElem?_cons_succ, List.getD_eq_getElem?_getD, Option.getD_some]
      refine Plan.wpWay_seg ?_
      repeat go_big_quiet_step (fail)
      refine wpQuiet_nil ?_; refine Plan.wpWay_act ?_
      go_wp2_with fail
      refine (clone_calls w4.drew _ l (HX4.out.frm (Frm.refl (fun _ => False) _).drew fun _ _ _ => id) (by omega)).mono ?_
      rintro e w5 ⟨cv, rfl, hrc, hoc, hfc⟩
      obtain ⟨CA, CC, rfl, _⟩ := sees_slice hrc.sees
      have HRC := Lib.hid hrc
      have HOC := Lib.hid (show ∀ g, (Value.slice CA l.length CC).ownBlock = some g → w4.heap.size ≤ g from hoc)
      have HF5 := Lib.hid (show Frm (fun _ => False) w4 w5 from frm_then ((Frm.refl _ _).drew) hfc)
      obtain ⟨q8, q9⟩ := (HB94.out.frm0 HF5.out).cells
      clear hrc hoc hfc
      go_wp2_with fail
      refine And.intro ?_ ?_; focus ((iterate 3 (refine Plan.again_cons ?_ ?_; focus (go_big_quiet_step (fail); exact wpQuiet_nil rfl))); exact Plan.again_nil)
      refine Plan.wpWay_seg ?_
      repeat go_big_quiet_step (fail)
      refine wpQuiet_nil ?_; refine Plan.wpWay_act ?_
      go_wp2_with fail
      refine (node_calls (s := ss) (own := fun b => own4 b ∨ (Value.slice CA l.length CC).ownBlock = some b) ?hE5 ?hP5 (opN op r' l) (.slice CA l.length CC) Hop.out (by show (0 : Nat) < _; omega) ⟨by show (_ : Int) ≤ 0; omega, by show (0 : Int) ≤ _; omega⟩ ?hk5 (by show l.length ≤ _; omega) HRC.out (fun g hg => .inr hg) (by omega)).mono ?_
      case hE5 => exact (HE.out.moves HM4.out HP.out.lo).frm0 HF5.out
      case hP5 => exact (HP4.out.frm0 HF5.out).more (fun b hb => .inl hb) (fun b hb => (by rcases hb with hb | hb; exact .inl hb; exact .inr ⟨HRC.out.lt b hb, by have := HOC.out b hb; have := HP4.out.lt _ HP4.out.me; have := HP4.out.lo _ HP4.out.me; omega⟩))
      case hk5 => exact fun k hk => (by have := Hin.out k hk; simp only [inP, decide_eq_true_eq] at this; exact ⟨by omega, by omega⟩)
      rintro e w6 ⟨rfl, own6, hP6, hM6⟩
      have HP6 := Lib.hid hP6
      have HM6 := Lib.hid hM6
      clear hP6 hM6
      go_wp2_with fail
      refine And.intro Plan.again_nil ?_
      refine Plan.wpWay_last ?_
      repeat go_big_quiet_step (fail)
      refine wpQuiet_nil ?_; refine NoPanic.normal ?_
      go_wp2
      go_ret2
      rw [hs.out]
      refine ⟨rfl, own6, HP6.out, HM4.out.trans (PMoves.trans (o2 := fun b => own4 b ∨ (Value.slice CA l.length CC).ownBlock = some b) ⟨HF5.out.mono fun _ _ h => h.elim, fun b hb => ?_, kept_frm0 HF5.out⟩ HM6.out)⟩
      rcases hb with hb | hb
      ·exact .inl hb
      ·exact .inr (HOC.out b hb)
end TmW
end Go.Proofs.YtbbajekecppioaaGreatDoor
/- The pool's Do: its parts joined. -/
namespace Go.Proofs.YtbbajekecppioaaGreatDoor
open Go.RowKit Go.Mem Go.Wd Go.Tp
namespace TmW
abbrev sIte : ByteArray := ⟨#[105, 116, 101]⟩
def lastTy (s : TPool) (l : List Int) : Ty := typeF s (l.getLastD 0)
def typedOk (s : TPool) (op : ByteArray) (l : List Int) : Bool :=
 match l with
 | [a] => allTy s (typeF s a) [a] && ((applyF op (typeF s a) [0]).2 == 0)
 | [a, b] => allTy s (typeF s b) [a, b] && ((applyF op (typeF s b) [0, 0]).2 == 0)
 | [c, a, b] => if op = sIte then decide (typeF s c = (1, false)) && (allTy s (typeF s b) [a, b] && ((applyF op (typeF s b) [0, 0, 0]).2 == 0)) else allTy s (typeF s b) [c, a, b] && ((applyF op (typeF s b) [0, 0, 0]).2 == 0)
 | _ => false
def simpleF (s : TPool) (op : ByteArray) (l : List Int) : (Int × Bool) × TPool :=
 match l with
 | [a] => (simple1F s op a, s)
 | [a, b] => simple2F s op a b
 | [c, a, b] => (choiceF s c a b, s)
 | _ => ((0, false), s)
def DoF (s : TPool) (op : ByteArray) (l : List Int) : (Int × Int) × TPool :=
 if l.all (inP s) = true then
  if typedOk s op l = true then doR s op l (resultF op (lastTy s l)) (applyF op (lastTy s l) (constsF s l)) (simpleF s op l) else ((0, 100), s)
 else ((0, 101), s)
theorem nodeF_len (s : TPool) (n : TNode) : (nodeF s n).2.l.length ≤ s.l.length + 1 := by
 unfold nodeF; split <;> simp
theorem simple2_len (s : TPool) (op : ByteArray) (a b : Int) : (simple2F s op a b).2.l.length ≤ s.l.length + 1 := by
 have hN := nodeF_len s
 unfold simple2F numF truthF numF
 split
 all_goals first | exact Nat.le_succ _ | (repeat' split) | exact hN _
 all_goals first | exact Nat.le_succ _ | exact hN _
theorem turn_ne_ite {op : ByteArray} {t : Ty} (h : (applyF op t [0]).2 = 0) : op.size = 2 ∧ op.toList[0]? = some 117 := by
 rw [applyF1] at h
 split at h
 ·assumption
 ·simp at h
theorem applyF_lt (op : ByteArray) (t : Ty) (v : List Nat) (hv : ∀ x ∈ v, x < 2 ^ 64) : (applyF op t v).1 < 2 ^ 64 := by
 unfold applyF
 split
 ·split
  ·unfold turnF
   split
   ·split
    ·exact norm_lt64 _ _
    ·split
     ·exact norm_lt64 _ _
     ·show (0 : Nat) < _; omega
   ·show (0 : Nat) < _; omega
  ·show (0 : Nat) < _; omega
 ·rename_i a b
  have ha := hv a (by simp)
  have hb := hv b (by simp)
  split
  ·split
   ·exact Nat.and_lt_two_pow _ hb
   ·exact Nat.or_lt_two_pow ha hb
  ·split
   ·show Bool.toNat _ < _
    have := Bool.toNat_le (testF t op a b).1
    omega
   ·split
    ·show (0 : Nat) < _; omega
    ·unfold doF
     split
     ·split
      ·show (0 : Nat) < _; omega
      ·split
       ·show (0 : Nat) < _; omega
       ·exact norm_lt64 _ _
     ·show (0 : Nat) < _; omega
 ·rename_i a b c
  split
  ·show (if a = 1 then b else c) < _
   split
   ·exact hv b (by simp)
   ·exact hv c (by simp)
  ·show (0 : Nat) < _; omega
 ·show (0 : Nat) < _; omega
theorem ite2_bad {t : Ty} (a b : Nat) : (applyF sIte t [a, b]).2 ≠ 0 := by
 rw [applyF2, if_neg (by rintro ⟨h | h, _⟩ <;> simp [sIte] at h)]
 have h1 : (testF t sIte a b).2 ≠ 0 := by
  unfold testF
  split
  ·rw [if_neg (by decide), if_neg (by decide)]
   split
   ·rw [if_neg (by decide), if_neg (by decide), if_neg (by decide), if_neg (by decide)]; simp
   ·simp
  ·simp
 rw [if_neg h1]
 have h2 : getF (opsF t) sIte = none := by unfold opsF; split <;> kernel_rfl
 unfold doF
 split
 ·rw [h2]; simp
 ·simp
/-- What the calls need of a pool: values are of 64 bits, and what is turned has a part. -/
structure Calm (s : TPool) : Prop where
 num : ∀ f, (constF s f).1 < 2 ^ 64
 turn : ∀ f n, nth s.l f = some n → n.op.size = 2 ∧ n.op.toList[0]? = some 117 → n.kids ≠ []
theorem consts_lt {s : TPool} (hC : Calm s) (l : List Int) : ∀ x ∈ constsF s l, x < 2 ^ 64 := by
 intro x hx
 obtain ⟨f, _, hf⟩ := List.mem_filterMap.1 hx
 split at hf
 ·cases hf; exact hC.num f
 ·cases hf
set_option maxRecDepth 100000 in
theorem simple3_calls {w : World} {own : Nat → Prop} {p : Nat} {s : TPool} (hE : Env w) (h : PoolAt w own p s) (op : ByteArray) (c a b : Int) (lv : Value) (hl : Sees w (Value.int .i64) lv [c, a, b]) (ha : inP s a = true) (hi : op = sIte) :
  Calls Tryz.prog 43 #[.pointer (some ⟨p, 0, none⟩), .string op, lv] w fun e w' => e = .returned (.tuple #[.int .i64 (choiceF s c a b).1, .bool (choiceF s c a b).2]) ∧ Frm (fun _ => False) w w' := by
 have d0 : (op.toList == [105, 116, 101]) = true := by rw [eqS]; exact decide_eq_true hi
 have HC := Lib.hid (choice_calls hE h c a b lv hl ha)
 obtain ⟨A, cap, rfl, _⟩ := sees_slice hl
 clear hE h hl hi
 go_enter Tryz.func43, Tryz.ntmps43
 go_wp2_with fail
 refine HC.out.mono ?_
 rintro e w1 ⟨rfl, hf1⟩
 go_wp2
 go_ret2
 exact ⟨rfl, hf1⟩
theorem PDo_calls {w : World} {own : Nat → Prop} {p : Nat} {s : TPool} (hE : Env w) (h : PoolAt w own p s) (hC : Calm s) (op : ByteArray) (hop : op.size ≤ 140737488355328) (lv : Value) (l : List Int) (hl : Sees w (Value.int .i64) lv l) (hgl : ∀ g, InBlk lv g → ¬ own g) (hroom : s.l.length + 2 < 4294967296) :
  Calls Tryz.prog 21 #[.pointer (some ⟨p, 0, none⟩), .string op, lv] w (TPost own w p (.tuple #[.int .i64 (DoF s op l).1.1, .int .i64 (DoF s op l).1.2]) (DoF s op l).2) := by
 have hop' : op.size ≤ maxLen := by have : maxLen = 9223372036854775807 := rfl; omega
 have hsl : ∀ w1, Frm (fun _ => False) w w1 → Sees w1 (Value.int .i64) lv l := fun w1 hf => hl.frm hf fun _ _ _ => id
 by_cases hin : l.all (inP s) = true
 case neg =>
  have hs : DoF s op l = ((0, 101), s) := by unfold DoF; rw [if_neg hin]
  rw [hs]
  exact do_bad h op lv l hl (by simpa using hin)
 case pos =>
 have hmem : ∀ x ∈ l, inP s x = true := fun x hx => (List.all_eq_true.1 hin) x hx
 by_cases hok : typedOk s op l = true
 case neg =>
  have hs : DoF s op l = ((0, 100), s) := by unfold DoF; rw [if_pos hin, if_neg hok]
  rw [hs]
  have hok' : typedOk s op l = false := by simpa using hok
  match l, hl, hin, hmem, hok', hsl with
  | [], hl, hin, hmem, hok', hsl => exact do_untyped h op lv [] hl hin (0, false) (0, false) fun w1 hf => typed0_calls op lv [] (hsl w1 hf) (.inl rfl)
  | [a], hl, hin, hmem, hok', hsl =>
   have h3 : (allTy s (typeF s a) [a] && ((applyF op (typeF s a) [0]).2 == 0)) = false := hok'
   exact do_untyped h op lv [a] hl hin _ _ fun w1 hf => h3 ▸ typed1_calls (hE.frm0 hf) (h.frm0 hf) op hop' lv a (hsl w1 hf) (hmem a (by simp))
  | [a, b], hl, hin, hmem, hok', hsl =>
   have h3 : (allTy s (typeF s b) [a, b] && ((applyF op (typeF s b) [0, 0]).2 == 0)) = false := hok'
   exact do_untyped h op lv [a, b] hl hin _ _ fun w1 hf => h3 ▸ typed2_calls (hE.frm0 hf) (h.frm0 hf) op hop' lv a b (hsl w1 hf) (hmem a (by simp)) (hmem b (by simp))
  | [c, a, b], hl, hin, hmem, hok', hsl =>
   by_cases hi : op = sIte
   ·by_cases htc : typeF s c = (1, false)
    ·have h3 : (allTy s (typeF s b) [a, b] && ((applyF op (typeF s b) [0, 0, 0]).2 == 0)) = false := by
      unfold typedOk at hok'
      simp only [hi, if_true, htc, decide_true, Bool.true_and] at hok'
      rw [hi]; exact hok'
     exact do_untyped h op lv [c, a, b] hl hin _ _ fun w1 hf => h3 ▸ typedI_calls (hE.frm0 hf) (h.frm0 hf) op hop' lv c a b (hsl w1 hf) (hmem c (by simp)) (hmem a (by simp)) (hmem b (by simp)) hi htc
    ·exact do_untyped h op lv [c, a, b] hl hin _ _ fun w1 hf => typedJ_calls (hE.frm0 hf) (h.frm0 hf) op hop' lv c a b (hsl w1 hf) (hmem c (by simp)) (hmem b (by simp)) hi htc
   ·have h3 : (allTy s (typeF s b) [c, a, b] && ((applyF op (typeF s b) [0, 0, 0]).2 == 0)) = false := by
     unfold typedOk at hok'
     simp only [hi, if_false] at hok'
     exact hok'
    exact do_untyped h op lv [c, a, b] hl hin _ _ fun w1 hf => h3 ▸ typed3_calls (hE.frm0 hf) (h.frm0 hf) op hop' lv c a b (hsl w1 hf) (hmem c (by simp)) (hmem a (by simp)) (hmem b (by simp)) hi
  | a :: b :: c :: d :: r, hl, hin, hmem, hok', hsl => exact do_untyped h op lv _ hl hin (0, false) (0, false) fun w1 hf => typed0_calls op lv _ (hsl w1 hf) (.inr (by simp))
 case pos =>
  have hs : DoF s op l = doR s op l (resultF op (lastTy s l)) (applyF op (lastTy s l) (constsF s l)) (simpleF s op l) := by unfold DoF; rw [if_pos hin, if_pos hok]
  rw [hs]
  have hlt := consts_lt hC l
  have hap := applyF_lt op (lastTy s l) _ hlt
  match l, hl, hin, hmem, hok, hsl, hlt, hap with
  | [], hl, hin, hmem, hok, hsl, hlt, hap => cases hok
  | [a], hl, hin, hmem, hok, hsl, hlt, hap =>
   have hok2 : (allTy s (typeF s a) [a] && ((applyF op (typeF s a) [0]).2 == 0)) = true := hok
   have hu := turn_ne_ite (op := op) (t := typeF s a) (by simp at hok2; exact hok2.2)
   have hne : op ≠ sIte := fun e => by subst e; simp [sIte, ByteArray.size] at hu
   obtain ⟨n, hn⟩ := nth_some (l := s.l) (f := a) (by have := hmem a (by simp); simpa [inP] using this)
   exact do_typed hE h op hop lv [a] hl hgl (by simp) (by simp) hin (typeF s a) _ _ _ hroom (Nat.le_succ _) hap (fun w1 hf => hok2 ▸ typed1_calls (hE.frm0 hf) (h.frm0 hf) op hop' lv a (hsl w1 hf) (hmem a (by simp)))
    (fun w1 v hf hv hlen => by
     match hc : constsF s [a], hlen with
     | [x], _ => exact apply1_calls w1 op (typeF s a) v x (hlt x (by rw [hc]; simp)) hop' (hE.frm0 hf).tabs (hc ▸ hv))
    (fun w1 hf => (simple1_calls (h.frm0 hf) op a lv (hsl w1 hf) hne hn (fun e => hC.turn a n hn (e ▸ hu))).mono fun e w' ⟨he, hf'⟩ => TPost.same (h.frm0 hf) he hf')
  | [a, b], hl, hin, hmem, hok, hsl, hlt, hap =>
   have hok2 : (allTy s (typeF s b) [a, b] && ((applyF op (typeF s b) [0, 0]).2 == 0)) = true := hok
   have hne : op ≠ sIte := fun e => by
    subst e
    simp at hok2
    exact ite2_bad 0 0 hok2.2
   exact do_typed hE h op hop lv [a, b] hl hgl (by simp) (by simp) hin (typeF s b) _ _ _ hroom (simple2_len _ _ _ _) hap (fun w1 hf => hok2 ▸ typed2_calls (hE.frm0 hf) (h.frm0 hf) op hop' lv a b (hsl w1 hf) (hmem a (by simp)) (hmem b (by simp)))
    (fun w1 v hf hv hlen => by
     match hc : constsF s [a, b], hlen with
     | [x, y], _ => exact apply2_calls w1 op (typeF s b) v x y (hlt x (by rw [hc]; simp)) (hlt y (by rw [hc]; simp)) (hE.frm0 hf).tabs (hc ▸ hv))
    (fun w1 hf => simple2_calls (hE.frm0 hf) (h.frm0 hf) op a b lv (hsl w1 hf) (hmem a (by simp)) (by omega) hne)
  | [c, a, b], hl, hin, hmem, hok, hsl, hlt, hap =>
   have hi : op = sIte := by
    by_cases hi : op = sIte
    ·exact hi
    ·unfold typedOk at hok
     simp only [hi, if_false] at hok
     rw [applyF3, if_neg hi] at hok
     simp at hok
   have hok2 : typeF s c = (1, false) ∧ (allTy s (typeF s b) [a, b] && ((applyF op (typeF s b) [0, 0, 0]).2 == 0)) = true := by
    unfold typedOk at hok
    simp only [hi, if_true, Bool.and_eq_true, decide_eq_true_eq] at hok
    rw [hi]
    exact ⟨hok.1, by simp [hok.2.1]; simpa using hok.2.2⟩
   exact do_typed hE h op hop lv [c, a, b] hl hgl (by simp) (by simp) hin (typeF s b) _ _ _ hroom (Nat.le_succ _) hap (fun w1 hf => hok2.2 ▸ typedI_calls (hE.frm0 hf) (h.frm0 hf) op hop' lv c a b (hsl w1 hf) (hmem c (by simp)) (hmem a (by simp)) (hmem b (by simp)) hi hok2.1)
    (fun w1 v hf hv hlen => by
     match hc : constsF s [c, a, b], hlen with
     | [x, y, z], _ => exact apply3_calls w1 op (typeF s b) v x y z (hc ▸ hv))
    (fun w1 hf => (simple3_calls (hE.frm0 hf) (h.frm0 hf) op c a b lv (hsl w1 hf) (hmem a (by simp)) hi).mono fun e w' ⟨he, hf'⟩ => TPost.same (h.frm0 hf) he hf')
  | a :: b :: c :: d :: r, hl, hin, hmem, hok, hsl, hlt, hap => cases hok
end TmW
end Go.Proofs.YtbbajekecppioaaGreatDoor
