/- The law's Build walked: kids; and the whole. -/
import Derived.Test.YtbbajekecppioaaGreatDoorGa38
set_option linter.unusedSimpArgs false
set_option linter.unusedVariables false
namespace Go.Proofs.YtbbajekecppioaaGreatDoor
open Go.RowKit Go.Mem Go.Wd Go.Tp
namespace LawT
open TmW (frm_alloc frm_then frm_cellD frm_cell eqS countX countL typeX evalX vtype is64 sNum sVar sCast buildF buildL TypesOk PoolAt TPost PMoves IntKept Env NumF VarF CastF DoF Built Num_calls Var_calls PCast_calls PDo_calls build_ok kept_frm0 constF)
open RfW (TreeV TreeAt KidsAt VarsIn xcells countL_mem countL_take countL_le count_len sees_slice)
abbrev BuildIH (lim : Nat) (p : Nat) (vs : List Ty) (vv : Value) (e : Int → Nat) (x : Tree) : Prop :=
 ∀ (w1 : World) (own1 : Nat → Prop) (s1 : TPool) (D1 : Int → Nat) (val : Value), Env w1 → PoolAt w1 own1 p s1 → TmW.Good e s1 D1 → TypesOk vs s1 → (∀ b, own1 b → lim ≤ b) → lim ≤ w1.heap.size → TreeV w1 lim val x → VarsIn w1 lim vv vs → s1.l.length + 2 * countX x + 2 < 4294967296 →
  Calls Tryz.prog 9 #[.pointer (some ⟨p, 0, none⟩), val, vv] w1 (TPost own1 w1 p (.tuple #[.int .i64 (buildF vs x s1).1.1, .int .i64 (buildF vs x s1).1.2]) (buildF vs x s1).2)
theorem mid_step {w wr w2 : World} {own own' own2 : Nat → Prop} {p : Nat} {s s' s2 : TPool} {e : Int → Nat} {vs : List Ty} {rv : Value} {ids : List Int} {xb : Obj} {m m2 : Nat} (h : Mid w wr own own' p s s' e vs rv ids xb m) (hP : PoolAt w2 own2 p s2) (hM : PMoves own' wr own2 w2) (hg : ∃ D, TmW.Good e s2 D) (ht : TypesOk vs s2) (hl : s2.l.length ≤ s'.l.length + 2 * m2) :
  Mid w w2 own own2 p s s2 e vs rv ids xb (m + m2) :=
 ⟨hP, TmW.PMoves.trans h.moves hM, hg, ht, h.row.frm hM.1 fun g hgg ho => (h.apart g hgg).1 ho, fun g hgg => ⟨fun ho => (hM.2.1 g ho).elim (h.apart g hgg).1 fun hge => by have := h.row.lt g hgg; omega, (h.apart g hgg).2⟩, blk_frm h.box hM.1 h.mybox, fun ho => (hM.2.1 _ ho).elim h.mybox fun hge => by have := lt_of_block h.box; omega, by have := h.len; omega⟩
theorem mid_append {w wr w2 : World} {own own' : Nat → Prop} {p : Nat} {s s' : TPool} {e : Int → Nat} {vs : List Ty} {rv rv2 : Value} {ids ids2 : List Int} {xb : Obj} {m g2 : Nat} (h : Mid w wr own own' p s s' e vs rv ids xb m) (hr : Row w2 3 iI rv2 ids2) (hf : Frm (fun b => rv.ownBlock = some b) wr w2) (hg : rv.ownBlock = some g2 ∨ g2 = wr.heap.size) (hv : rv2.ownBlock = some g2) :
  Mid w w2 own own' p s s' e vs rv2 ids2 xb m := by
 have ho : ∀ b, rv.ownBlock = some b → ¬ own' b := fun b hb => (h.apart b hb).1
 have hf2 : Frm own w w2 := h.moves.1.trans hf fun x hx hb => by have := (h.apart x hb).2; omega
 refine ⟨h.pool.frm hf fun b hb hs => ho b hs hb, ⟨hf2, h.moves.2.1, fun b cs hb => ?_⟩, h.good, h.types, hr, fun g hgg => ?_, blk_frm h.box hf fun hs => ?_, h.mybox, h.len⟩
 ·have := lt_of_block hb
  exact blk_frm (h.moves.2.2 b cs hb) hf fun hs => by have := (h.apart b hs).2; omega
 ·rw [hv] at hgg
  cases hgg
  rcases hg with hg | hg
  ·exact h.apart _ hg
  ·refine ⟨fun hb => ?_, ?_⟩
   ·have := h.pool.lt _ hb; omega
   ·have := lt_of_block h.box; omega
 ·have := (h.apart _ hs).2; omega
theorem ids_len (vs : List Ty) : ∀ (l : List Tree) (s : TPool), (buildL vs l s).1.1.length ≤ l.length
 | [], s => by simp [buildL]
 | x :: r, s => by
  have := ids_len vs r (buildF vs x s).2
  simp only [buildL]
  split <;> simp <;> omega
set_option maxRecDepth 100000 in
set_option maxHeartbeats 4000000 in
theorem build_kids {lim : Nat} {w : World} {own : Nat → Prop} {p : Nat} {s : TPool} (hE : Env w) (hP : PoolAt w own p s) (op : ByteArray) (t : Ty) (num : Nat) (v : Int) (gl : Bool) (ln cl : Int) (A : Option Addr) (c : Nat) (kids : List Tree)
  (vv : Value) (vs : List Ty) (is : List Nat) (e : Int → Nat) (he : ∀ v u, vtype vs v = some u → e v = is.getD v.toNat 0) (D : Int → Nat) (hG : TmW.Good e s D) (hT : TypesOk vs s) (hol : ∀ b, own b → lim ≤ b) (hlw : lim ≤ w.heap.size) (hk : KidsAt w lim A 0 kids) (hvars : VarsIn w lim vv vs) (hop : op.size ≤ 140737488355328)
  (hih : ∀ (i : Nat) x, kids[i]? = some x → BuildIH lim p vs vv e x) (hroom : s.l.length + 2 * countL kids + 4 < 4294967296) (n1 : op ≠ sNum) (n2 : op ≠ sVar)
  (res : (Int × Int) × TPool) (hres : res = if (buildL vs kids s).1.2 = 0 then (if op = sCast ∧ (buildL vs kids s).1.1.length = 1 then CastF (buildL vs kids s).2 t ((buildL vs kids s).1.1.headD 0) else DoF (buildL vs kids s).2 op (buildL vs kids s).1.1) else ((0, (buildL vs kids s).1.2), (buildL vs kids s).2)) :
  Calls Tryz.prog 9 #[.pointer (some ⟨p, 0, none⟩), .agg #[.string op, .int .i64 t.1, .bool t.2, .int .u64 num, .int .i64 v, .bool gl, .int .i64 ln, .int .i64 cl, .slice A kids.length c], vv] w (TPost own w p (.tuple #[.int .i64 res.1.1, .int .i64 res.1.2]) res.2) := by
 have d1 : (op.toList == [110, 117, 109]) = false := by rw [eqS]; exact decide_eq_false n1
 have d2 : (op.toList == [118, 97, 114]) = false := by rw [eqS]; exact decide_eq_false n2
 obtain ⟨i0, hi, hz0, hz1, hz2⟩ := info_parts info_int
 have HE := Lib.hid hE
 have HP := Lib.hid hP
 have HK := Lib.hid hk
 have HV := Lib.hid hvars
 have HI := Lib.hid hih
 have HRm := Lib.hid hroom
 have HRes := Lib.hid hres
 have HGT := Lib.hid (show TmW.Good e s D ∧ TypesOk vs s from ⟨hG, hT⟩)
 have HOL := Lib.hid (And.intro hol hlw)
 have Hop := Lib.hid hop
 have Hbo := Lib.hid (build_ok vs is e he)
 clear hE hP hk hvars hih hroom hres hG hT hol hlw hop n1 n2 he
 go_enter Tryz.func9, Tryz.ntmps9
 go_wp2_with fail
 have HB1 := Lib.hid (blk_new (w := w) (.cells #[.string op, .int .i64 t.1, .bool t.2, .int .u64 num, .int .i64 v, .bool gl, .int .i64 ln, .int .i64 cl, .slice A kids.length c] 27))
 have HF1 := Lib.hid (frm_alloc w (.cells #[.string op, .int .i64 t.1, .bool t.2, .int .u64 num, .int .i64 v, .bool gl, .int .i64 ln, .int .i64 cl, .slice A kids.length c] 27))
 obtain ⟨w1, hw1⟩ : ∃ w1, w1 = w.alloc (.cells #[.string op, .int .i64 t.1, .bool t.2, .int .u64 num, .int .i64 v, .bool gl, .int .i64 ln, .int .i64 cl, .slice A kids.length c] 27) := ⟨_, rfl⟩
 have hs1 := Lib.hid (show w1.heap.size = w.heap.size + 1 by rw [hw1]; simp)
 rw [← hw1] at HB1 HF1 ⊢
 clear hw1
 have HM0 := Lib.hid (show Mid w (w1.alloc (.cells #[] 3)) own own p s s e vs (.slice (some ⟨w.heap.size + 1, 0, none⟩) 0 0) [] (.cells #[.string op, .int .i64 t.1, .bool t.2, .int .u64 num, .int .i64 v, .bool gl, .int .i64 ln, .int .i64 cl, .slice A kids.length c] 27) 0 from
  ⟨HP.out.frm0 (HF1.out.alloc _), TmW.PMoves.of0 (HF1.out.alloc _), ⟨D, HGT.out.1⟩, HGT.out.2, ⟨by simp, .inr ⟨w.heap.size + 1, 0, #[], rfl, Nat.zero_le _, blk_new_at _ hs1.out.symm, Nat.zero_le _, Nat.zero_le _, by simp, by simp⟩⟩,
   fun g hg => by cases hg; exact ⟨fun ho => by have h : w.heap.size + 1 < w.heap.size := HP.out.lt _ ho; omega, Nat.le_refl _⟩, blk_alloc HB1.out _, fun ho => by have := HP.out.lt _ ho; omega, by omega⟩)
 go_loopw [8, 9] (fun v8 v9 w' => ∃ k : Nat, k ≤ kids.length ∧ v9 = .int .i64 k ∧ ∃ own', Hid ((buildL vs (kids.take k) s).1.2 = 0) ∧ Hid (Mid w w' own own' p s (buildL vs (kids.take k) s).2 e vs v8 (buildL vs (kids.take k) s).1.1 (.cells #[.string op, .int .i64 t.1, .bool t.2, .int .u64 num, .int .i64 v, .bool gl, .int .i64 ln, .int .i64 cl, .slice A kids.length c] 27) (countL (kids.take k)))) (fun _ v9 _ => kids.length - (intOf v9).toNat)
 case atStart => exact ⟨0, Nat.zero_le _, rfl, own, Lib.hid (by simp [buildL]), Lib.hid (by simpa [buildL, countL] using HM0.out)⟩
 case round =>
  obtain ⟨k, hk, rfl, own', HZ, HM⟩ := hrel
  have b8 : wr.cell? ⟨w.heap.size, 8, none⟩ = some (.slice A kids.length c) := blk_cell HM.out.box 8
  have hlen : kids.length ≤ 4294967296 := by have := count_len kids; have := HRm.out; omega
  by_cases hlt : k < kids.length
  ·have hltI : (k : Int) < (kids.length : Int) := by omega
   obtain ⟨x, hx⟩ : ∃ x, kids[k]? = some x := ⟨_, List.getElem?_eq_getElem (by omega)⟩
   have hlow := moves_low HM.out.moves HOL.out.1
   obtain ⟨g, o, rfl, hTr⟩ := (KidsAt.frm hlow HK.out).get hx
   rw [Nat.zero_add] at hTr
   obtain ⟨a0, a1, a2, a3, a4, a5, a6, a7, a8, hV, c0, c1, c2, c3, c4, c5, c6, c7, c8⟩ := hTr.load
   obtain ⟨Dk, hGk⟩ := HM.out.good
   have hct := countL_take hx
   have hcle := countL_le (l := kids) (k + 1)
   have hml := HM.out.len
   have HC := Lib.hid (HI.out k x hx wr own' _ Dk _ (TmW.Env.moves HE.out HM.out.moves HP.out.lo) HM.out.pool hGk HM.out.types (HM.out.low HOL.out.2 HOL.out.1) (Nat.le_trans HOL.out.2 HM.out.moves.1.size) hV (HV.out.frm hlow) (by have := HRm.out; omega))
   have htk : kids.take (k + 1) = kids.take k ++ [x] := by rw [List.take_add_one, hx]; rfl
   have hsn := buildL_snoc vs x (kids.take k) s HZ.out
   rw [← htk] at hsn
   have hsn := Lib.hid hsn
   have Hbk := Lib.hid (Hbo.out x _ Dk hGk HM.out.types)
   have hspl := Lib.hid (show kids.take (k + 1) ++ kids.drop (k + 1) = kids from List.take_append_drop _ _)
   have Hct := Lib.hid (show countL (kids.take (k + 1)) = countL (kids.take k) + countX x from hct)
   obtain ⟨ids, hids⟩ : ∃ ids, ids = (buildL vs (kids.take k) s).1.1 := ⟨_, rfl⟩
   obtain ⟨sk, hsk⟩ : ∃ sk, sk = (buildL vs (kids.take k) s).2 := ⟨_, rfl⟩
   have hil : Hid (ids.length ≤ 4294967296) := Lib.hid (by have h1 := ids_len vs (kids.take k) s; rw [← hids, List.length_take] at h1; omega)
   rw [← hids, ← hsk] at HM hsn
   rw [← hsk] at HC Hbk
   obtain ⟨r, hr⟩ : ∃ r, r = buildF vs x sk := ⟨_, rfl⟩
   rw [← hr] at HC hsn Hbk
   obtain ⟨⟨f, er⟩, s2⟩ := r
   obtain ⟨RA, RC, rfl, _⟩ := sees_slice HM.out.row.sees
   have Hkk := Lib.hid (show k + 1 ≤ kids.length from hlt)
   clear hTr hV hx hlow hGk hct hcle hml htk hids hsk hr hlt
   go_wp2_with fail
   refine HC.out.mono ?_
   rintro ed w2 ⟨rfl, own2, hP2, hM2⟩
   by_cases her : er = 0
   ·subst her
    have hty : (typeX vs x).2 = true := by
     cases hb : (typeX vs x).2 with
     | true => rfl
     | false => exact absurd rfl (Hbk.out.2 hb).1
    have hB := Hbk.out.1 hty
    obtain ⟨D', g1, _, _⟩ := hB.came.out
    have HM2 := Lib.hid (mid_step HM.out hP2 hM2 ⟨D', g1⟩ hB.types hB.len)
    have hsn2 := Lib.hid (hsn.out.trans (if_pos rfl))
    clear hP2 hM2 hty hB g1
    go_wp2_with (at_builtin; refine wpList_append_row rfl _ _ 50 rfl 3 i0 (.int .i64 0) 8 Tryz.underlying50 hi hz0 hz1 hz2 rfl (enc := iI) (.slice RA ids.length RC) ids rfl ((HM2.out.frm0 (frm_alloc w2 (.cells #[.int .i64 f] 3))).row) ⟨w2.heap.size, 0, none⟩ 1 f rfl ?c1 rfl ?c2 ?c3 ?_)
    case c1 => exact blk_cell (blk_new _) 0
    case c2 => have := hil.out; have : maxLen = 9223372036854775807 := rfl; omega
    case c3 => have := hil.out; omega
    intro g' cap' w7 hrow hfr hg hlt7
    have HM7 := Lib.hid (mid_append (HM2.out.frm0 (frm_alloc w2 (.cells #[.int .i64 f] 3))) hrow hfr (hg.imp id fun h => by rw [h]; simp) rfl)
    clear hrow hfr hg
    go_wp2
    go_roundw
    case rel => exact ⟨k + 1, Hkk.out, by first | rfl | go_num, own2, Lib.hid (by rw [hsn2.out]), Lib.hid (by rw [hsn2.out, Hct.out]; exact HM7.out)⟩
    case measure => have := Hkk.out; simp [intOf]; omega
   ·have hers : (er == 0) = false := by simpa using her
    have hsn2 := hsn.out.trans (if_neg her)
    have hstop := buildL_stop vs (kids.drop (k + 1)) (kids.take (k + 1)) s (by rw [hsn2]; exact her)
    rw [hspl.out, hsn2] at hstop
    have HR2 := Lib.hid (show res = ((0, er), s2) by rw [HRes.out, if_neg (by rw [hstop.1]; exact her), hstop.1, hstop.2])
    have HM2 := Lib.hid (TmW.PMoves.trans HM.out.moves hM2)
    have HP2 := Lib.hid hP2
    clear hP2 hM2 hsn2 hstop her
    go_wp2
    go_ret2
    exact ⟨by rw [HR2.out]; rfl, own2, by rw [HR2.out]; exact HP2.out, HM2.out⟩
  ·obtain rfl : k = kids.length := by omega
   have hltI : ¬ (kids.length : Int) < (kids.length : Int) := by omega
   rw [List.take_length] at HM HZ
   have HRes2 := Lib.hid (HRes.out.trans (if_pos HZ.out))
   have hml := HM.out.len
   have hE2 := TmW.Env.moves HE.out HM.out.moves HP.out.lo
   obtain ⟨Dk, hGk⟩ := HM.out.good
   generalize (buildL vs kids s).1.1 = ids at *
   generalize (buildL vs kids s).2 = sk at *
   have hroom : sk.l.length + 2 < 4294967296 := by have := HRm.out; omega
   have a0 : wr.cell? ⟨w.heap.size, 0, none⟩ = some (.string op) := blk_cell HM.out.box 0
   have a1 : wr.cell? ⟨w.heap.size, 1, none⟩ = some (.int .i64 t.1) := blk_cell HM.out.box 1
   have a2 : wr.cell? ⟨w.heap.size, 2, none⟩ = some (.bool t.2) := blk_cell HM.out.box 2
   obtain ⟨RA, RC, rfl, hcell⟩ := sees_slice HM.out.row.sees
   by_cases hc : op = sCast
   ·have d3 : (op.toList == [99, 97, 115, 116]) = true := by rw [eqS]; exact decide_eq_true hc
    by_cases h1 : ids.length = 1
    ·obtain ⟨f, rfl⟩ := List.length_eq_one_iff.1 h1
     obtain ⟨g7, o7, rfl, y0⟩ := hcell 0 f rfl
     rw [Nat.add_zero] at y0
     have y0 : wr.cell? ⟨g7, o7, none⟩ = some (.int .i64 f) := y0
     have HR2 := Lib.hid (show res = CastF sk t f from HRes2.out.trans (if_pos ⟨hc, rfl⟩))
     have HD := Lib.hid fun w1 (hf : Frm (fun _ => False) wr w1) => PCast_calls (hE2.frm0 hf) (HM.out.pool.frm0 hf) t f (hGk.calm.num f) (by omega)
     have HMv := Lib.hid HM.out.moves
     clear hcell hE2 hGk hc h1 hroom
     have hone : ([f] : List Int).length = 1 := rfl
     generalize CastF sk t f = q at *
     go_wp2_with fail
     refine Plan.wp_region_plan [0, 0, 2, 0, 8, 24, 63, 127, 127, 511, 1023] [.mk [0, 1, 2, 3, 4, 5] 6 []] [7, 8, 9, 10] (by kernel_rfl) (by kernel_rfl) ?_
     simp only [Plan.wayOf, Plan.pickAll, List.getElem?_cons_zero, List.getElem?_cons_succ, List.getD_eq_getElem?_getD, Option.getD_some]
     refine Plan.wpWay_seg ?_
     repeat go_big_quiet_step (fail)
     refine wpQuiet_nil ?_; refine Plan.wpWay_act ?_
     go_wp2_with fail
     refine (HD.out _ (Frm.refl _ _).drew).mono ?_
     rintro ed w2 ⟨rfl, own2, hP2, hM2⟩
     have HP2 := Lib.hid hP2
     have HM2 := Lib.hid (TmW.PMoves.trans HMv.out (TmW.moves_pre (Frm.refl _ _).drew hM2))
     clear hP2 hM2
     go_wp2_with fail
     refine And.intro Plan.again_nil ?_
     refine Plan.wpWay_last ?_
     repeat go_big_quiet_step (fail)
     refine wpQuiet_nil ?_; refine NoPanic.normal ?_
     go_wp2
     go_ret2
     exact ⟨by rw [HR2.out]; rfl, own2, by rw [HR2.out]; exact HP2.out, HM2.out⟩
    ·have h1' : ((ids.length : Int) == 1) = false := by simp; omega
     have HR2 := Lib.hid (HRes2.out.trans (if_neg fun h => h1 h.2))
     have HD := Lib.hid (PDo_calls hE2 HM.out.pool hGk.calm op Hop.out _ ids HM.out.row.sees (fun g hg => by obtain ⟨o, n, cc, e⟩ := hg; rcases HM.out.row.shape with ⟨e2, _⟩ | ⟨g2, cap2, e2, e3, _⟩ <;> rw [e] at e2 <;> simp at e2; obtain ⟨⟨rfl, rfl⟩, _⟩ := e2; exact (HM.out.apart g e3).1) hroom)
     have HMv := Lib.hid HM.out.moves
     clear hcell hE2 hGk hc h1 hroom
     generalize DoF sk op ids = q at *
     go_wp2_with fail
     refine HD.out.mono ?_
     rintro ed w2 ⟨rfl, own2, hP2, hM2⟩
     have HP2 := Lib.hid hP2
     have HM2 := Lib.hid (TmW.PMoves.trans HMv.out hM2)
     clear hP2 hM2
     go_wp2
     go_ret2
     exact ⟨by rw [HR2.out]; rfl, own2, by rw [HR2.out]; exact HP2.out, HM2.out⟩
   ·have d3 : (op.toList == [99, 97, 115, 116]) = false := by rw [eqS]; exact decide_eq_false hc
    have HR2 := Lib.hid (HRes2.out.trans (if_neg fun h => hc h.1))
    have HD := Lib.hid (PDo_calls hE2 HM.out.pool hGk.calm op Hop.out _ ids HM.out.row.sees (fun g hg => by obtain ⟨o, n, cc, e⟩ := hg; rcases HM.out.row.shape with ⟨e2, _⟩ | ⟨g2, cap2, e2, e3, _⟩ <;> rw [e] at e2 <;> simp at e2; obtain ⟨⟨rfl, rfl⟩, _⟩ := e2; exact (HM.out.apart g e3).1) hroom)
    have HMv := Lib.hid HM.out.moves
    clear hcell hE2 hGk hc hroom
    generalize DoF sk op ids = q at *
    go_wp2_with fail
    refine HD.out.mono ?_
    rintro ed w2 ⟨rfl, own2, hP2, hM2⟩
    have HP2 := Lib.hid hP2
    have HM2 := Lib.hid (TmW.PMoves.trans HMv.out hM2)
    clear hP2 hM2
    go_wp2
    go_ret2
    exact ⟨by rw [HR2.out]; rfl, own2, by rw [HR2.out]; exact HP2.out, HM2.out⟩
theorem Build_calls (lim : Nat) (p : Nat) (vs : List Ty) (vv : Value) (is : List Nat) (e : Int → Nat) (he : ∀ v u, vtype vs v = some u → e v = is.getD v.toNat 0) : ∀ (n : Nat) (x : Tree), countX x ≤ n → BuildIH lim p vs vv e x
 | 0, .mk .., h => by rw [countX] at h; omega
 | n + 1, .mk op t num v kids, h => by
  intro w own s D val hE hP hG hT hol hlw hv hvars hroom
  obtain ⟨hnum, hop, ⟨ht64, hv64⟩, gl, ln, cl, A, c, rfl, hkl, hk⟩ := hv
  rw [countX] at h hroom
  rw [buildF]
  unfold xcells
  by_cases n1 : op = sNum
  ·rw [if_pos n1]; exact build_num (lim := lim) hE hP op t num v gl ln cl A c kids vv hnum n1 (by omega)
  rw [if_neg n1]
  by_cases n2 : op = sVar
  ·rw [if_pos n2]
   obtain ⟨B, d, rfl, hvl, hvc⟩ := hvars
   by_cases hv0 : 0 ≤ v
   ·cases hu : vs[v.toNat]? with
    | none =>
     have hlen := List.getElem?_eq_none_iff.1 hu
     have : vtype vs v = none := by unfold vtype; rw [if_pos hv0, hu]
     rw [this]
     exact build_out (lim := lim) hE hP op t num v gl ln cl A c kids B vs.length d hvl n2 (.inr (by omega))
    | some u =>
     have : vtype vs v = some u := by unfold vtype; rw [if_pos hv0, hu]
     rw [this]
     obtain ⟨k, rfl⟩ : ∃ k : Nat, v = k := ⟨v.toNat, by omega⟩
     simp only [Int.toNat_natCast] at hu
     obtain ⟨_, g, o, rfl, _, h0, h1⟩ := hvc k u hu
     exact build_var hE hP op t num k gl ln cl A kids.length c g o vs.length d u hvl n2 (List.getElem?_eq_some_iff.1 hu).1 hv64 h0 h1 (by omega)
   ·have : vtype vs v = none := by unfold vtype; rw [if_neg hv0]
    rw [this]
    exact build_out (lim := lim) hE hP op t num v gl ln cl A c kids B vs.length d hvl n2 (.inl (by omega))
  rw [if_neg n2]
  exact build_kids hE hP op t num v gl ln cl A c kids vv vs is e he D hG hT hol hlw hk hvars hop (fun i x hx => Build_calls lim p vs vv is e he n x (by have := countL_mem hx; omega)) (by omega) n1 n2 _ rfl
end LawT
end Go.Proofs.YtbbajekecppioaaGreatDoor
/- The law's u8, few and values walked. -/
namespace Go.Proofs.YtbbajekecppioaaGreatDoor
open Go.RowKit Go.Mem Go.Wd Go.Tp
namespace LawT
open TmW (frm_alloc frm_then frm_cellD frm_cell eqS countX VRow VVal vcell vcells)
open RfW (TreeV VarsIn IsIn)
theorem tree_frm {w w' : World} {lim : Nat} {val : Value} {x : Tree} (h : TreeV w lim val x) (hf : ∀ b, b < lim → b < w.heap.size → w'.heap[b]? = w.heap[b]?) : TreeV w' lim val x := by
 obtain ⟨op, t, num, v, kids⟩ := x
 obtain ⟨h1, h2, h3, gl, ln, cl, A, c, h4, h5, h6⟩ := h
 exact ⟨h1, h2, h3, gl, ln, cl, A, c, h4, h5, RfW.KidsAt.frm hf h6⟩
theorem tree_frm0 {w w' : World} {lim : Nat} {val : Value} {x : Tree} (h : TreeV w lim val x) (hf : Frm (fun _ => False) w w') : TreeV w' lim val x := tree_frm h fun b _ hb => hf.block b hb id
theorem u8_calls (w : World) : Calls Tryz.prog 20 #[] w fun e w' => e = .returned (.agg #[.int .i64 8, .bool false]) ∧ Frm (fun _ => False) w w' := by
 have hF := Lib.hid (frm_alloc w (.cells #[.int .i64 8, .bool false] 23))
 go_enter Tryz.func20, Tryz.ntmps20
 go_wp2
 first
  | refine bodyPost_ret (v := .agg #[.int .i64 8, .bool false]) (by simp [results, Tryz.results20, go_sem]) rfl ⟨rfl, hF.out⟩
  | refine bodyPost_end (v := .agg #[.int .i64 8, .bool false]) (by simp [results, Tryz.results20, go_sem]) rfl ⟨rfl, hF.out⟩
def fewF (x : Tree) (vs : List Ty) (is : List Nat) : Bool := decide (countX x ≤ 60) && (decide (vs.length ≤ 10) && decide (is.length = vs.length))
set_option maxRecDepth 100000 in
set_option maxHeartbeats 1000000 in
theorem few_calls (lim : Nat) (w : World) (a0 a1 a2 a3 a4 a5 a6 a7 a8 : Value) (x : Tree) (vs : List Ty) (is : List Nat) (VA IA : Option Addr) (VC IC : Nat) (hx : TreeV w lim (.agg #[a0, a1, a2, a3, a4, a5, a6, a7, a8]) x) (hn : countX x ≤ 4194304) (hv : vs.length ≤ maxLen) (hi : is.length ≤ maxLen) :
  Calls Tryz.prog 8 #[.agg #[a0, a1, a2, a3, a4, a5, a6, a7, a8, .slice VA vs.length VC, .slice IA is.length IC]] w fun e w' => e = .returned (.bool (fewF x vs is)) ∧ Frm (fun _ => False) w w' := by
 have HF := Lib.hid (frm_alloc w (.cells #[a0, a1, a2, a3, a4, a5, a6, a7, a8, .slice VA vs.length VC, .slice IA is.length IC] 31))
 have HB := Lib.hid (blk_new (w := w) (.cells #[a0, a1, a2, a3, a4, a5, a6, a7, a8, .slice VA vs.length VC, .slice IA is.length IC] 31))
 have HC := Lib.hid fun w1 (hf : Frm (fun _ => False) w w1) => RfW.Count_calls lim (countX x) x (Nat.le_refl _) hn w1 _ (tree_frm0 hx hf)
 have hv' : vs.length ≤ 9223372036854775807 := hv
 have hi' : is.length ≤ 9223372036854775807 := hi
 have he : Hid (fewF x vs is = (decide ((countX x : Int) ≤ 60) && (decide ((vs.length : Int) ≤ 10) && ((is.length : Int) == (vs.length : Int))))) := Lib.hid (by
  unfold fewF
  congr 1
  ·rw [decide_eq_decide]; omega
  ·congr 1
   ·rw [decide_eq_decide]; omega
   ·rw [Bool.eq_iff_iff]; simp; omega)
 clear hx hn hv hi
 generalize countX x = n at *
 go_enter Tryz.func8, Tryz.ntmps8
 go_wp2_with fail
 refine (HC.out _ HF.out).mono ?_
 rintro e w1 ⟨rfl, hf⟩
 have HF1 := Lib.hid (frm_then HF.out hf)
 have HB1 := Lib.hid (blk_frm HB.out hf id)
 have b9 : w1.cell? ⟨w.heap.size, 9, none⟩ = some (.slice VA vs.length VC) := blk_cell HB1.out 9
 have b10 : w1.cell? ⟨w.heap.size, 10, none⟩ = some (.slice IA is.length IC) := blk_cell HB1.out 10
 clear hf
 cases h1 : decide ((n : Int) ≤ 60) <;> cases h2 : decide ((vs.length : Int) ≤ 10)
 all_goals go_wp2
 all_goals go_ret
 all_goals exact ⟨by rw [he.out, h1, h2]; rfl, HF1.out⟩
def encVV : Enc VVal 4 := ⟨vcell, fun _ => rfl, fun x u hu => by simp [vcell] at hu; rcases hu with rfl | rfl | rfl | rfl <;> rfl⟩
/-- What the variables are told to be. -/
def valuesF (vs : List Ty) (is : List Nat) : List VVal := (List.range vs.length).map fun i : Nat => ⟨(i : Int), vs.getD i (0, false), is.getD i 0⟩
theorem values_len (vs : List Ty) (is : List Nat) : (valuesF vs is).length = vs.length := by simp [valuesF]
theorem values_get {vs : List Ty} {is : List Nat} {k : Nat} {u : Ty} {z : Nat} (hu : vs[k]? = some u) (hz : is[k]? = some z) : (valuesF vs is)[k]? = some ⟨k, u, z⟩ := by
 have hk := (List.getElem?_eq_some_iff.1 hu).1
 unfold valuesF
 rw [List.getElem?_map, List.getElem?_range hk]
 simp [List.getD_eq_getElem?_getD, hu, hz]
theorem info_vv : (Tryz.prog.info? 70).map (fun i => (i.zero, i.size, i.bytes)) = some (some (.agg #[.int .i64 0, .int .i64 0, .bool false, .int .u64 0]), 4, 32) := by kernel_rfl
set_option maxRecDepth 100000 in
set_option maxHeartbeats 1000000 in
theorem values_calls (lim : Nat) (w : World) (a0 a1 a2 a3 a4 a5 a6 a7 a8 : Value) (vs : List Ty) (is : List Nat) (VA IA : Option Addr) (VC IC : Nat) (hv : VarsIn w lim (.slice VA vs.length VC) vs) (hi : IsIn w lim (.slice IA is.length IC) is) (hn : vs.length ≤ 10) (he : is.length = vs.length) :
  Calls Tryz.prog 12 #[.agg #[a0, a1, a2, a3, a4, a5, a6, a7, a8, .slice VA vs.length VC, .slice IA is.length IC]] w fun e w' => ∃ r, e = .returned r ∧ VRow w' r (valuesF vs is) ∧ Frm (fun _ => False) w w' ∧ ∀ g, r.ownBlock = some g → w.heap.size ≤ g := by
 obtain ⟨i0, hi0, hz0, hz1, hz2⟩ := info_parts info_vv
 have HF := Lib.hid (frm_alloc w (.cells #[a0, a1, a2, a3, a4, a5, a6, a7, a8, .slice VA vs.length VC, .slice IA is.length IC] 31))
 have HB := Lib.hid (blk_new (w := w) (.cells #[a0, a1, a2, a3, a4, a5, a6, a7, a8, .slice VA vs.length VC, .slice IA is.length IC] 31))
 have HV := Lib.hid hv
 have HI := Lib.hid hi
 have He := Lib.hid he
 clear hv hi he
 go_enter Tryz.func12, Tryz.ntmps12
 go_wp2_with fail
 obtain ⟨w1, hw1⟩ : ∃ w1, w1 = w.alloc (.cells #[a0, a1, a2, a3, a4, a5, a6, a7, a8, .slice VA vs.length VC, .slice IA is.length IC] 31) := ⟨_, rfl⟩
 have hs1 := Lib.hid (show w1.heap.size = w.heap.size + 1 by rw [hw1]; simp)
 rw [← hw1] at HB HF ⊢
 clear hw1
 have HR0 := Lib.hid (show SRow (w1.alloc (.cells #[] 70)) 70 encVV (.slice (some ⟨w.heap.size + 1, 0, none⟩) 0 0) ([] : List VVal) from SRow.empty (blk_new_at _ hs1.out.symm))
 have HF2 := Lib.hid (HF.out.alloc (.cells #[] 70))
 have HB2 := Lib.hid (blk_alloc HB.out (.cells #[] 70))
 go_loopw [3, 4] (fun v3 v4 w' => ∃ k : Nat, k ≤ vs.length ∧ v4 = .int .i64 k ∧ Hid (SRow w' 70 encVV v3 ((valuesF vs is).take k)) ∧ Hid (Frm (fun _ => False) w w') ∧ Hid (w'.heap[w.heap.size]? = some (.cells #[a0, a1, a2, a3, a4, a5, a6, a7, a8, .slice VA vs.length VC, .slice IA is.length IC] 31)) ∧ Hid (∀ g, v3.ownBlock = some g → w.heap.size + 1 ≤ g)) (fun _ v4 _ => vs.length - (intOf v4).toNat)
 case atStart => exact ⟨0, Nat.zero_le _, rfl, HR0, HF2, HB2, Lib.hid fun g hg => by cases hg; exact Nat.le_refl _⟩
 case round =>
  obtain ⟨k, hk, rfl, HS, HF3, HB3, HO⟩ := hrel
  have b9 : wr.cell? ⟨w.heap.size, 9, none⟩ = some (.slice VA vs.length VC) := blk_cell HB3.out 9
  have b10 : wr.cell? ⟨w.heap.size, 10, none⟩ = some (.slice IA is.length IC) := blk_cell HB3.out 10
  by_cases hlt : k < vs.length
  ·have hltI : (k : Int) < (vs.length : Int) := by omega
   have hltI2 : (k : Int) < (is.length : Int) := by have := He.out; omega
   obtain ⟨u, hu⟩ : ∃ u, vs[k]? = some u := ⟨_, List.getElem?_eq_getElem hlt⟩
   obtain ⟨z, hz⟩ : ∃ z, is[k]? = some z := ⟨_, List.getElem?_eq_getElem (by have := He.out; omega)⟩
   obtain ⟨_, _, eA, _, hvc⟩ := HV.out
   obtain ⟨_, _, eI, _, hic⟩ := HI.out
   cases eA; cases eI
   obtain ⟨_, g, o, rfl, _, p0, p1⟩ := hvc k u hu
   obtain ⟨_, g2, o2, rfl, _, p2⟩ := hic k z hz
   have p0 := frm_cell HF3.out p0
   have p1 := frm_cell HF3.out p1
   have p2 := frm_cell HF3.out p2
   have htk := Lib.hid (show (valuesF vs is).take (k + 1) = (valuesF vs is).take k ++ [⟨k, u, z⟩] by rw [List.take_add_one, values_get hu hz]; rfl)
   have hl7 := Lib.hid (show ((valuesF vs is).take k).length ≤ 10 by rw [List.length_take, values_len]; omega)
   obtain ⟨ys, hys⟩ : ∃ ys, ys = (valuesF vs is).take k := ⟨_, rfl⟩
   rw [← hys] at HS htk hl7
   obtain ⟨RA, RC, rfl, _⟩ := HS.out.slice
   have hs2 : w.heap.size < wr.heap.size := lt_of_block HB3.out
   clear hvc hic hu hz hys hlt
   go_wp2_with fail
   refine Plan.wp_region_plan [0, 0, 0, 4, 0, 28, 60, 0, 128, 0, 896, 1920, 4094, 8190, 16383, 32767] [.mk [0, 1, 2, 3, 4, 5, 6, 7, 8, 9, 10, 11, 12] 13 [0], .mk [] 14 []] [15] (by kernel_rfl) (by kernel_rfl) ?_
   simp only [Plan.wayOf, Plan.pickAll, List.getElem?_cons_zero, List.getElem?_cons_succ, List.getD_eq_getElem?_getD, Option.getD_some]
   refine Plan.wpWay_seg ?_
   repeat go_big_quiet_step (fail)
   refine wpQuiet_nil ?_; refine Plan.wpWay_act ?_
   go_wp2_with (fail)
   refine And.intro ?_ ?_; focus ((iterate 1 (refine Plan.again_cons ?_ ?_; focus (go_big_quiet_step (fail); exact wpQuiet_nil rfl))); exact Plan.again_nil)
   refine Plan.wpWay_seg ?_
   refine wpQuiet_nil ?_; refine Plan.wpWay_act ?_
   refine (wpList_append_srow rfl _ _ 43 rfl 70 i0 (.agg #[.int .i64 0, .int .i64 0, .bool false, .int .u64 0]) 32 Tryz.underlying43 hi0 hz0 hz1 hz2 rfl (by decide) (E := encVV) (.slice RA ys.length RC) ys rfl (HS.out.frm0 ((Frm.refl _ _).drew.alloc (.cells #[.int .i64 k, .int .i64 u.1, .bool u.2, .int .u64 z] 70))) ⟨wr.heap.size, 0, none⟩ 1 ⟨k, u, z⟩ rfl (World.news_of_block (blk_new (w := wr) (.cells #[.int .i64 k, .int .i64 u.1, .bool u.2, .int .u64 z] 70))) (by have := hl7.out; have : maxLen = 9223372036854775807 := rfl; omega) (by have := hl7.out; omega) ?_)
   intro g' cap' w7 hrow hfr hg hlt7
   have HS7 := Lib.hid (show SRow w7 70 encVV (.slice (some ⟨g', 0, none⟩) (ys.length + 1) cap') ((valuesF vs is).take (k + 1)) by rw [htk.out]; exact hrow)
   have hS : ∀ b, (Value.slice RA ys.length RC).ownBlock = some b → w.heap.size + 1 ≤ b := HO.out
   have HF7 := Lib.hid ((frm_then HF3.out ((Frm.refl _ _).drew.alloc (.cells #[.int .i64 k, .int .i64 u.1, .bool u.2, .int .u64 z] 70))).trans hfr fun x hx h => by have := hS x h; omega)
   have HB7 := Lib.hid (blk_frm (blk_alloc (w := wr.drew) HB3.out _) hfr fun h => by have := hS _ h; omega)
   have HO7 := Lib.hid (show w.heap.size + 1 ≤ g' from hg.elim (hS g') fun h => by rw [h]; simp; omega)
   clear hrow hfr hg hS
   go_wp2_with fail
   refine And.intro Plan.again_nil ?_
   refine Plan.wpWay_last ?_
   repeat go_big_quiet_step (fail)
   refine wpQuiet_nil ?_; refine NoPanic.normal ?_
   go_wp2
   go_roundw
   case rel => exact ⟨k + 1, by omega, by first | rfl | go_num, HS7, HF7, HB7, Lib.hid fun g'' hg'' => by cases hg''; exact HO7.out⟩
   case measure => simp [intOf]; omega
  ·obtain rfl : k = vs.length := by omega
   rw [List.take_of_length_le (by rw [values_len]; exact Nat.le_refl _)] at HS
   have hltI : ¬ (vs.length : Int) < (vs.length : Int) := by omega
   clear hlt hk
   go_wp2
   go_ret
   exact ⟨_, rfl, HS.out, HF3.out, fun g hg => by have := HO.out g hg; omega⟩
end LawT
end Go.Proofs.YtbbajekecppioaaGreatDoor
