/- What Put does with each part, walked. -/
import Derived.Test.YtbbajekecppioaaGreatDoorGa40
set_option linter.unusedSimpArgs false
set_option linter.unusedVariables false
namespace Go.Proofs.YtbbajekecppioaaGreatDoor
open Go.RowKit Go.Mem Go.Wd Go.Tp
namespace TmW
theorem info_int : (Tryz.prog.info? 3).map (fun i => (i.zero, i.size, i.bytes)) = some (some (.int .i64 0), 1, 8) := by kernel_rfl
/-- Where the part's own parts begin to be looked at. -/
structure PMid (e : Int → Nat) (p : Nat) (N : List TNode) (to : List (Int × Int)) (bp cn ct bn bt : Nat) (w wr : World) (own : Nat → Prop) (x : List (Int × Int) × TPool) (n : TNode) (KA : Option Addr) (KC : Nat) : Prop where
 rep : RepP e p N to bp cn ct bn bt wr own x
 moves : PMoves own w own wr
 box : wr.heap[w.heap.size]? = some (.cells #[.string n.op, .int .i64 n.t.1, .bool n.t.2, .int .u64 n.num, .int .i64 n.v, .slice KA n.kids.length KC] 76)
 kids : Row wr 3 iI (.slice KA n.kids.length KC) n.kids
theorem PMid.frm0 {e : Int → Nat} {p : Nat} {N : List TNode} {to : List (Int × Int)} {bp cn ct bn bt : Nat} {w wr w2 : World} {own : Nat → Prop} {x : List (Int × Int) × TPool} {n : TNode} {KA : Option Addr} {KC : Nat} (h : PMid e p N to bp cn ct bn bt w wr own x n KA KC) (hf : Frm (fun _ => False) wr w2) : PMid e p N to bp cn ct bn bt w w2 own x n KA KC :=
 ⟨h.rep.frm0 hf, moves_post h.moves hf, blk_frm h.box hf id, h.kids.frm0 hf⟩
theorem PMid.put {e : Int → Nat} {p : Nat} {N : List TNode} {to : List (Int × Int)} {bp cn ct bn bt : Nat} {w wr w2 : World} {own : Nat → Prop} {x : List (Int × Int) × TPool} {n : TNode} {KA : Option Addr} {KC : Nat} (h : PMid e p N to bp cn ct bn bt w wr own x n KA KC) (ho : ∀ b, own b → b < w.heap.size) (f v : Int) (hm : IMap w2 bn (mput x.1 f v)) (hg : wr.grownBy w2 (some bn)) : PMid e p N to bp cn ct bn bt w w2 own (mput x.1 f v, x.2) n KA KC := by
 obtain ⟨h1, h2⟩ := h.rep.put f v hm hg
 have hF : Frm (fun b => b = bn) wr w2 := (Frm.of_grown hg).mono fun b _ e => (by cases e; rfl)
 have hb := ho _ h.rep.ob.2.2.2.1
 exact ⟨h1, PMoves.trans h.moves h2, blk_frm h.box hF (by omega), Row.kept h.kids h2.2.2⟩
set_option maxRecDepth 100000 in
set_option maxHeartbeats 4000000 in
theorem takeP_calls {e : Int → Nat} {p : Nat} {N : List TNode} {to : List (Int × Int)} {bp cn ct bn bt : Nat} (hN : ∀ f n, nth N f = some n → n.op.size ≤ 140737488355328) (w : World) (own : Nat → Prop) (x x' : List (Int × Int) × TPool) (f : Int) (h : RepP e p N to bp cn ct bn bt w own x) (hr : takeP N to x f = some x') :
  Calls Tryz.prog 45 (#[.int .i64 f] ++ #[.pointer (some ⟨bp, 0, none⟩), .pointer (some ⟨cn, 0, none⟩), .pointer (some ⟨ct, 0, none⟩)]) w fun ed w' => ed = .returned (.tuple #[]) ∧ ∃ own', RepP e p N to bp cn ct bn bt w' own' x' ∧ PMoves own w own' w' := by
 show Calls Tryz.prog 45 #[.int .i64 f, .pointer (some ⟨bp, 0, none⟩), .pointer (some ⟨cn, 0, none⟩), .pointer (some ⟨ct, 0, none⟩)] w _
 unfold takeP at hr
 cases hn : nth N f with
 | none => rw [hn] at hr; cases hr
 | some n =>
 rw [hn] at hr
 simp only at hr
 have Hop := Lib.hid (hN f n hn)
 obtain ⟨i0, hi, hz0, hz1, hz2⟩ := info_parts info_int
 obtain ⟨ownP, hP, hsub, _⟩ := h.pool
 obtain ⟨l0, l1⟩ := nth_lt (h.pre f n hn)
 obtain ⟨gn, c', kv, p0, _, hkv, _, e0, e1, e2, e3, e4, e5⟩ := hP.node (h.pre f n hn)
 obtain ⟨KA, KC, rfl, _⟩ := sees_slice hkv.sees
 have hlk9 : n.kids.length ≤ 9223372036854775807 := hkv.sees.len
 have x1 : w.cell? ⟨bp, 0, none⟩ = some (.pointer (some ⟨p, 0, none⟩)) := blk_cell h.hbp 0
 have x2 : w.cell? ⟨cn, 0, none⟩ = some (.map (some bn)) := blk_cell h.hcn 0
 have m1 := World.block_lt_of_cell? _ _ x1
 have m2 := World.block_lt_of_cell? _ _ x2
 have m4 := World.block_lt_of_cell? _ _ p0
 have m5 := World.block_lt_of_cell? _ _ e0
 have HR := Lib.hid h
 have HKV := Lib.hid hkv
 have Hlo := Lib.hid h.lt
 have HT := Lib.hid hr
 obtain ⟨now, hnow⟩ : ∃ now, now = nowStep to x.1 n f := ⟨_, rfl⟩
 rw [← hnow] at HT
 have Hnow := Lib.hid hnow
 clear h hr hN hn hP hsub hkv hnow
 have hcase : Hid (((mget to n.v).isSome = false ∧ now = mput x.1 f f) ∨ (∃ g0, mget to n.v = some g0 ∧ n.op ≠ sVar ∧ now = mput x.1 f f) ∨ (∃ g0, mget to n.v = some g0 ∧ n.op = sVar ∧ now = mput (mput x.1 f f) f g0)) := Lib.hid (by
  rw [Hnow.out]
  unfold nowStep
  cases hg : mget to n.v with
  | none => exact .inl ⟨rfl, rfl⟩
  | some g0 =>
   by_cases ho : n.op = sVar
   ·exact .inr (.inr ⟨g0, rfl, ho, by simp only; rw [if_pos ho]⟩)
   ·exact .inr (.inl ⟨g0, rfl, ho, by simp only; rw [if_neg ho]⟩))
 by_cases hke : n.kids = []
 ·have HX := Lib.hid (show x' = (now, x.2) by have h := HT.out; rw [if_pos hke] at h; exact (Option.some.inj h).symm)
  have hlen : ((n.kids.length : Int) == 0) = true := by rw [hke]; rfl
  clear hke HT
  rcases hcase.out with ⟨hto, hnow⟩ | ⟨g0, hg0, ho, hnow⟩ | ⟨g0, hg0, ho, hnow⟩
  ·have Hto := Lib.hid hto
   subst hnow
   clear hto
   go_enter Tryz.func45, Tryz.ntmps45
   go_wp2_with (first | (at_mapUpdate; refine wpList_update rfl _ _ _ 92 rfl keyInt Tryz.underlying92 f f rfl rfl rfl (HR.out.frm0 (frm_alloc w (.cells #[.string n.op, .int .i64 n.t.1, .bool n.t.2, .int .u64 n.num, .int .i64 n.v, .slice KA n.kids.length KC] 76))).mn ?_; intro w1 hm1 hg1; have hM1 := PMid.put (PMid.mk (HR.out.frm0 (frm_alloc w (.cells #[.string n.op, .int .i64 n.t.1, .bool n.t.2, .int .u64 n.num, .int .i64 n.v, .slice KA n.kids.length KC] 76))) (PMoves.of0 (frm_alloc w (.cells #[.string n.op, .int .i64 n.t.1, .bool n.t.2, .int .u64 n.num, .int .i64 n.v, .slice KA n.kids.length KC] 76))) (blk_new (w := w) (.cells #[.string n.op, .int .i64 n.t.1, .bool n.t.2, .int .u64 n.num, .int .i64 n.v, .slice KA n.kids.length KC] 76)) (HKV.out.frm0 (frm_alloc w (.cells #[.string n.op, .int .i64 n.t.1, .bool n.t.2, .int .u64 n.num, .int .i64 n.v, .slice KA n.kids.length KC] 76)))) Hlo.out f f hm1 hg1; have HM1 := Lib.hid hM1; have x3 : w1.cell? ⟨ct, 0, none⟩ = some (.map (some bt)) := blk_cell hM1.rep.hct 0; have b4 : w1.cell? ⟨w.heap.size, 4, none⟩ = some (.int .i64 n.v) := blk_cell hM1.box 4; have b0 : w1.cell? ⟨w.heap.size, 0, none⟩ = some (.string n.op) := blk_cell hM1.box 0; have y2 : w1.cell? ⟨cn, 0, none⟩ = some (.map (some bn)) := blk_cell hM1.rep.hcn 0; have b5 : w1.cell? ⟨w.heap.size, 5, none⟩ = some (.slice KA n.kids.length KC) := blk_cell hM1.box 5; have hlk := look_is hM1.rep.mt n.v; rw [Hto.out] at hlk; clear hm1 hg1 hM1) | fail)
   have HM := HM1
   refine bodyPost_ret (v := .tuple #[]) (by simp [results, Tryz.results45, go_sem]) rfl ⟨rfl, own, by rw [HX.out]; exact HM.out.rep, HM.out.moves⟩
  ·have Hto := Lib.hid (show (mget to n.v).isSome = true by rw [hg0]; rfl)
   have d1 : (n.op.toList == [118, 97, 114]) = false := by rw [eqS]; exact decide_eq_false ho
   subst hnow
   clear hg0 ho
   go_enter Tryz.func45, Tryz.ntmps45
   go_wp2_with (first | (at_mapUpdate; refine wpList_update rfl _ _ _ 92 rfl keyInt Tryz.underlying92 f f rfl rfl rfl (HR.out.frm0 (frm_alloc w (.cells #[.string n.op, .int .i64 n.t.1, .bool n.t.2, .int .u64 n.num, .int .i64 n.v, .slice KA n.kids.length KC] 76))).mn ?_; intro w1 hm1 hg1; have hM1 := PMid.put (PMid.mk (HR.out.frm0 (frm_alloc w (.cells #[.string n.op, .int .i64 n.t.1, .bool n.t.2, .int .u64 n.num, .int .i64 n.v, .slice KA n.kids.length KC] 76))) (PMoves.of0 (frm_alloc w (.cells #[.string n.op, .int .i64 n.t.1, .bool n.t.2, .int .u64 n.num, .int .i64 n.v, .slice KA n.kids.length KC] 76))) (blk_new (w := w) (.cells #[.string n.op, .int .i64 n.t.1, .bool n.t.2, .int .u64 n.num, .int .i64 n.v, .slice KA n.kids.length KC] 76)) (HKV.out.frm0 (frm_alloc w (.cells #[.string n.op, .int .i64 n.t.1, .bool n.t.2, .int .u64 n.num, .int .i64 n.v, .slice KA n.kids.length KC] 76)))) Hlo.out f f hm1 hg1; have HM1 := Lib.hid hM1; have x3 : w1.cell? ⟨ct, 0, none⟩ = some (.map (some bt)) := blk_cell hM1.rep.hct 0; have b4 : w1.cell? ⟨w.heap.size, 4, none⟩ = some (.int .i64 n.v) := blk_cell hM1.box 4; have b0 : w1.cell? ⟨w.heap.size, 0, none⟩ = some (.string n.op) := blk_cell hM1.box 0; have y2 : w1.cell? ⟨cn, 0, none⟩ = some (.map (some bn)) := blk_cell hM1.rep.hcn 0; have b5 : w1.cell? ⟨w.heap.size, 5, none⟩ = some (.slice KA n.kids.length KC) := blk_cell hM1.box 5; have hlk := look_is hM1.rep.mt n.v; rw [Hto.out] at hlk; clear hm1 hg1 hM1) | fail)
   have HM := HM1
   refine bodyPost_ret (v := .tuple #[]) (by simp [results, Tryz.results45, go_sem]) rfl ⟨rfl, own, by rw [HX.out]; exact HM.out.rep, HM.out.moves⟩
  ·have Hto := Lib.hid (show (mget to n.v).isSome = true by rw [hg0]; rfl)
   have hgv : nowV to n.v = g0 := by unfold nowV; rw [hg0]; rfl
   have d1 : (n.op.toList == [118, 97, 114]) = true := by rw [eqS]; exact decide_eq_true ho
   subst hnow
   clear hg0 ho
   go_enter Tryz.func45, Tryz.ntmps45
   go_wp2_with (first | (at_mapUpdate; refine wpList_update rfl _ _ _ 92 rfl keyInt Tryz.underlying92 f g0 rfl rfl rfl HM1.out.rep.mn ?_; intro w2 hm2 hg2; have hM2 := HM1.out.put Hlo.out f g0 hm2 hg2; have HM2 := Lib.hid hM2; have b5 : w2.cell? ⟨w.heap.size, 5, none⟩ = some (.slice KA n.kids.length KC) := blk_cell hM2.box 5; clear hm2 hg2 hM2) | (at_mapUpdate; refine wpList_update rfl _ _ _ 92 rfl keyInt Tryz.underlying92 f f rfl rfl rfl (HR.out.frm0 (frm_alloc w (.cells #[.string n.op, .int .i64 n.t.1, .bool n.t.2, .int .u64 n.num, .int .i64 n.v, .slice KA n.kids.length KC] 76))).mn ?_; intro w1 hm1 hg1; have hM1 := PMid.put (PMid.mk (HR.out.frm0 (frm_alloc w (.cells #[.string n.op, .int .i64 n.t.1, .bool n.t.2, .int .u64 n.num, .int .i64 n.v, .slice KA n.kids.length KC] 76))) (PMoves.of0 (frm_alloc w (.cells #[.string n.op, .int .i64 n.t.1, .bool n.t.2, .int .u64 n.num, .int .i64 n.v, .slice KA n.kids.length KC] 76))) (blk_new (w := w) (.cells #[.string n.op, .int .i64 n.t.1, .bool n.t.2, .int .u64 n.num, .int .i64 n.v, .slice KA n.kids.length KC] 76)) (HKV.out.frm0 (frm_alloc w (.cells #[.string n.op, .int .i64 n.t.1, .bool n.t.2, .int .u64 n.num, .int .i64 n.v, .slice KA n.kids.length KC] 76)))) Hlo.out f f hm1 hg1; have HM1 := Lib.hid hM1; have x3 : w1.cell? ⟨ct, 0, none⟩ = some (.map (some bt)) := blk_cell hM1.rep.hct 0; have b4 : w1.cell? ⟨w.heap.size, 4, none⟩ = some (.int .i64 n.v) := blk_cell hM1.box 4; have b0 : w1.cell? ⟨w.heap.size, 0, none⟩ = some (.string n.op) := blk_cell hM1.box 0; have y2 : w1.cell? ⟨cn, 0, none⟩ = some (.map (some bn)) := blk_cell hM1.rep.hcn 0; have b5 : w1.cell? ⟨w.heap.size, 5, none⟩ = some (.slice KA n.kids.length KC) := blk_cell hM1.box 5; have hlk := look_is hM1.rep.mt n.v; rw [Hto.out] at hlk; clear hm1 hg1 hM1) | fail)
   have HM := HM2
   refine bodyPost_ret (v := .tuple #[]) (by simp [results, Tryz.results45, go_sem]) rfl ⟨rfl, own, by rw [HX.out]; exact HM.out.rep, HM.out.moves⟩
 ·have hT := HT.out
  rw [if_neg hke] at hT
  by_cases hroom : x.2.l.length + 2 < 4294967296 ∧ n.kids.length ≤ 1000
  case neg => rw [if_neg hroom] at hT; cases hT
  rw [if_pos hroom] at hT
  have HT2 := Lib.hid hT
  obtain ⟨hroom, hkl⟩ := hroom
  have HRm := Lib.hid hroom
  have hlen : ((n.kids.length : Int) == 0) = false := by
   cases hk : n.kids with
   | nil => exact absurd hk hke
   | cons y r => simp; omega
  have Hke := Lib.hid hke
  clear hke hT hroom HT
  rcases hcase.out with ⟨hto, hnow⟩ | ⟨g0, hg0, ho, hnow⟩ | ⟨g0, hg0, ho, hnow⟩
  ·have Hto := Lib.hid hto
   clear hto
   go_enter Tryz.func45, Tryz.ntmps45
   go_wp2_with (first | (at_mapUpdate; refine wpList_update rfl _ _ _ 92 rfl keyInt Tryz.underlying92 f f rfl rfl rfl (HR.out.frm0 (frm_alloc w (.cells #[.string n.op, .int .i64 n.t.1, .bool n.t.2, .int .u64 n.num, .int .i64 n.v, .slice KA n.kids.length KC] 76))).mn ?_; intro w1 hm1 hg1; have hM1 := PMid.put (PMid.mk (HR.out.frm0 (frm_alloc w (.cells #[.string n.op, .int .i64 n.t.1, .bool n.t.2, .int .u64 n.num, .int .i64 n.v, .slice KA n.kids.length KC] 76))) (PMoves.of0 (frm_alloc w (.cells #[.string n.op, .int .i64 n.t.1, .bool n.t.2, .int .u64 n.num, .int .i64 n.v, .slice KA n.kids.length KC] 76))) (blk_new (w := w) (.cells #[.string n.op, .int .i64 n.t.1, .bool n.t.2, .int .u64 n.num, .int .i64 n.v, .slice KA n.kids.length KC] 76)) (HKV.out.frm0 (frm_alloc w (.cells #[.string n.op, .int .i64 n.t.1, .bool n.t.2, .int .u64 n.num, .int .i64 n.v, .slice KA n.kids.length KC] 76)))) Hlo.out f f hm1 hg1; have HM1 := Lib.hid hM1; have x3 : w1.cell? ⟨ct, 0, none⟩ = some (.map (some bt)) := blk_cell hM1.rep.hct 0; have b4 : w1.cell? ⟨w.heap.size, 4, none⟩ = some (.int .i64 n.v) := blk_cell hM1.box 4; have b0 : w1.cell? ⟨w.heap.size, 0, none⟩ = some (.string n.op) := blk_cell hM1.box 0; have y2 : w1.cell? ⟨cn, 0, none⟩ = some (.map (some bn)) := blk_cell hM1.rep.hcn 0; have b5 : w1.cell? ⟨w.heap.size, 5, none⟩ = some (.slice KA n.kids.length KC) := blk_cell hM1.box 5; have hlk := look_is hM1.rep.mt n.v; rw [Hto.out] at hlk; clear hm1 hg1 hM1) | fail)
   have HM := HM1
   rw [← hnow] at HM
   clear hnow
   obtain ⟨wh, hwh⟩ : ∃ wh, wh = w1 := ⟨_, rfl⟩
   subst hwh
   go_loopw [8, 44] (fun v8 v44 w' => ∃ k : Nat, k ≤ n.kids.length ∧ v44 = .int .i64 k ∧ Hid (Row w' 3 iI v8 ((n.kids.take k).map (nowV now))) ∧ Hid (Frm (fun _ => False) wh w') ∧ Hid (∀ g, v8.ownBlock = some g → wh.heap.size ≤ g)) (fun _ v44 _ => n.kids.length - (intOf v44).toNat)
   case atStart => exact ⟨0, Nat.zero_le _, rfl, Lib.hid (Row.nil _ _ _), Lib.hid (Frm.refl _ _), Lib.hid fun g hg => by cases hg⟩
   case round =>
    obtain ⟨k, hk, rfl, HRow, HFr, HO⟩ := hrel
    have HMr := Lib.hid (HM.out.frm0 HFr.out)
    have c2 : wr.cell? ⟨cn, 0, none⟩ = some (.map (some bn)) := blk_cell HMr.out.rep.hcn 0
    by_cases hlt : k < n.kids.length
    ·have hltI : (k : Int) < (n.kids.length : Int) := by omega
     obtain ⟨y, hy⟩ : ∃ y, n.kids[k]? = some y := ⟨_, List.getElem?_eq_getElem hlt⟩
     obtain ⟨A', cc, eK, hcell⟩ := sees_slice HMr.out.kids.sees
     cases eK
     obtain ⟨gk, ok, rfl, hc⟩ := hcell k y hy
     have hlk := look_int (m := now) HMr.out.rep.mn y
     have hz := World.block_lt_of_cell? _ _ c2
     have htk := Lib.hid (show (n.kids.take (k + 1)).map (nowV now) = (n.kids.take k).map (nowV now) ++ [nowV now y] by rw [List.take_add_one, hy, List.map_append]; rfl)
     have hl7 := Lib.hid (show ((n.kids.take k).map (nowV now)).length ≤ 1000 by rw [List.length_map, List.length_take]; omega)
     obtain ⟨ys, hys⟩ : ∃ ys, ys = (n.kids.take k).map (nowV now) := ⟨_, rfl⟩
     rw [← hys] at HRow htk hl7
     obtain ⟨RA, RC, rfl, _⟩ := sees_slice HRow.out.sees
     have Hkk := Lib.hid (show k + 1 ≤ n.kids.length from hlt)
     clear hcell hy hys hlt
     generalize nowV now y = z at *
     go_wp2_with (at_builtin; refine wpList_append_row rfl _ _ 50 rfl 3 i0 (.int .i64 0) 8 Tryz.underlying50 hi hz0 hz1 hz2 rfl (enc := iI) (.slice RA ys.length RC) ys rfl (HRow.out.frm0 (frm_alloc _ _)) ⟨wr.heap.size, 0, none⟩ 1 z rfl (blk_cell (blk_new _) 0) rfl ?cx2 ?cx3 ?_)
     case cx2 => have := hl7.out; have : maxLen = 9223372036854775807 := rfl; omega
     case cx3 => have := hl7.out; omega
     intro g' cap' w7 hrow hfr hg hlt7
     have HS7 := Lib.hid (show Row w7 3 iI (.slice (some ⟨g', 0, none⟩) (ys.length + 1) cap') ((n.kids.take (k + 1)).map (nowV now)) by rw [htk.out]; exact hrow)
     have hS : ∀ b, (Value.slice RA ys.length RC).ownBlock = some b → wh.heap.size ≤ b := HO.out
     have HF7 := Lib.hid ((frm_then HFr.out (frm_alloc wr _)).trans hfr fun x hx h => by have := hS x h; omega)
     have HO7 := Lib.hid (show wh.heap.size ≤ g' from hg.elim (hS g') fun h => by rw [h]; have := HFr.out.size; simp; omega)
     clear hrow hfr hg hS
     go_wp2
     go_roundw
     case rel => exact ⟨k + 1, Hkk.out, by first | rfl | go_num, HS7, HF7, Lib.hid fun g'' hg'' => by cases hg''; exact HO7.out⟩
     case measure => have := Hkk.out; simp [intOf]; omega
    ·obtain rfl : k = n.kids.length := by omega
     have hltI : ¬ (n.kids.length : Int) < (n.kids.length : Int) := by omega
     rw [List.take_length] at HRow
     obtain ⟨ownP, hP, hsub, hnb⟩ := HMr.out.rep.pool
     obtain ⟨D, hG⟩ := HMr.out.rep.good
     have c1 : wr.cell? ⟨bp, 0, none⟩ = some (.pointer (some ⟨p, 0, none⟩)) := blk_cell HMr.out.rep.hbp 0
     have a0 : wr.cell? ⟨w.heap.size, 0, none⟩ = some (.string n.op) := blk_cell HMr.out.box 0
     have a1 : wr.cell? ⟨w.heap.size, 1, none⟩ = some (.int .i64 n.t.1) := blk_cell HMr.out.box 1
     have a2 : wr.cell? ⟨w.heap.size, 2, none⟩ = some (.bool n.t.2) := blk_cell HMr.out.box 2
     have HPq := Lib.hid (show (∀ b, ownP b → own b) ∧ (¬ ownP bp ∧ ¬ ownP cn ∧ ¬ ownP ct ∧ ¬ ownP bn ∧ ¬ ownP bt) from ⟨hsub, hnb⟩)
     clear hlt hk
     by_cases hc : n.op = sCast
     ·have d4 : (n.op.toList == [99, 97, 115, 116]) = true := by rw [eqS]; exact decide_eq_true hc
      obtain ⟨y, r, hyr⟩ : ∃ y r, n.kids = y :: r := by
       cases hk : n.kids with
       | nil => exact absurd hk Hke.out
       | cons y r => exact ⟨y, r, rfl⟩
      have HX := Lib.hid (show x' = (mput now f (CastF x.2 n.t (nowV now y)).1.1, (CastF x.2 n.t (nowV now y)).2) by have h := HT2.out; rw [if_pos hc, hyr] at h; exact (Option.some.inj h).symm)
      obtain ⟨D2, hg1, hg2⟩ := cast_grow hG n.t (nowV now y)
      have HD := Lib.hid (PCast_calls (HMr.out.rep.env.frm0 (Frm.refl _ _).drew) (hP.frm0 (Frm.refl _ _).drew) n.t (nowV now y) (hG.calm.num _) (by have h : x.2.l.length + 2 < 4294967296 := HRm.out; show x.2.l.length < _; omega))
      have HG2 := Lib.hid (show (∃ D, Good e (CastF x.2 n.t (nowV now y)).2 D) ∧ (∀ f n', nth N f = some n' → nth (CastF x.2 n.t (nowV now y)).2.l f = some n') from ⟨⟨D2, hg1⟩, fun f n' hn' => hg2.nth _ _ (HMr.out.rep.pre f n' hn')⟩)
      obtain ⟨RA, RC, rfl, hcell⟩ := sees_slice HRow.out.sees
      have hy0 : (n.kids.map (nowV now))[0]? = some (nowV now y) := by rw [hyr]; rfl
      obtain ⟨g7, o7, rfl, y0⟩ := hcell 0 _ hy0
      rw [Nat.add_zero] at y0
      have y0 : wr.cell? ⟨g7, o7, none⟩ = some (.int .i64 (nowV now y)) := y0
      have hl0 : (0 : Int) < ((n.kids.map (nowV now)).length : Int) := by have h0 : 0 < n.kids.length := (by rw [hyr]; simp); rw [List.length_map]; omega
      have hl9 : (n.kids.map (nowV now)).length ≤ 9223372036854775807 := by rw [List.length_map]; omega
      generalize CastF x.2 n.t (nowV now y) = q at *
      generalize nowV now y = z at *
      clear hcell hy0 hyr hc hP hsub hnb hG hg1 hg2
      generalize (n.kids.map (nowV now)).length = len at *
      go_wp2_with fail
      refine Plan.wp_region_plan [0, 0, 0, 0, 8, 0, 32, 96, 252, 508, 1020, 1020, 2047] [.mk [0, 1, 2, 3, 4, 5, 6, 7] 8 [0, 1], .mk [9, 10, 11] 12 [11]] [] (by kernel_rfl) (by kernel_rfl) ?_
      simp only [Plan.wayOf, Plan.pickAll, List.getElem?_cons_zero, List.getElem?_cons_succ, List.getD_eq_getElem?_getD, Option.getD_some]
      refine Plan.wpWay_seg ?_
      repeat go_big_quiet_step (fail)
      refine wpQuiet_nil ?_; refine Plan.wpWay_act ?_
      go_wp2_with fail
      refine HD.out.mono ?_
      rintro ed w2 ⟨rfl, ownQ, hP2, hM2⟩
      have hC := HMr.out.rep.call HPq.out.1 HPq.out.2 hP2 (moves_pre (Frm.refl _ _).drew hM2) HG2.out.1 HG2.out.2
      have HC := Lib.hid hC
      have c2 : w2.cell? ⟨cn, 0, none⟩ = some (.map (some bn)) := blk_cell hC.1.hcn 0
      clear hP2 hM2 hC
      go_wp2_with fail
      refine And.intro ?_ ?_; focus ((iterate 2 (refine Plan.again_cons ?_ ?_; focus (go_big_quiet_step (fail); exact wpQuiet_nil rfl))); exact Plan.again_nil)
      refine Plan.wpWay_seg ?_
      repeat go_big_quiet_step (fail)
      refine wpQuiet_nil ?_; refine Plan.wpWay_act ?_
      refine wpList_update rfl _ _ _ 92 rfl keyInt Tryz.underlying92 f q.1.1 rfl rfl rfl HC.out.1.mn ?_
      intro w5 hm5 hg5
      have HE := Lib.hid (HC.out.1.put f q.1.1 hm5 hg5)
      clear hm5 hg5
      go_simp
      go_wp2_with fail
      refine And.intro ?_ ?_; focus ((iterate 1 (refine Plan.again_cons ?_ ?_; focus (go_big_quiet_step (fail); exact wpQuiet_nil rfl))); exact Plan.again_nil)
      refine Plan.wpWay_last ?_
      refine wpQuiet_nil ?_; refine NoPanic.normal ?_
      go_wp2
      first
       | (go_end0; exact ⟨rfl, _, by rw [HX.out]; exact HE.out.1, (HMr.out.moves.trans HC.out.2).trans HE.out.2⟩)
       | refine bodyPost_end (v := .tuple #[]) (by simp [results, Tryz.results45, go_sem]) rfl ⟨rfl, _, by rw [HX.out]; exact HE.out.1, (HMr.out.moves.trans HC.out.2).trans HE.out.2⟩
     ·have d4 : (n.op.toList == [99, 97, 115, 116]) = false := by rw [eqS]; exact decide_eq_false hc
      have HX := Lib.hid (show x' = (mput now f (DoF x.2 n.op (n.kids.map (nowV now))).1.1, (DoF x.2 n.op (n.kids.map (nowV now))).2) by have h := HT2.out; rw [if_neg hc] at h; exact (Option.some.inj h).symm)
      obtain ⟨D2, hg1, hg2⟩ := do_grow hG n.op (n.kids.map (nowV now))
      have HD := Lib.hid (PDo_calls (HMr.out.rep.env.frm0 (Frm.refl _ _).drew) (hP.frm0 (Frm.refl _ _).drew) hG.calm n.op Hop.out u8 _ (HRow.out.sees.frm (Frm.refl (fun _ => False) _).drew fun _ _ _ => id) (fun g hg ho => by
       have h1 := HO.out g (by obtain ⟨o, k2, c2, e2⟩ := hg; rcases HRow.out.shape with ⟨e3, _⟩ | ⟨g2, cap2, e3, e4, _⟩ <;> rw [e2] at e3 <;> simp at e3; obtain ⟨⟨rfl, rfl⟩, _⟩ := e3; exact e4)
       have h2 := Hlo.out g (HPq.out.1 g ho)
       have h3 := HM.out.moves.1.size
       omega) (by have := HRm.out; omega))
      have HG2 := Lib.hid (show (∃ D, Good e (DoF x.2 n.op (n.kids.map (nowV now))).2 D) ∧ (∀ f n', nth N f = some n' → nth (DoF x.2 n.op (n.kids.map (nowV now))).2.l f = some n') from ⟨⟨D2, hg1⟩, fun f n' hn' => hg2.nth _ _ (HMr.out.rep.pre f n' hn')⟩)
      generalize DoF x.2 n.op (n.kids.map (nowV now)) = q at *
      clear hc hP hsub hnb hG hg1 hg2
      go_wp2_with fail
      refine Plan.wp_region_plan [0, 0, 0, 0, 8, 0, 60, 124, 252, 252, 511] [.mk [0, 1, 2, 3, 4, 5] 6 [0, 1], .mk [7, 8, 9] 10 [9]] [] (by kernel_rfl) (by kernel_rfl) ?_
      simp only [Plan.wayOf, Plan.pickAll, List.getElem?_cons_zero, List.getElem?_cons_succ, List.getD_eq_getElem?_getD, Option.getD_some]
      refine Plan.wpWay_seg ?_
      repeat go_big_quiet_step (fail)
      refine wpQuiet_nil ?_; refine Plan.wpWay_act ?_
      go_wp2_with fail
      refine HD.out.mono ?_
      rintro ed w2 ⟨rfl, ownQ, hP2, hM2⟩
      have hC := HMr.out.rep.call HPq.out.1 HPq.out.2 hP2 (moves_pre (Frm.refl _ _).drew hM2) HG2.out.1 HG2.out.2
      have HC := Lib.hid hC
      have c2 : w2.cell? ⟨cn, 0, none⟩ = some (.map (some bn)) := blk_cell hC.1.hcn 0
      clear hP2 hM2 hC
      go_wp2_with fail
      refine And.intro ?_ ?_; focus ((iterate 2 (refine Plan.again_cons ?_ ?_; focus (go_big_quiet_step (fail); exact wpQuiet_nil rfl))); exact Plan.again_nil)
      refine Plan.wpWay_seg ?_
      repeat go_big_quiet_step (fail)
      refine wpQuiet_nil ?_; refine Plan.wpWay_act ?_
      refine wpList_update rfl _ _ _ 92 rfl keyInt Tryz.underlying92 f q.1.1 rfl rfl rfl HC.out.1.mn ?_
      intro w5 hm5 hg5
      have HE := Lib.hid (HC.out.1.put f q.1.1 hm5 hg5)
      clear hm5 hg5
      go_simp
      go_wp2_with fail
      refine And.intro ?_ ?_; focus ((iterate 1 (refine Plan.again_cons ?_ ?_; focus (go_big_quiet_step (fail); exact wpQuiet_nil rfl))); exact Plan.again_nil)
      refine Plan.wpWay_last ?_
      refine wpQuiet_nil ?_; refine NoPanic.normal ?_
      go_wp2
      first
       | (go_end0; exact ⟨rfl, _, by rw [HX.out]; exact HE.out.1, (HMr.out.moves.trans HC.out.2).trans HE.out.2⟩)
       | refine bodyPost_end (v := .tuple #[]) (by simp [results, Tryz.results45, go_sem]) rfl ⟨rfl, _, by rw [HX.out]; exact HE.out.1, (HMr.out.moves.trans HC.out.2).trans HE.out.2⟩
  ·have Hto := Lib.hid (show (mget to n.v).isSome = true by rw [hg0]; rfl)
   have d1 : (n.op.toList == [118, 97, 114]) = false := by rw [eqS]; exact decide_eq_false ho
   have Hnw := Lib.hid hnow
   clear hg0 ho hnow
   go_enter Tryz.func45, Tryz.ntmps45
   go_wp2_with (first | (at_mapUpdate; refine wpList_update rfl _ _ _ 92 rfl keyInt Tryz.underlying92 f f rfl rfl rfl (HR.out.frm0 (frm_alloc w (.cells #[.string n.op, .int .i64 n.t.1, .bool n.t.2, .int .u64 n.num, .int .i64 n.v, .slice KA n.kids.length KC] 76))).mn ?_; intro w1 hm1 hg1; have hM1 := PMid.put (PMid.mk (HR.out.frm0 (frm_alloc w (.cells #[.string n.op, .int .i64 n.t.1, .bool n.t.2, .int .u64 n.num, .int .i64 n.v, .slice KA n.kids.length KC] 76))) (PMoves.of0 (frm_alloc w (.cells #[.string n.op, .int .i64 n.t.1, .bool n.t.2, .int .u64 n.num, .int .i64 n.v, .slice KA n.kids.length KC] 76))) (blk_new (w := w) (.cells #[.string n.op, .int .i64 n.t.1, .bool n.t.2, .int .u64 n.num, .int .i64 n.v, .slice KA n.kids.length KC] 76)) (HKV.out.frm0 (frm_alloc w (.cells #[.string n.op, .int .i64 n.t.1, .bool n.t.2, .int .u64 n.num, .int .i64 n.v, .slice KA n.kids.length KC] 76)))) Hlo.out f f hm1 hg1; have HM1 := Lib.hid hM1; have x3 : w1.cell? ⟨ct, 0, none⟩ = some (.map (some bt)) := blk_cell hM1.rep.hct 0; have b4 : w1.cell? ⟨w.heap.size, 4, none⟩ = some (.int .i64 n.v) := blk_cell hM1.box 4; have b0 : w1.cell? ⟨w.heap.size, 0, none⟩ = some (.string n.op) := blk_cell hM1.box 0; have y2 : w1.cell? ⟨cn, 0, none⟩ = some (.map (some bn)) := blk_cell hM1.rep.hcn 0; have b5 : w1.cell? ⟨w.heap.size, 5, none⟩ = some (.slice KA n.kids.length KC) := blk_cell hM1.box 5; have hlk := look_is hM1.rep.mt n.v; rw [Hto.out] at hlk; clear hm1 hg1 hM1) | fail)
   have HM := HM1
   rw [← Hnw.out] at HM
   obtain ⟨wh, hwh⟩ : ∃ wh, wh = w1 := ⟨_, rfl⟩
   subst hwh
   go_loopw [8, 44] (fun v8 v44 w' => ∃ k : Nat, k ≤ n.kids.length ∧ v44 = .int .i64 k ∧ Hid (Row w' 3 iI v8 ((n.kids.take k).map (nowV now))) ∧ Hid (Frm (fun _ => False) wh w') ∧ Hid (∀ g, v8.ownBlock = some g → wh.heap.size ≤ g)) (fun _ v44 _ => n.kids.length - (intOf v44).toNat)
   case atStart => exact ⟨0, Nat.zero_le _, rfl, Lib.hid (Row.nil _ _ _), Lib.hid (Frm.refl _ _), Lib.hid fun g hg => by cases hg⟩
   case round =>
    obtain ⟨k, hk, rfl, HRow, HFr, HO⟩ := hrel
    have HMr := Lib.hid (HM.out.frm0 HFr.out)
    have c2 : wr.cell? ⟨cn, 0, none⟩ = some (.map (some bn)) := blk_cell HMr.out.rep.hcn 0
    by_cases hlt : k < n.kids.length
    ·have hltI : (k : Int) < (n.kids.length : Int) := by omega
     obtain ⟨y, hy⟩ : ∃ y, n.kids[k]? = some y := ⟨_, List.getElem?_eq_getElem hlt⟩
     obtain ⟨A', cc, eK, hcell⟩ := sees_slice HMr.out.kids.sees
     cases eK
     obtain ⟨gk, ok, rfl, hc⟩ := hcell k y hy
     have hlk := look_int (m := now) HMr.out.rep.mn y
     have hz := World.block_lt_of_cell? _ _ c2
     have htk := Lib.hid (show (n.kids.take (k + 1)).map (nowV now) = (n.kids.take k).map (nowV now) ++ [nowV now y] by rw [List.take_add_one, hy, List.map_append]; rfl)
     have hl7 := Lib.hid (show ((n.kids.take k).map (nowV now)).length ≤ 1000 by rw [List.length_map, List.length_take]; omega)
     obtain ⟨ys, hys⟩ : ∃ ys, ys = (n.kids.take k).map (nowV now) := ⟨_, rfl⟩
     rw [← hys] at HRow htk hl7
     obtain ⟨RA, RC, rfl, _⟩ := sees_slice HRow.out.sees
     have Hkk := Lib.hid (show k + 1 ≤ n.kids.length from hlt)
     clear hcell hy hys hlt
     generalize nowV now y = z at *
     go_wp2_with (at_builtin; refine wpList_append_row rfl _ _ 50 rfl 3 i0 (.int .i64 0) 8 Tryz.underlying50 hi hz0 hz1 hz2 rfl (enc := iI) (.slice RA ys.length RC) ys rfl (HRow.out.frm0 (frm_alloc _ _)) ⟨wr.heap.size, 0, none⟩ 1 z rfl (blk_cell (blk_new _) 0) rfl ?cx2 ?cx3 ?_)
     case cx2 => have := hl7.out; have : maxLen = 9223372036854775807 := rfl; omega
     case cx3 => have := hl7.out; omega
     intro g' cap' w7 hrow hfr hg hlt7
     have HS7 := Lib.hid (show Row w7 3 iI (.slice (some ⟨g', 0, none⟩) (ys.length + 1) cap') ((n.kids.take (k + 1)).map (nowV now)) by rw [htk.out]; exact hrow)
     have hS : ∀ b, (Value.slice RA ys.length RC).ownBlock = some b → wh.heap.size ≤ b := HO.out
     have HF7 := Lib.hid ((frm_then HFr.out (frm_alloc wr _)).trans hfr fun x hx h => by have := hS x h; omega)
     have HO7 := Lib.hid (show wh.heap.size ≤ g' from hg.elim (hS g') fun h => by rw [h]; have := HFr.out.size; simp; omega)
     clear hrow hfr hg hS
     go_wp2
     go_roundw
     case rel => exact ⟨k + 1, Hkk.out, by first | rfl | go_num, HS7, HF7, Lib.hid fun g'' hg'' => by cases hg''; exact HO7.out⟩
     case measure => have := Hkk.out; simp [intOf]; omega
    ·obtain rfl : k = n.kids.length := by omega
     have hltI : ¬ (n.kids.length : Int) < (n.kids.length : Int) := by omega
     rw [List.take_length] at HRow
     obtain ⟨ownP, hP, hsub, hnb⟩ := HMr.out.rep.pool
     obtain ⟨D, hG⟩ := HMr.out.rep.good
     have c1 : wr.cell? ⟨bp, 0, none⟩ = some (.pointer (some ⟨p, 0, none⟩)) := blk_cell HMr.out.rep.hbp 0
     have a0 : wr.cell? ⟨w.heap.size, 0, none⟩ = some (.string n.op) := blk_cell HMr.out.box 0
     have a1 : wr.cell? ⟨w.heap.size, 1, none⟩ = some (.int .i64 n.t.1) := blk_cell HMr.out.box 1
     have a2 : wr.cell? ⟨w.heap.size, 2, none⟩ = some (.bool n.t.2) := blk_cell HMr.out.box 2
     have HPq := Lib.hid (show (∀ b, ownP b → own b) ∧ (¬ ownP bp ∧ ¬ ownP cn ∧ ¬ ownP ct ∧ ¬ ownP bn ∧ ¬ ownP bt) from ⟨hsub, hnb⟩)
     clear hlt hk
     by_cases hc : n.op = sCast
     ·have d4 : (n.op.toList == [99, 97, 115, 116]) = true := by rw [eqS]; exact decide_eq_true hc
      obtain ⟨y, r, hyr⟩ : ∃ y r, n.kids = y :: r := by
       cases hk : n.kids with
       | nil => exact absurd hk Hke.out
       | cons y r => exact ⟨y, r, rfl⟩
      have HX := Lib.hid (show x' = (mput now f (CastF x.2 n.t (nowV now y)).1.1, (CastF x.2 n.t (nowV now y)).2) by have h := HT2.out; rw [if_pos hc, hyr] at h; exact (Option.some.inj h).symm)
      obtain ⟨D2, hg1, hg2⟩ := cast_grow hG n.t (nowV now y)
      have HD := Lib.hid (PCast_calls (HMr.out.rep.env.frm0 (Frm.refl _ _).drew) (hP.frm0 (Frm.refl _ _).drew) n.t (nowV now y) (hG.calm.num _) (by have h : x.2.l.length + 2 < 4294967296 := HRm.out; show x.2.l.length < _; omega))
      have HG2 := Lib.hid (show (∃ D, Good e (CastF x.2 n.t (nowV now y)).2 D) ∧ (∀ f n', nth N f = some n' → nth (CastF x.2 n.t (nowV now y)).2.l f = some n') from ⟨⟨D2, hg1⟩, fun f n' hn' => hg2.nth _ _ (HMr.out.rep.pre f n' hn')⟩)
      obtain ⟨RA, RC, rfl, hcell⟩ := sees_slice HRow.out.sees
      have hy0 : (n.kids.map (nowV now))[0]? = some (nowV now y) := by rw [hyr]; rfl
      obtain ⟨g7, o7, rfl, y0⟩ := hcell 0 _ hy0
      rw [Nat.add_zero] at y0
      have y0 : wr.cell? ⟨g7, o7, none⟩ = some (.int .i64 (nowV now y)) := y0
      have hl0 : (0 : Int) < ((n.kids.map (nowV now)).length : Int) := by have h0 : 0 < n.kids.length := (by rw [hyr]; simp); rw [List.length_map]; omega
      have hl9 : (n.kids.map (nowV now)).length ≤ 9223372036854775807 := by rw [List.length_map]; omega
      generalize CastF x.2 n.t (nowV now y) = q at *
      generalize nowV now y = z at *
      clear hcell hy0 hyr hc hP hsub hnb hG hg1 hg2
      generalize (n.kids.map (nowV now)).length = len at *
      go_wp2_with fail
      refine Plan.wp_region_plan [0, 0, 0, 0, 8, 0, 32, 96, 252, 508, 1020, 1020, 2047] [.mk [0, 1, 2, 3, 4, 5, 6, 7] 8 [0, 1], .mk [9, 10, 11] 12 [11]] [] (by kernel_rfl) (by kernel_rfl) ?_
      simp only [Plan.wayOf, Plan.pickAll, List.getElem?_cons_zero, List.getElem?_cons_succ, List.getD_eq_getElem?_getD, Option.getD_some]
      refine Plan.wpWay_seg ?_
      repeat go_big_quiet_step (fail)
      refine wpQuiet_nil ?_; refine Plan.wpWay_act ?_
      go_wp2_with fail
      refine HD.out.mono ?_
      rintro ed w2 ⟨rfl, ownQ, hP2, hM2⟩
      have hC := HMr.out.rep.call HPq.out.1 HPq.out.2 hP2 (moves_pre (Frm.refl _ _).drew hM2) HG2.out.1 HG2.out.2
      have HC := Lib.hid hC
      have c2 : w2.cell? ⟨cn, 0, none⟩ = some (.map (some bn)) := blk_cell hC.1.hcn 0
      clear hP2 hM2 hC
      go_wp2_with fail
      refine And.intro ?_ ?_; focus ((iterate 2 (refine Plan.again_cons ?_ ?_; focus (go_big_quiet_step (fail); exact wpQuiet_nil rfl))); exact Plan.again_nil)
      refine Plan.wpWay_seg ?_
      repeat go_big_quiet_step (fail)
      refine wpQuiet_nil ?_; refine Plan.wpWay_act ?_
      refine wpList_update rfl _ _ _ 92 rfl keyInt Tryz.underlying92 f q.1.1 rfl rfl rfl HC.out.1.mn ?_
      intro w5 hm5 hg5
      have HE := Lib.hid (HC.out.1.put f q.1.1 hm5 hg5)
      clear hm5 hg5
      go_simp
      go_wp2_with fail
      refine And.intro ?_ ?_; focus ((iterate 1 (refine Plan.again_cons ?_ ?_; focus (go_big_quiet_step (fail); exact wpQuiet_nil rfl))); exact Plan.again_nil)
      refine Plan.wpWay_last ?_
      refine wpQuiet_nil ?_; refine NoPanic.normal ?_
      go_wp2
      first
       | (go_end0; exact ⟨rfl, _, by rw [HX.out]; exact HE.out.1, (HMr.out.moves.trans HC.out.2).trans HE.out.2⟩)
       | refine bodyPost_end (v := .tuple #[]) (by simp [results, Tryz.results45, go_sem]) rfl ⟨rfl, _, by rw [HX.out]; exact HE.out.1, (HMr.out.moves.trans HC.out.2).trans HE.out.2⟩
     ·have d4 : (n.op.toList == [99, 97, 115, 116]) = false := by rw [eqS]; exact decide_eq_false hc
      have HX := Lib.hid (show x' = (mput now f (DoF x.2 n.op (n.kids.map (nowV now))).1.1, (DoF x.2 n.op (n.kids.map (nowV now))).2) by have h := HT2.out; rw [if_neg hc] at h; exact (Option.some.inj h).symm)
      obtain ⟨D2, hg1, hg2⟩ := do_grow hG n.op (n.kids.map (nowV now))
      have HD := Lib.hid (PDo_calls (HMr.out.rep.env.frm0 (Frm.refl _ _).drew) (hP.frm0 (Frm.refl _ _).drew) hG.calm n.op Hop.out u8 _ (HRow.out.sees.frm (Frm.refl (fun _ => False) _).drew fun _ _ _ => id) (fun g hg ho => by
       have h1 := HO.out g (by obtain ⟨o, k2, c2, e2⟩ := hg; rcases HRow.out.shape with ⟨e3, _⟩ | ⟨g2, cap2, e3, e4, _⟩ <;> rw [e2] at e3 <;> simp at e3; obtain ⟨⟨rfl, rfl⟩, _⟩ := e3; exact e4)
       have h2 := Hlo.out g (HPq.out.1 g ho)
       have h3 := HM.out.moves.1.size
       omega) (by have := HRm.out; omega))
      have HG2 := Lib.hid (show (∃ D, Good e (DoF x.2 n.op (n.kids.map (nowV now))).2 D) ∧ (∀ f n', nth N f = some n' → nth (DoF x.2 n.op (n.kids.map (nowV now))).2.l f = some n') from ⟨⟨D2, hg1⟩, fun f n' hn' => hg2.nth _ _ (HMr.out.rep.pre f n' hn')⟩)
      generalize DoF x.2 n.op (n.kids.map (nowV now)) = q at *
      clear hc hP hsub hnb hG hg1 hg2
      go_wp2_with fail
      refine Plan.wp_region_plan [0, 0, 0, 0, 8, 0, 60, 124, 252, 252, 511] [.mk [0, 1, 2, 3, 4, 5] 6 [0, 1], .mk [7, 8, 9] 10 [9]] [] (by kernel_rfl) (by kernel_rfl) ?_
      simp only [Plan.wayOf, Plan.pickAll, List.getElem?_cons_zero, List.getElem?_cons_succ, List.getD_eq_getElem?_getD, Option.getD_some]
      refine Plan.wpWay_seg ?_
      repeat go_big_quiet_step (fail)
      refine wpQuiet_nil ?_; refine Plan.wpWay_act ?_
      go_wp2_with fail
      refine HD.out.mono ?_
      rintro ed w2 ⟨rfl, ownQ, hP2, hM2⟩
      have hC := HMr.out.rep.call HPq.out.1 HPq.out.2 hP2 (moves_pre (Frm.refl _ _).drew hM2) HG2.out.1 HG2.out.2
      have HC := Lib.hid hC
      have c2 : w2.cell? ⟨cn, 0, none⟩ = some (.map (some bn)) := blk_cell hC.1.hcn 0
      clear hP2 hM2 hC
      go_wp2_with fail
      refine And.intro ?_ ?_; focus ((iterate 2 (refine Plan.again_cons ?_ ?_; focus (go_big_quiet_step (fail); exact wpQuiet_nil rfl))); exact Plan.again_nil)
      refine Plan.wpWay_seg ?_
      repeat go_big_quiet_step (fail)
      refine wpQuiet_nil ?_; refine Plan.wpWay_act ?_
      refine wpList_update rfl _ _ _ 92 rfl keyInt Tryz.underlying92 f q.1.1 rfl rfl rfl HC.out.1.mn ?_
      intro w5 hm5 hg5
      have HE := Lib.hid (HC.out.1.put f q.1.1 hm5 hg5)
      clear hm5 hg5
      go_simp
      go_wp2_with fail
      refine And.intro ?_ ?_; focus ((iterate 1 (refine Plan.again_cons ?_ ?_; focus (go_big_quiet_step (fail); exact wpQuiet_nil rfl))); exact Plan.again_nil)
      refine Plan.wpWay_last ?_
      refine wpQuiet_nil ?_; refine NoPanic.normal ?_
      go_wp2
      first
       | (go_end0; exact ⟨rfl, _, by rw [HX.out]; exact HE.out.1, (HMr.out.moves.trans HC.out.2).trans HE.out.2⟩)
       | refine bodyPost_end (v := .tuple #[]) (by simp [results, Tryz.results45, go_sem]) rfl ⟨rfl, _, by rw [HX.out]; exact HE.out.1, (HMr.out.moves.trans HC.out.2).trans HE.out.2⟩
  ·have Hto := Lib.hid (show (mget to n.v).isSome = true by rw [hg0]; rfl)
   have hgv : nowV to n.v = g0 := by unfold nowV; rw [hg0]; rfl
   have d1 : (n.op.toList == [118, 97, 114]) = true := by rw [eqS]; exact decide_eq_true ho
   have Hnw := Lib.hid hnow
   clear hg0 ho hnow
   go_enter Tryz.func45, Tryz.ntmps45
   go_wp2_with (first | (at_mapUpdate; refine wpList_update rfl _ _ _ 92 rfl keyInt Tryz.underlying92 f g0 rfl rfl rfl HM1.out.rep.mn ?_; intro w2 hm2 hg2; have hM2 := HM1.out.put Hlo.out f g0 hm2 hg2; have HM2 := Lib.hid hM2; have b5 : w2.cell? ⟨w.heap.size, 5, none⟩ = some (.slice KA n.kids.length KC) := blk_cell hM2.box 5; clear hm2 hg2 hM2) | (at_mapUpdate; refine wpList_update rfl _ _ _ 92 rfl keyInt Tryz.underlying92 f f rfl rfl rfl (HR.out.frm0 (frm_alloc w (.cells #[.string n.op, .int .i64 n.t.1, .bool n.t.2, .int .u64 n.num, .int .i64 n.v, .slice KA n.kids.length KC] 76))).mn ?_; intro w1 hm1 hg1; have hM1 := PMid.put (PMid.mk (HR.out.frm0 (frm_alloc w (.cells #[.string n.op, .int .i64 n.t.1, .bool n.t.2, .int .u64 n.num, .int .i64 n.v, .slice KA n.kids.length KC] 76))) (PMoves.of0 (frm_alloc w (.cells #[.string n.op, .int .i64 n.t.1, .bool n.t.2, .int .u64 n.num, .int .i64 n.v, .slice KA n.kids.length KC] 76))) (blk_new (w := w) (.cells #[.string n.op, .int .i64 n.t.1, .bool n.t.2, .int .u64 n.num, .int .i64 n.v, .slice KA n.kids.length KC] 76)) (HKV.out.frm0 (frm_alloc w (.cells #[.string n.op, .int .i64 n.t.1, .bool n.t.2, .int .u64 n.num, .int .i64 n.v, .slice KA n.kids.length KC] 76)))) Hlo.out f f hm1 hg1; have HM1 := Lib.hid hM1; have x3 : w1.cell? ⟨ct, 0, none⟩ = some (.map (some bt)) := blk_cell hM1.rep.hct 0; have b4 : w1.cell? ⟨w.heap.size, 4, none⟩ = some (.int .i64 n.v) := blk_cell hM1.box 4; have b0 : w1.cell? ⟨w.heap.size, 0, none⟩ = some (.string n.op) := blk_cell hM1.box 0; have y2 : w1.cell? ⟨cn, 0, none⟩ = some (.map (some bn)) := blk_cell hM1.rep.hcn 0; have b5 : w1.cell? ⟨w.heap.size, 5, none⟩ = some (.slice KA n.kids.length KC) := blk_cell hM1.box 5; have hlk := look_is hM1.rep.mt n.v; rw [Hto.out] at hlk; clear hm1 hg1 hM1) | fail)
   have HM := HM2
   rw [← Hnw.out] at HM
   obtain ⟨wh, hwh⟩ : ∃ wh, wh = w2 := ⟨_, rfl⟩
   subst hwh
   go_loopw [8, 44] (fun v8 v44 w' => ∃ k : Nat, k ≤ n.kids.length ∧ v44 = .int .i64 k ∧ Hid (Row w' 3 iI v8 ((n.kids.take k).map (nowV now))) ∧ Hid (Frm (fun _ => False) wh w') ∧ Hid (∀ g, v8.ownBlock = some g → wh.heap.size ≤ g)) (fun _ v44 _ => n.kids.length - (intOf v44).toNat)
   case atStart => exact ⟨0, Nat.zero_le _, rfl, Lib.hid (Row.nil _ _ _), Lib.hid (Frm.refl _ _), Lib.hid fun g hg => by cases hg⟩
   case round =>
    obtain ⟨k, hk, rfl, HRow, HFr, HO⟩ := hrel
    have HMr := Lib.hid (HM.out.frm0 HFr.out)
    have c2 : wr.cell? ⟨cn, 0, none⟩ = some (.map (some bn)) := blk_cell HMr.out.rep.hcn 0
    by_cases hlt : k < n.kids.length
    ·have hltI : (k : Int) < (n.kids.length : Int) := by omega
     obtain ⟨y, hy⟩ : ∃ y, n.kids[k]? = some y := ⟨_, List.getElem?_eq_getElem hlt⟩
     obtain ⟨A', cc, eK, hcell⟩ := sees_slice HMr.out.kids.sees
     cases eK
     obtain ⟨gk, ok, rfl, hc⟩ := hcell k y hy
     have hlk := look_int (m := now) HMr.out.rep.mn y
     have hz := World.block_lt_of_cell? _ _ c2
     have htk := Lib.hid (show (n.kids.take (k + 1)).map (nowV now) = (n.kids.take k).map (nowV now) ++ [nowV now y] by rw [List.take_add_one, hy, List.map_append]; rfl)
     have hl7 := Lib.hid (show ((n.kids.take k).map (nowV now)).length ≤ 1000 by rw [List.length_map, List.length_take]; omega)
     obtain ⟨ys, hys⟩ : ∃ ys, ys = (n.kids.take k).map (nowV now) := ⟨_, rfl⟩
     rw [← hys] at HRow htk hl7
     obtain ⟨RA, RC, rfl, _⟩ := sees_slice HRow.out.sees
     have Hkk := Lib.hid (show k + 1 ≤ n.kids.length from hlt)
     clear hcell hy hys hlt
     generalize nowV now y = z at *
     go_wp2_with (at_builtin; refine wpList_append_row rfl _ _ 50 rfl 3 i0 (.int .i64 0) 8 Tryz.underlying50 hi hz0 hz1 hz2 rfl (enc := iI) (.slice RA ys.length RC) ys rfl (HRow.out.frm0 (frm_alloc _ _)) ⟨wr.heap.size, 0, none⟩ 1 z rfl (blk_cell (blk_new _) 0) rfl ?cx2 ?cx3 ?_)
     case cx2 => have := hl7.out; have : maxLen = 9223372036854775807 := rfl; omega
     case cx3 => have := hl7.out; omega
     intro g' cap' w7 hrow hfr hg hlt7
     have HS7 := Lib.hid (show Row w7 3 iI (.slice (some ⟨g', 0, none⟩) (ys.length + 1) cap') ((n.kids.take (k + 1)).map (nowV now)) by rw [htk.out]; exact hrow)
     have hS : ∀ b, (Value.slice RA ys.length RC).ownBlock = some b → wh.heap.size ≤ b := HO.out
     have HF7 := Lib.hid ((frm_then HFr.out (frm_alloc wr _)).trans hfr fun x hx h => by have := hS x h; omega)
     have HO7 := Lib.hid (show wh.heap.size ≤ g' from hg.elim (hS g') fun h => by rw [h]; have := HFr.out.size; simp; omega)
     clear hrow hfr hg hS
     go_wp2
     go_roundw
     case rel => exact ⟨k + 1, Hkk.out, by first | rfl | go_num, HS7, HF7, Lib.hid fun g'' hg'' => by cases hg''; exact HO7.out⟩
     case measure => have := Hkk.out; simp [intOf]; omega
    ·obtain rfl : k = n.kids.length := by omega
     have hltI : ¬ (n.kids.length : Int) < (n.kids.length : Int) := by omega
     rw [List.take_length] at HRow
     obtain ⟨ownP, hP, hsub, hnb⟩ := HMr.out.rep.pool
     obtain ⟨D, hG⟩ := HMr.out.rep.good
     have c1 : wr.cell? ⟨bp, 0, none⟩ = some (.pointer (some ⟨p, 0, none⟩)) := blk_cell HMr.out.rep.hbp 0
     have a0 : wr.cell? ⟨w.heap.size, 0, none⟩ = some (.string n.op) := blk_cell HMr.out.box 0
     have a1 : wr.cell? ⟨w.heap.size, 1, none⟩ = some (.int .i64 n.t.1) := blk_cell HMr.out.box 1
     have a2 : wr.cell? ⟨w.heap.size, 2, none⟩ = some (.bool n.t.2) := blk_cell HMr.out.box 2
     have HPq := Lib.hid (show (∀ b, ownP b → own b) ∧ (¬ ownP bp ∧ ¬ ownP cn ∧ ¬ ownP ct ∧ ¬ ownP bn ∧ ¬ ownP bt) from ⟨hsub, hnb⟩)
     clear hlt hk
     by_cases hc : n.op = sCast
     ·have d4 : (n.op.toList == [99, 97, 115, 116]) = true := by rw [eqS]; exact decide_eq_true hc
      obtain ⟨y, r, hyr⟩ : ∃ y r, n.kids = y :: r := by
       cases hk : n.kids with
       | nil => exact absurd hk Hke.out
       | cons y r => exact ⟨y, r, rfl⟩
      have HX := Lib.hid (show x' = (mput now f (CastF x.2 n.t (nowV now y)).1.1, (CastF x.2 n.t (nowV now y)).2) by have h := HT2.out; rw [if_pos hc, hyr] at h; exact (Option.some.inj h).symm)
      obtain ⟨D2, hg1, hg2⟩ := cast_grow hG n.t (nowV now y)
      have HD := Lib.hid (PCast_calls (HMr.out.rep.env.frm0 (Frm.refl _ _).drew) (hP.frm0 (Frm.refl _ _).drew) n.t (nowV now y) (hG.calm.num _) (by have h : x.2.l.length + 2 < 4294967296 := HRm.out; show x.2.l.length < _; omega))
      have HG2 := Lib.hid (show (∃ D, Good e (CastF x.2 n.t (nowV now y)).2 D) ∧ (∀ f n', nth N f = some n' → nth (CastF x.2 n.t (nowV now y)).2.l f = some n') from ⟨⟨D2, hg1⟩, fun f n' hn' => hg2.nth _ _ (HMr.out.rep.pre f n' hn')⟩)
      obtain ⟨RA, RC, rfl, hcell⟩ := sees_slice HRow.out.sees
      have hy0 : (n.kids.map (nowV now))[0]? = some (nowV now y) := by rw [hyr]; rfl
      obtain ⟨g7, o7, rfl, y0⟩ := hcell 0 _ hy0
      rw [Nat.add_zero] at y0
      have y0 : wr.cell? ⟨g7, o7, none⟩ = some (.int .i64 (nowV now y)) := y0
      have hl0 : (0 : Int) < ((n.kids.map (nowV now)).length : Int) := by have h0 : 0 < n.kids.length := (by rw [hyr]; simp); rw [List.length_map]; omega
      have hl9 : (n.kids.map (nowV now)).length ≤ 9223372036854775807 := by rw [List.length_map]; omega
      generalize CastF x.2 n.t (nowV now y) = q at *
      generalize nowV now y = z at *
      clear hcell hy0 hyr hc hP hsub hnb hG hg1 hg2
      generalize (n.kids.map (nowV now)).length = len at *
      go_wp2_with fail
      refine Plan.wp_region_plan [0, 0, 0, 0, 8, 0, 32, 96, 252, 508, 1020, 1020, 2047] [.mk [0, 1, 2, 3, 4, 5, 6, 7] 8 [0, 1], .mk [9, 10, 11] 12 [11]] [] (by kernel_rfl) (by kernel_rfl) ?_
      simp only [Plan.wayOf, Plan.pickAll, List.getElem?_cons_zero, List.getElem?_cons_succ, List.getD_eq_getElem?_getD, Option.getD_some]
      refine Plan.wpWay_seg ?_
      repeat go_big_quiet_step (fail)
      refine wpQuiet_nil ?_; refine Plan.wpWay_act ?_
      go_wp2_with fail
      refine HD.out.mono ?_
      rintro ed w2 ⟨rfl, ownQ, hP2, hM2⟩
      have hC := HMr.out.rep.call HPq.out.1 HPq.out.2 hP2 (moves_pre (Frm.refl _ _).drew hM2) HG2.out.1 HG2.out.2
      have HC := Lib.hid hC
      have c2 : w2.cell? ⟨cn, 0, none⟩ = some (.map (some bn)) := blk_cell hC.1.hcn 0
      clear hP2 hM2 hC
      go_wp2_with fail
      refine And.intro ?_ ?_; focus ((iterate 2 (refine Plan.again_cons ?_ ?_; focus (go_big_quiet_step (fail); exact wpQuiet_nil rfl))); exact Plan.again_nil)
      refine Plan.wpWay_seg ?_
      repeat go_big_quiet_step (fail)
      refine wpQuiet_nil ?_; refine Plan.wpWay_act ?_
      refine wpList_update rfl _ _ _ 92 rfl keyInt Tryz.underlying92 f q.1.1 rfl rfl rfl HC.out.1.mn ?_
      intro w5 hm5 hg5
      have HE := Lib.hid (HC.out.1.put f q.1.1 hm5 hg5)
      clear hm5 hg5
      go_simp
      go_wp2_with fail
      refine And.intro ?_ ?_; focus ((iterate 1 (refine Plan.again_cons ?_ ?_; focus (go_big_quiet_step (fail); exact wpQuiet_nil rfl))); exact Plan.again_nil)
      refine Plan.wpWay_last ?_
      refine wpQuiet_nil ?_; refine NoPanic.normal ?_
      go_wp2
      first
       | (go_end0; exact ⟨rfl, _, by rw [HX.out]; exact HE.out.1, (HMr.out.moves.trans HC.out.2).trans HE.out.2⟩)
       | refine bodyPost_end (v := .tuple #[]) (by simp [results, Tryz.results45, go_sem]) rfl ⟨rfl, _, by rw [HX.out]; exact HE.out.1, (HMr.out.moves.trans HC.out.2).trans HE.out.2⟩
     ·have d4 : (n.op.toList == [99, 97, 115, 116]) = false := by rw [eqS]; exact decide_eq_false hc
      have HX := Lib.hid (show x' = (mput now f (DoF x.2 n.op (n.kids.map (nowV now))).1.1, (DoF x.2 n.op (n.kids.map (nowV now))).2) by have h := HT2.out; rw [if_neg hc] at h; exact (Option.some.inj h).symm)
      obtain ⟨D2, hg1, hg2⟩ := do_grow hG n.op (n.kids.map (nowV now))
      have HD := Lib.hid (PDo_calls (HMr.out.rep.env.frm0 (Frm.refl _ _).drew) (hP.frm0 (Frm.refl _ _).drew) hG.calm n.op Hop.out u8 _ (HRow.out.sees.frm (Frm.refl (fun _ => False) _).drew fun _ _ _ => id) (fun g hg ho => by
       have h1 := HO.out g (by obtain ⟨o, k2, c2, e2⟩ := hg; rcases HRow.out.shape with ⟨e3, _⟩ | ⟨g2, cap2, e3, e4, _⟩ <;> rw [e2] at e3 <;> simp at e3; obtain ⟨⟨rfl, rfl⟩, _⟩ := e3; exact e4)
       have h2 := Hlo.out g (HPq.out.1 g ho)
       have h3 := HM.out.moves.1.size
       omega) (by have := HRm.out; omega))
      have HG2 := Lib.hid (show (∃ D, Good e (DoF x.2 n.op (n.kids.map (nowV now))).2 D) ∧ (∀ f n', nth N f = some n' → nth (DoF x.2 n.op (n.kids.map (nowV now))).2.l f = some n') from ⟨⟨D2, hg1⟩, fun f n' hn' => hg2.nth _ _ (HMr.out.rep.pre f n' hn')⟩)
      generalize DoF x.2 n.op (n.kids.map (nowV now)) = q at *
      clear hc hP hsub hnb hG hg1 hg2
      go_wp2_with fail
      refine Plan.wp_region_plan [0, 0, 0, 0, 8, 0, 60, 124, 252, 252, 511] [.mk [0, 1, 2, 3, 4, 5] 6 [0, 1], .mk [7, 8, 9] 10 [9]] [] (by kernel_rfl) (by kernel_rfl) ?_
      simp only [Plan.wayOf, Plan.pickAll, List.getElem?_cons_zero, List.getElem?_cons_succ, List.getD_eq_getElem?_getD, Option.getD_some]
      refine Plan.wpWay_seg ?_
      repeat go_big_quiet_step (fail)
      refine wpQuiet_nil ?_; refine Plan.wpWay_act ?_
      go_wp2_with fail
      refine HD.out.mono ?_
      rintro ed w2 ⟨rfl, ownQ, hP2, hM2⟩
      have hC := HMr.out.rep.call HPq.out.1 HPq.out.2 hP2 (moves_pre (Frm.refl _ _).drew hM2) HG2.out.1 HG2.out.2
      have HC := Lib.hid hC
      have c2 : w2.cell? ⟨cn, 0, none⟩ = some (.map (some bn)) := blk_cell hC.1.hcn 0
      clear hP2 hM2 hC
      go_wp2_with fail
      refine And.intro ?_ ?_; focus ((iterate 2 (refine Plan.again_cons ?_ ?_; focus (go_big_quiet_step (fail); exact wpQuiet_nil rfl))); exact Plan.again_nil)
      refine Plan.wpWay_seg ?_
      repeat go_big_quiet_step (fail)
      refine wpQuiet_nil ?_; refine Plan.wpWay_act ?_
      refine wpList_update rfl _ _ _ 92 rfl keyInt Tryz.underlying92 f q.1.1 rfl rfl rfl HC.out.1.mn ?_
      intro w5 hm5 hg5
      have HE := Lib.hid (HC.out.1.put f q.1.1 hm5 hg5)
      clear hm5 hg5
      go_simp
      go_wp2_with fail
      refine And.intro ?_ ?_; focus ((iterate 1 (refine Plan.again_cons ?_ ?_; focus (go_big_quiet_step (fail); exact wpQuiet_nil rfl))); exact Plan.again_nil)
      refine Plan.wpWay_last ?_
      refine wpQuiet_nil ?_; refine NoPanic.normal ?_
      go_wp2
      first
       | (go_end0; exact ⟨rfl, _, by rw [HX.out]; exact HE.out.1, (HMr.out.moves.trans HC.out.2).trans HE.out.2⟩)
       | refine bodyPost_end (v := .tuple #[]) (by simp [results, Tryz.results45, go_sem]) rfl ⟨rfl, _, by rw [HX.out]; exact HE.out.1, (HMr.out.moves.trans HC.out.2).trans HE.out.2⟩
end TmW
end Go.Proofs.YtbbajekecppioaaGreatDoor
