/- The sort of a short row of values: the same values, in some order. -/
import Derived.Test.YtbbajekecppioaaGreatDoorGa26
import Derived.Test.YtbbajekecppioaaGreatDoorGa16
set_option linter.unusedSimpArgs false
set_option linter.unusedVariables false
namespace Go.Proofs.YtbbajekecppioaaGreatDoor
open Go.RowKit Go.Mem Go.Wd Go.Tp
namespace TmW
theorem perm_swap {α : Type} {l : List α} {i j : Nat} {x y : α} (hx : l[i]? = some x) (hy : l[j]? = some y) : ((l.set i y).set j x).Perm l := by
  obtain ⟨hi, hx⟩ := List.getElem?_eq_some_iff.1 hx
  obtain ⟨hj, hy⟩ := List.getElem?_eq_some_iff.1 hy
  subst hx; subst hy
  exact List.set_set_perm hi hj
set_option maxRecDepth 100000 in
set_option maxHeartbeats 4000000 in
theorem isort_calls (w : World) (g c : Nat) (l : List VVal) (h : VRow w (.slice (some ⟨g, 0, none⟩) l.length c) l) (hn : l.length ≤ 12) :
    Calls Tryz.prog 90 #[(.slice (some ⟨g, 0, none⟩) l.length c), .int .i64 0, .int .i64 l.length, .func (.func 57) #[] #[]] w fun e w' => e = .returned (.tuple #[]) ∧ ∃ l', l'.Perm l ∧ VRow w' (.slice (some ⟨g, 0, none⟩) l.length c) l' ∧ Frm (fun b => b = g) w w' := by
  have hcf := fun (args : Array Value) (w : World) => call_enter (P := Tryz.prog) (f := 57) Tryz.func57 (by kernel_rfl) rfl args w
  have H := Lib.hid h
  clear h
  go_enter Tryz.func90, Tryz.ntmps90
  go_wp2
  go_loopw [8] (fun v8 w' => ∃ (i : Nat) (l' : List VVal), 1 ≤ i ∧ i ≤ 13 ∧ v8 = .int .i64 i ∧ Hid (l'.Perm l) ∧ Hid (VRow w' (.slice (some ⟨g, 0, none⟩) l.length c) l') ∧ Hid (Frm (fun b => b = g) w w')) (fun v8 _ => 20 - (intOf v8).toNat)
  case atStart => exact ⟨1, l, by omega, by omega, rfl, Lib.hid (List.Perm.refl _), H, Lib.hid (Frm.refl _ _)⟩
  case round =>
    obtain ⟨i, l', hi1, hi13, rfl, HPm, HV, HF⟩ := hrel
    by_cases hlt : i < l.length
    · have hltI : (i : Int) < (l.length : Int) := by omega
      have Hlt := Lib.hid hlt
      go_wp2
      obtain ⟨wo, rfl⟩ : ∃ wo : World, wo = wr := ⟨_, rfl⟩
      go_loopw [9] (fun v9 w' => ∃ (j : Nat) (l2 : List VVal), j ≤ i ∧ v9 = .int .i64 j ∧ Hid (l2.Perm l) ∧ Hid (VRow w' (.slice (some ⟨g, 0, none⟩) l.length c) l2) ∧ Hid (Frm (fun b => b = g) w w')) (fun v9 _ => (intOf v9).toNat)
      case atStart => exact ⟨i, l', Nat.le_refl _, rfl, HPm, HV, HF⟩
      case round =>
        obtain ⟨j, l2, hji, rfl, HPm2, HV2, HF2⟩ := hrel
        have hl2 : l2.length = l.length := HPm2.out.length_eq
        rcases HV2.out.shape with ⟨e, _⟩ | ⟨g', cap', e, hgl, hcells, hfz⟩
        · cases e
        simp only [Value.slice.injEq, Option.some.injEq, Addr.mk.injEq, and_true] at e
        obtain ⟨rfl, he, rfl⟩ := e
        clear he
        have HFZ := Lib.hid hfz
        have HCE := Lib.hid hcells
        clear hfz hcells
        cases j with
        | zero =>
          go_wp2
          go_quiet (fail)
          go_wp2
          go_roundw
          case rel => exact ⟨i + 1, l2, by omega, by omega, (by first | rfl | go_num), HPm2, HV2, Lib.hid (HF2.out.drewN _)⟩
          case measure => simp [intOf] <;> omega
        | succ k =>
          obtain ⟨x, hx⟩ : ∃ x, l2[k + 1]? = some x := ⟨_, List.getElem?_eq_getElem (by omega)⟩
          obtain ⟨y, hy⟩ : ∃ y, l2[k]? = some y := ⟨_, List.getElem?_eq_getElem (by omega)⟩
          obtain ⟨x0, x1, x2, x3⟩ := HCE.out (k + 1) x hx
          obtain ⟨y0, y1, y2, y3⟩ := HCE.out k y hy
          have Hx := Lib.hid hx
          have Hy := Lib.hid hy
          have hkl : k + 1 < l.length := by omega
          have Hl2 := Lib.hid hl2
          have Hji := Lib.hid hji
          clear hl2 hji hltI hlt
          have hd : decide ((k : Int) + 1 > 0) = true := decide_eq_true (by omega)
          clear hx hy
          go_wp2
          refine Plan.wp_region_plan [0, 0, 3, 7, 15, 15, 15, 111, 239, 15, 15, 1039, 3599, 7695, 16383, 32767, 65535] [.mk [0, 1, 2, 3, 4, 5, 6, 7, 8, 9, 10, 11, 12, 13] 14 []] [15, 16] (by kernel_rfl) (by kernel_rfl) ?_
          simp only [Plan.wayOf, Plan.pickAll, List.getElem?_cons_zero, List.getElem?_cons_succ, List.getD_eq_getElem?_getD, Option.getD_some]
          refine Plan.wpWay_seg ?_
          repeat go_big_quiet_step (fail)
          refine wpQuiet_nil ?_; refine Plan.wpWay_act ?_
          go_wp2_with fail
          refine (cmp_calls _ x y).mono ?_
          rintro e w4 ⟨rfl, hf4⟩
          generalize Lib.compareInt x.v y.v = cv at *
          have HF4 := Lib.hid (show Frm (fun _ => False) wr w4 from frm_then (Frm.refl _ _).drew hf4)
          obtain ⟨x0', x1', x2', x3'⟩ : w4.cell? ⟨g, (k + 1) * 4, none⟩ = _ ∧ w4.cell? ⟨g, (k + 1) * 4 + 1, none⟩ = _ ∧ w4.cell? ⟨g, (k + 1) * 4 + 2, none⟩ = _ ∧ w4.cell? ⟨g, (k + 1) * 4 + 3, none⟩ = _ := ⟨frm_cell HF4.out x0, frm_cell HF4.out x1, frm_cell HF4.out x2, frm_cell HF4.out x3⟩
          obtain ⟨y0', y1', y2', y3'⟩ : w4.cell? ⟨g, k * 4, none⟩ = _ ∧ w4.cell? ⟨g, k * 4 + 1, none⟩ = _ ∧ w4.cell? ⟨g, k * 4 + 2, none⟩ = _ ∧ w4.cell? ⟨g, k * 4 + 3, none⟩ = _ := ⟨frm_cell HF4.out y0, frm_cell HF4.out y1, frm_cell HF4.out y2, frm_cell HF4.out y3⟩
          clear hf4
          go_wp2_with fail
          refine And.intro Plan.again_nil ?_
          refine Plan.wpWay_last ?_
          repeat go_big_quiet_step (fail)
          refine wpQuiet_nil ?_; refine NoPanic.normal ?_
          by_cases hc : cv < 0
          · have hdc : decide (cv < 0) = true := decide_eq_true hc
            go_wp2
            have HV4 := Lib.hid (HV2.out.frm HF4.out fun _ _ => id)
            rcases HV4.out.shape with ⟨e, _⟩ | ⟨g', cap', e, hgl4, hcells, hfz⟩
            · cases e
            simp only [Value.slice.injEq, Option.some.injEq, Addr.mk.injEq, and_true] at e
            obtain ⟨rfl, he, rfl⟩ := e
            clear he
            have f0 := hfz ((k + 1) * 4)
            have f1 := hfz ((k + 1) * 4 + 1)
            have f2 := hfz ((k + 1) * 4 + 2)
            have f3 := hfz ((k + 1) * 4 + 3)
            have f4 := hfz (k * 4)
            have f5 := hfz (k * 4 + 1)
            have f6 := hfz (k * 4 + 2)
            have f7 := hfz (k * 4 + 3)
            clear hcells hfz
            go_wp2
            refine Plan.wp_region_plan [0, 0, 0, 0, 8, 0, 0, 64, 224, 480, 0, 0, 3072, 7168, 16355, 32739, 65535, 131071] [.mk [0, 1, 2, 3, 4, 5, 6, 7, 8, 9, 10, 11, 12, 13, 14] 15 [2, 3, 4], .mk [16] 17 []] [] (by kernel_rfl) (by kernel_rfl) ?_
            simp only [Plan.wayOf, Plan.pickAll, List.getElem?_cons_zero, List.getElem?_cons_succ, List.getD_eq_getElem?_getD, Option.getD_some]
            refine Plan.wpWay_seg ?_
            repeat go_big_quiet_step (fail)
            refine wpQuiet_nil ?_; refine Plan.wpWay_act ?_
            go_wp2_with (fail)
            refine And.intro ?_ ?_; focus ((iterate 3 (refine Plan.again_cons ?_ ?_; focus (go_big_quiet_step (fail); exact wpQuiet_nil rfl))); exact Plan.again_nil)
            refine Plan.wpWay_seg ?_
            repeat go_big_quiet_step (fail)
            refine wpQuiet_nil ?_; refine Plan.wpWay_act ?_
            go_wp2_with (fail)
            refine And.intro Plan.again_nil ?_
            refine Plan.wpWay_last ?_
            refine wpQuiet_nil ?_; refine NoPanic.normal ?_
            go_wp2
            go_roundw
            case rel =>
              refine ⟨k, (l2.set (k + 1) y).set k x, by have := Hji.out; omega, rfl, Lib.hid ((perm_swap Hx.out Hy.out).trans HPm2.out), Lib.hid ?_, Lib.hid ?_⟩
              · have hk1 : k + 1 < l2.length := by rw [Hl2.out]; exact hkl
                have h1 := VRow.set HV4.out Hl2.out.symm (k + 1) hk1 y
                have h2 := VRow.set h1 (by rw [List.length_set]; exact Hl2.out.symm) k (by rw [List.length_set]; omega) x
                exact own_drew h2
              · exact (((((((((HF2.out.trans HF4.out fun _ _ h => h.elim).set (p := ⟨g, _, none⟩) (.inl rfl) _).set (p := ⟨g, _, none⟩) (.inl rfl) _).set (p := ⟨g, _, none⟩) (.inl rfl) _).set (p := ⟨g, _, none⟩) (.inl rfl) _).set (p := ⟨g, _, none⟩) (.inl rfl) _).set (p := ⟨g, _, none⟩) (.inl rfl) _).set (p := ⟨g, _, none⟩) (.inl rfl) _).set (p := ⟨g, _, none⟩) (.inl rfl) _).drew
            case measure => simp [intOf] <;> omega
          · have hdc : decide (cv < 0) = false := decide_eq_false hc
            go_wp2
            go_roundw
            case rel => exact ⟨i + 1, l2, by omega, by have := Hlt.out; omega, (by first | rfl | go_num), HPm2, Lib.hid (HV2.out.frm HF4.out fun _ _ => id), Lib.hid (HF2.out.trans HF4.out fun _ _ h => h.elim)⟩
            case measure => have := Hlt.out; simp [intOf] <;> omega
    · have hltI : ¬ (i : Int) < (l.length : Int) := by omega
      go_wp2
      go_end0
      exact ⟨rfl, l', HPm.out, HV.out, HF.out⟩
end TmW
end Go.Proofs.YtbbajekecppioaaGreatDoor
/- slices.SortFunc of at most 12 values walked; the pool's Vars. -/
namespace Go.Proofs.YtbbajekecppioaaGreatDoor
open Go.RowKit Go.Mem Go.Wd Go.Tp
namespace TmW
set_option maxRecDepth 100000 in
set_option maxHeartbeats 2000000 in
theorem pdq_calls (w : World) (g c : Nat) (l : List VVal) (lim : Int) (h : VRow w (.slice (some ⟨g, 0, none⟩) l.length c) l) (hn : l.length ≤ 12) :
  Calls Tryz.prog 80 #[.slice (some ⟨g, 0, none⟩) l.length c, .int .i64 0, .int .i64 l.length, .int .i64 lim, (.func (.func 57) #[] #[])] w fun e w' => e = .returned (.tuple #[]) ∧ ∃ l', l'.Perm l ∧ VRow w' (.slice (some ⟨g, 0, none⟩) l.length c) l' ∧ Frm (fun b => b = g) w w' := by
 have HC := Lib.hid (isort_calls w g c l h hn)
 have hd : decide ((l.length : Int) ≤ 12) = true := decide_eq_true (by omega)
 clear h
 generalize hm : l.length = m at *
 clear hm
 go_enter Tryz.func80, Tryz.ntmps80
 go_wp2
 refine wp_loop_rounds 1 ?_
 rw [rounds_succ]
 go_wp2_with fail
 refine HC.out.mono ?_
 rintro e w1 ⟨rfl, l', h1, h2, h3⟩
 have H1 := Lib.hid h1
 have H2 := Lib.hid h2
 have H3 := Lib.hid h3
 clear h1 h2 h3
 go_wp2
 exact bodyPost_ret (v := .tuple #[]) (by simp [results, Tryz.results80, go_sem]) rfl ⟨rfl, l', H1.out, H2.out, H3.out⟩
set_option maxRecDepth 100000 in
theorem isort_nil (w : World) : Calls Tryz.prog 90 #[.slice none 0 0, .int .i64 0, .int .i64 0, (.func (.func 57) #[] #[])] w fun e w' => e = .returned (.tuple #[]) ∧ w = w' := by
 go_enter Tryz.func90, Tryz.ntmps90
 go_wp2
 refine wp_loop_rounds 1 ?_
 rw [rounds_succ]
 go_wp2
 go_end0
 exact ⟨rfl, rfl⟩
set_option maxRecDepth 100000 in
theorem pdq_nil (w : World) (lim : Int) : Calls Tryz.prog 80 #[.slice none 0 0, .int .i64 0, .int .i64 0, .int .i64 lim, (.func (.func 57) #[] #[])] w fun e w' => e = .returned (.tuple #[]) ∧ w = w' := by
 go_enter Tryz.func80, Tryz.ntmps80
 go_wp2
 refine wp_loop_rounds 1 ?_
 rw [rounds_succ]
 go_wp2_with fail
 refine (isort_nil w).mono ?_
 rintro e w1 ⟨rfl, rfl⟩
 go_wp2
 exact bodyPost_ret (v := .tuple #[]) (by simp [results, Tryz.results80, go_sem]) rfl ⟨rfl, rfl⟩
set_option maxRecDepth 100000 in
set_option maxHeartbeats 2000000 in
theorem sort_calls (w : World) (v : Value) (l : List VVal) (h : VRow w v l) (hn : l.length ≤ 12) :
  Calls Tryz.prog 56 #[v, (.func (.func 57) #[] #[])] w fun e w' => e = .returned (.tuple #[]) ∧ ∃ l', l'.Perm l ∧ VRow w' v l' ∧ Frm (fun b => v.ownBlock = some b) w w' := by
 have HB := Lib.hid (Tryz.bits_Len (l.length : Int) w (by omega) (by omega))
 rcases h.shape with ⟨rfl, rfl⟩ | ⟨g, cap, rfl, _⟩
 ·have HC := Lib.hid (fun lim => pdq_nil w lim)
  clear h
  go_enter Tryz.func56, Tryz.ntmps56
  go_wp2_with fail
  refine HB.out.mono ?_
  rintro e w1 ⟨rfl, rfl⟩
  go_wp2_with fail
  refine (HC.out _).mono ?_
  rintro e w1 ⟨rfl, rfl⟩
  go_wp2
  go_end0
  exact ⟨rfl, [], List.Perm.refl _, ⟨rfl, .inl ⟨rfl, rfl⟩⟩, Frm.refl _ _⟩
 ·have HC := Lib.hid (fun lim => pdq_calls w g cap l lim h hn)
  clear h
  generalize hm : l.length = m at *
  clear hm
  go_enter Tryz.func56, Tryz.ntmps56
  go_wp2_with fail
  refine HB.out.mono ?_
  rintro e w1 ⟨rfl, rfl⟩
  go_wp2_with fail
  refine (HC.out _).mono ?_
  rintro e w1 ⟨rfl, l', h1, h2, h3⟩
  have H1 := Lib.hid h1
  have H2 := Lib.hid h2
  have H3 := Lib.hid h3
  clear h1 h2 h3
  go_wp2
  go_end0
  exact ⟨rfl, l', H1.out, H2.out, H3.out.mono fun b _ e => by rw [e]; rfl⟩
theorem info_val : (Tryz.prog.info? 70).map (fun i => (i.zero, i.size, i.bytes)) = some (some (.agg #[.int .i64 0, .int .i64 0, .bool false, .int .u64 0]), 4, 32) := by kernel_rfl
def takeV (N : List TNode) (out : List VVal) (f : Int) : Option (List VVal) :=
 match nth N f with
 | some n => if n.op = sVar then (if out.length < 1000 then some (out ++ [⟨n.v, n.t, 0⟩]) else none) else some out
 | none => none
/-- What Vars' function stands on: the pool as it is, and what it collects. -/
structure RepV (ownP : Nat → Prop) (p : Nat) (s : TPool) (bp bo : Nat) (w : World) (own : Nat → Prop) (out : List VVal) : Prop where
 pool : PoolAt w ownP p s
 box : w.heap[bp]? = some (.cells #[.pointer (some ⟨p, 0, none⟩)] 32)
 row : ∃ sv, w.heap[bo]? = some (.cells #[sv] 43) ∧ VRow w sv out ∧ ∀ g, sv.ownBlock = some g → own g ∧ ¬ ownP g ∧ g ≠ bo ∧ g ≠ bp
 sub : ∀ b, ownP b → own b
 ob : own bo
 op : own bp
 nb : ¬ ownP bo ∧ ¬ ownP bp ∧ bo ≠ bp
 lt : ∀ b, own b → b < w.heap.size
theorem RepV.frm {ownP : Nat → Prop} {p : Nat} {s : TPool} {bp bo : Nat} {S : Nat → Prop} {w w' : World} {own : Nat → Prop} {out : List VVal} (h : RepV ownP p s bp bo w own out) (hf : Frm S w w') (hS : ∀ b, own b → ¬ S b) : RepV ownP p s bp bo w' own out := by
 obtain ⟨sv, h1, h2, h3⟩ := h.row
 exact ⟨h.pool.frm hf fun b hb => hS b (h.sub b hb), blk_frm h.box hf (hS _ h.op), ⟨sv, blk_frm h1 hf (hS _ h.ob), h2.frm hf fun g hg => hS g (h3 g hg).1, h3⟩, h.sub, h.ob, h.op, h.nb, fun b hb => Nat.lt_of_lt_of_le (h.lt b hb) hf.size⟩
set_option maxRecDepth 100000 in
set_option maxHeartbeats 2000000 in
theorem takeV_calls {ownP : Nat → Prop} {p : Nat} {s : TPool} {bp bo : Nat} (w : World) (own : Nat → Prop) (out out' : List VVal) (f : Int) (h : RepV ownP p s bp bo w own out) (hr : takeV s.l out f = some out') :
  Calls Tryz.prog 55 (#[.int .i64 f] ++ #[.pointer (some ⟨bp, 0, none⟩), .pointer (some ⟨bo, 0, none⟩)]) w fun e w' => e = .returned (.tuple #[]) ∧ ∃ own', RepV ownP p s bp bo w' own' out' ∧ PMoves own w own' w' := by
 show Calls Tryz.prog 55 #[.int .i64 f, .pointer (some ⟨bp, 0, none⟩), .pointer (some ⟨bo, 0, none⟩)] w _
 obtain ⟨i0, hi, hz0, hz1, hz2⟩ := info_parts info_val
 unfold takeV at hr
 cases hn : nth s.l f with
 | none => rw [hn] at hr; cases hr
 | some n =>
 rw [hn] at hr
 simp only at hr
 obtain ⟨l0, l1⟩ := nth_lt hn
 obtain ⟨gn, cn, kv, p0, _, hkv, _, e0, e1, e2, e3, e4, e5⟩ := h.pool.node hn
 obtain ⟨KA, KC, rfl, _⟩ := sees_slice hkv.sees
 obtain ⟨sv, hbo, hV, hso⟩ := h.row
 have x1 : w.cell? ⟨bp, 0, none⟩ = some (.pointer (some ⟨p, 0, none⟩)) := blk_cell h.box 0
 have x2 : w.cell? ⟨bo, 0, none⟩ = some sv := blk_cell hbo 0
 have z2 : w.frozen? ⟨bo, 0, none⟩ = false := blk_free hbo 0
 have m1 := World.block_lt_of_cell? _ _ x1
 have m2 := World.block_lt_of_cell? _ _ x2
 have m3 := World.block_lt_of_cell? _ _ p0
 have m4 := World.block_lt_of_cell? _ _ e0
 have HH := Lib.hid h
 have HN := Lib.hid hn
 obtain ⟨SA, SC, rfl⟩ : ∃ SA SC, sv = .slice SA out.length SC := by
  rcases hV.shape with ⟨rfl, rfl⟩ | ⟨g, cap, rfl, _⟩
  ·exact ⟨none, 0, rfl⟩
  ·exact ⟨_, _, rfl⟩
 have HV := Lib.hid hV
 have HSO := Lib.hid hso
 have HBO := Lib.hid hbo
 clear hV hso hbo
 by_cases ho : n.op = sVar
 ·rw [if_pos ho] at hr
  split at hr
  ·rename_i hlen
   simp only [Option.some.injEq] at hr
   have d : (n.op.toList == [118, 97, 114]) = true := by rw [eqS]; exact decide_eq_true ho
   clear h hn hkv ho
   subst hr
   go_enter Tryz.func55, Tryz.ntmps55
   go_wp2_with (at_builtin; refine wpList_append_lies _ rfl _ _ 43 rfl 0 70 i0 (.agg #[.int .i64 0, .int .i64 0, .bool false, .int .u64 0]) 4 32 Tryz.underlying43 hi hz0 hz1 hz2 rfl (by decide) (.slice SA out.length SC) _ _ rfl (own_frm HV.out ((frm_alloc w (.cells #[.string n.op, .int .i64 n.t.1, .bool n.t.2, .int .u64 n.num, .int .i64 n.v, .slice KA n.kids.length KC] 76)).alloc (.cells #[.int .i64 n.v, .int .i64 n.t.1, .bool n.t.2, .int .u64 0] 70)) fun _ _ => id) ⟨w.heap.size + 1, 0, none⟩ 1 1 [.int .i64 n.v, .int .i64 n.t.1, .bool n.t.2, .int .u64 0] rfl rfl ?c1 ?c2 (by decide) ?c3 ?c4 (Nat.zero_le _) _ rfl ?_)
   case c2 => simp [Value.oneCell']
   case c3 => have : maxLen = 9223372036854775807 := rfl; omega
   case c4 => omega
   intro g' cap' w6 h6 hg6 hgg hlt6
   have hbn : (Value.slice SA out.length SC).ownBlock ≠ some bo := fun e => (HSO.out bo e).2.2.1 rfl
   have hpn : (Value.slice SA out.length SC).ownBlock ≠ some bp := fun e => (HSO.out bp e).2.2.2 rfl
   have hb6 := blk_grown (blk_alloc (blk_alloc HBO.out (.cells #[.string n.op, .int .i64 n.t.1, .bool n.t.2, .int .u64 n.num, .int .i64 n.v, .slice KA n.kids.length KC] 76)) (.cells #[.int .i64 n.v, .int .i64 n.t.1, .bool n.t.2, .int .u64 0] 70)) hg6 hbn
   have d2 : w6.cell? ⟨bo, 0, none⟩ = some (.slice SA out.length SC) := blk_cell hb6 0
   have dz : w6.frozen? ⟨bo, 0, none⟩ = false := blk_free hb6 0
   have H6 := Lib.hid h6
   have HG6 := Lib.hid hg6
   have HGG := Lib.hid (show (Value.slice SA out.length SC).ownBlock = some g' ∨ g' = w.heap.size + 1 + 1 by rcases hgg with h | h; exact .inl h; exact .inr (by simpa using h))
   have HB6 := Lib.hid hb6
   clear h6 hg6 hgg hb6
   go_wp2
   go_end0
   have hF6 : Frm (fun b => (Value.slice SA out.length SC).ownBlock = some b) w w6 := (((frm_alloc w (.cells #[.string n.op, .int .i64 n.t.1, .bool n.t.2, .int .u64 n.num, .int .i64 n.v, .slice KA n.kids.length KC] 76)).alloc (.cells #[.int .i64 n.v, .int .i64 n.t.1, .bool n.t.2, .int .u64 0] 70)).mono fun _ _ h => h.elim).grown HG6.out fun k hk => .inl hk
   have hF7 : Frm (fun b => (Value.slice SA out.length SC).ownBlock = some b ∨ b = bo) w (w6.setCell ⟨bo, 0, none⟩ (.slice (some ⟨g', 0, none⟩) (out.length + 1) cap')) := (hF6.mono fun _ _ h => .inl h).set (p := ⟨bo, 0, none⟩) (.inl (.inr rfl)) _
   have hown7 : ∀ b, ((Value.slice SA out.length SC).ownBlock = some b ∨ b = bo) → own b := fun b hb => by
    rcases hb with hb | rfl
    ·exact (HSO.out b hb).1
    ·exact HH.out.ob
   have hg'o : ¬ ownP g' ∧ g' ≠ bo ∧ g' ≠ bp := by
    rcases HGG.out with h | h
    ·exact (HSO.out g' h).2
    ·refine ⟨fun h1 => ?_, ?_, ?_⟩
     ·have := HH.out.lt _ (HH.out.sub _ h1); omega
     ·omega
     ·omega
   refine ⟨rfl, fun b => own b ∨ b = g', ⟨HH.out.pool.frm hF7 fun b hb hs => ?_, blk_frm HH.out.box hF7 (fun hs => ?_), ⟨_, blk_set HB6.out 0 _ rfl, ?_, fun g hg => ?_⟩, fun b hb => .inl (HH.out.sub b hb), .inl HH.out.ob, .inl HH.out.op, HH.out.nb, fun b hb => ?_⟩, hF7.mono fun b _ hs => hown7 b hs, fun b hb => ?_, fun b cs hb => ?_⟩
   ·rcases hs with hs | hs
    ·exact (HSO.out b hs).2.1 hb
    ·exact HH.out.nb.1 (hs ▸ hb)
   ·rcases hs with hs | hs
    ·exact hpn hs
    ·exact HH.out.nb.2.2 hs.symm
   ·have h7 := own_set_ne H6.out (p := ⟨bo, 0, none⟩) (fun e => hg'o.2.1 (by cases e; rfl)) (.slice (some ⟨g', 0, none⟩) (out.length + 1) cap')
    unfold VRow
    rw [List.length_append, vcells, List.flatMap_append]
    simpa [vcells, vcell] using h7
   ·cases hg
    exact ⟨.inr rfl, hg'o⟩
   ·have hsz := hF7.size
    rcases hb with hb | rfl
    ·have := HH.out.lt b hb; omega
    ·simp; omega
   ·rcases hb with hb | rfl
    ·exact .inl hb
    ·rcases HGG.out with h | h
     ·exact .inl (HSO.out _ h).1
     ·exact .inr (by omega)
   ·refine blk_frm hb hF7 fun hs => ?_
    rcases hs with hs | hs
    ·obtain ⟨cur, hc⟩ := own_elem HV.out hs
     rw [hb] at hc; simp at hc
    ·subst hs
     have := HBO.out
     rw [hb] at this; simp at this
  ·cases hr
 ·rw [if_neg ho] at hr
  simp only [Option.some.injEq] at hr
  subst hr
  have d : (n.op.toList == [118, 97, 114]) = false := by rw [eqS]; exact decide_eq_false ho
  clear h hn hkv ho
  go_enter Tryz.func55, Tryz.ntmps55
  go_wp2
  go_end0
  exact ⟨rfl, own, HH.out.frm (S := fun _ => False) (frm_alloc _ _) fun _ _ => id, PMoves.of0 (frm_alloc _ _)⟩
theorem takerV {ownP : Nat → Prop} {p : Nat} {s : TPool} {bp bo : Nat} : Taker (RepV ownP p s bp bo) p s.l 55 #[.pointer (some ⟨bp, 0, none⟩), .pointer (some ⟨bo, 0, none⟩)] (takeV s.l) :=
 ⟨fun h hf hS _ => h.frm hf hS, fun h => ⟨ownP, s, h.pool, h.sub, fun _ _ h => h⟩, fun h => h.lt, fun w own out out' f h hr => takeV_calls w own out out' f h hr, fun args w => call_enter (P := Tryz.prog) (f := 55) Tryz.func55 (by kernel_rfl) rfl args w⟩
/-- Whose parts are there: each node's. -/
def Closed (l : List TNode) : Prop := ∀ f n, nth l f = some n → ∀ g ∈ n.kids, (nth l g).isSome
def varsF (l : List TNode) (k : Nat) (f : Int) : Option (List VVal) := (eachF.eachL (eachF (kidsF l) (takeV l) k) ([], []) [f]).map (·.2)
set_option maxRecDepth 100000 in
set_option maxHeartbeats 2000000 in
theorem Vars_calls {w : World} {own : Nat → Prop} {p : Nat} {s : TPool} (h : PoolAt w own p s) (hC : Closed s.l) (f : Int) (hf : (nth s.l f).isSome) (lv : Value) (hl : Sees w (Value.int .i64) lv [f]) (hgl : ∀ g, InBlk lv g → ¬ own g) (k : Nat) (out : List VVal) (hr : varsF s.l k f = some out) (hn : out.length ≤ 12) :
  Calls Tryz.prog 28 #[.pointer (some ⟨p, 0, none⟩), lv] w fun e w' => ∃ v out', e = .returned v ∧ out'.Perm out ∧ VRow w' v out' ∧ PoolAt w' own p s ∧ PMoves own w own w' ∧ ∀ g, v.ownBlock = some g → w.heap.size ≤ g := by
 have hmf : ∀ (fn : Fn) (first cap : Array Value) (w : World), (Instr.makeFunc fn first cap).run Tryz.prog w = .ok (.func fn first cap) w := fun _ _ _ _ => rfl
 unfold varsF at hr
 obtain ⟨⟨m', o2⟩, hr2, rfl⟩ := Option.map_eq_some_iff.1 hr
 have hF2 : Frm (fun _ => False) w ((w.alloc (.cells #[.pointer (some ⟨p, 0, none⟩)] 32)).alloc (.cells #[.slice none 0 0] 43)) := (frm_alloc _ _).alloc _
 have hR : RepV own p s w.heap.size (w.heap.size + 1) ((w.alloc (.cells #[.pointer (some ⟨p, 0, none⟩)] 32)).alloc (.cells #[.slice none 0 0] 43)) (fun b => own b ∨ b = w.heap.size ∨ b = w.heap.size + 1) [] := by
  refine ⟨h.frm0 hF2, blk_alloc (blk_new _) _, ⟨.slice none 0 0, blk_new_at _ (by simp), ⟨rfl, .inl ⟨rfl, rfl⟩⟩, fun g hg => (by cases hg)⟩, fun b hb => .inl hb, .inr (.inr rfl), .inr (.inl rfl), ⟨fun hb => ?_, fun hb => ?_, by omega⟩, fun b hb => ?_⟩
  ·have := h.lt _ hb; omega
  ·have := h.lt _ hb; omega
  ·simp
   rcases hb with hb | rfl | rfl
   ·have := h.lt _ hb; omega
   ·omega
   ·omega
 have HE := Lib.hid (each_calls takerV k ((w.alloc (.cells #[.pointer (some ⟨p, 0, none⟩)] 32)).alloc (.cells #[.slice none 0 0] 43)) _ [] hR lv [f] (hl.frm hF2 fun _ _ _ => id) (fun g hg ho => (by
  have hlt := hl.inlt hg (by simp)
  rcases ho with ho | rfl | rfl
  ·exact hgl g hg ho
  ·omega
  ·omega)) (fun x hx => (by simp at hx; subst hx; exact hf)) hC m' o2 hr2)
 have HF2 := Lib.hid hF2
 have HLT := Lib.hid h.lt
 have Hn := Lib.hid hn
 obtain ⟨A, c, rfl, _⟩ := sees_slice hl
 clear h hC hf hl hgl hr hr2 hR hF2 hn
 go_enter Tryz.func28, Tryz.ntmps28
 go_wp2_with fail
 refine HE.out.mono ?_
 rintro e w3 ⟨rfl, own3, hR3, hM3⟩
 obtain ⟨sv, hbo, hV, hso⟩ := hR3.row
 have x1 : w3.cell? ⟨w.heap.size + 1, 0, none⟩ = some sv := blk_cell hbo 0
 have HR3 := Lib.hid hR3
 have HM3 := Lib.hid hM3
 have HV := Lib.hid hV
 have HSO := Lib.hid hso
 have HBO := Lib.hid hbo
 clear hR3 hM3 hV hso hbo
 go_wp2_with fail
 refine (sort_calls w3 sv o2 HV.out Hn.out).mono ?_
 rintro e w4 ⟨rfl, out', hp4, hV4, hF4⟩
 have x2 : w4.cell? ⟨w.heap.size + 1, 0, none⟩ = some sv := blk_cell (blk_frm HBO.out hF4 fun e => (HSO.out _ e).2.2.1 rfl) 0
 have HP4 := Lib.hid hp4
 have HV4 := Lib.hid hV4
 have HF4 := Lib.hid hF4
 clear hp4 hV4 hF4
 go_wp2
 go_ret
 have hge : ∀ g, sv.ownBlock = some g → w.heap.size ≤ g := fun g hg => by
  obtain ⟨h1, h2, h3, h4⟩ := HSO.out g hg
  rcases HM3.out.2.1 g h1 with h | h
  ·rcases h with h | h | h
   ·exact absurd h h2
   ·omega
   ·omega
  ·have := HF2.out.size; omega
 refine ⟨sv, out', rfl, HP4.out, HV4.out, HR3.out.pool.frm HF4.out fun b hb hs => (HSO.out b hs).2.1 hb, ⟨(((HF2.out.mono fun _ _ h => h.elim).trans HM3.out.1 fun b hb hs => ?_).trans HF4.out fun b hb hs => ?_), fun b hb => .inl hb, fun b cs hb => ?_⟩, hge⟩
 ·rcases hs with hs | hs | hs
  ·exact hs
  ·omega
  ·omega
 ·have := hge b hs; omega
 ·have h3 := HM3.out.2.2 b cs (kept_frm0 HF2.out b cs hb)
  refine blk_frm h3 HF4.out fun hs => ?_
  obtain ⟨cur, hc⟩ := own_elem HV.out hs
  rw [h3] at hc; simp at hc
end TmW
end Go.Proofs.YtbbajekecppioaaGreatDoor
