/- TermEvals walked. -/
import Derived.Test.YtbbajekecppioaaGreatDoorGa42
import Derived.Test.YtbbajekecppioaaGreatDoorRows
import Derived.Test.YtbbajekecppioaaGreatDoorChecked
import Derived.Deep.Slices
import Derived.Deep.Fields
import Derived.ChangeSame
import Derived.ChangeAlike
import Derived.ReadAgain
import Derived.Below
import Derived.ProofKit
import Derived.OpenShut
set_option linter.unusedSimpArgs false
set_option linter.unusedVariables false
namespace Go.Proofs.YtbbajekecppioaaGreatDoor
open Go.RowKit Go.Mem Go.Wd Go.Tp
namespace LawT
open TmW (frm_alloc frm_then frm_cellD frm_cell VRow PoolAt PMoves Env buildF typeX evalX TypesOk countX Built build_ok moves_pre New_calls)
open RfW (TreeV VarsIn IsIn)
/-- What comes in: a tree, its variables' types, and what they are. -/
structure Args (w : World) (lim : Nat) (a0 a1 a2 a3 a4 a5 a6 a7 a8 : Value) (VA IA : Option Addr) (VC IC : Nat) (x : Tree) (vs : List Ty) (is : List Nat) : Prop where
 tree : TreeV w lim (.agg #[a0, a1, a2, a3, a4, a5, a6, a7, a8]) x
 vars : VarsIn w lim (.slice VA vs.length VC) vs
 nums : IsIn w lim (.slice IA is.length IC) is
 most : countX x ≤ 4194304
section
variable {w w' : World} {lim : Nat} {a0 a1 a2 a3 a4 a5 a6 a7 a8 : Value} {VA IA : Option Addr} {VC IC : Nat} {x : Tree} {vs : List Ty} {is : List Nat}
theorem Args.frm (h : Args w lim a0 a1 a2 a3 a4 a5 a6 a7 a8 VA IA VC IC x vs is) (hf : ∀ b, b < lim → b < w.heap.size → w'.heap[b]? = w.heap[b]?) : Args w' lim a0 a1 a2 a3 a4 a5 a6 a7 a8 VA IA VC IC x vs is := ⟨tree_frm h.tree hf, h.vars.frm hf, h.nums.frm hf, h.most⟩
theorem Args.frm0 (h : Args w lim a0 a1 a2 a3 a4 a5 a6 a7 a8 VA IA VC IC x vs is) (hf : Frm (fun _ => False) w w') : Args w' lim a0 a1 a2 a3 a4 a5 a6 a7 a8 VA IA VC IC x vs is := h.frm fun b _ hb => hf.block b hb id
theorem Args.vl (h : Args w lim a0 a1 a2 a3 a4 a5 a6 a7 a8 VA IA VC IC x vs is) : vs.length ≤ maxLen := by obtain ⟨_, _, _, h, _⟩ := h.vars; exact h
theorem Args.il (h : Args w lim a0 a1 a2 a3 a4 a5 a6 a7 a8 VA IA VC IC x vs is) : is.length ≤ maxLen := by obtain ⟨_, _, _, h, _⟩ := h.nums; exact h
theorem Args.i64 (h : Args w lim a0 a1 a2 a3 a4 a5 a6 a7 a8 VA IA VC IC x vs is) : ∀ z ∈ is, z < 2 ^ 64 := by
 obtain ⟨_, _, _, _, h⟩ := h.nums
 intro z hz
 obtain ⟨i, hi, he⟩ := List.mem_iff_getElem.1 hz
 exact (h i z (by rw [List.getElem?_eq_getElem hi, he])).1
end
/-- A pool of the law's own beside what came in. -/
structure Lw (W wk : World) (own : Nat → Prop) (p : Nat) (s : TPool) (xb : Obj) : Prop where
 pool : PoolAt wk own p s
 low : ∀ b, own b → W.heap.size + 1 ≤ b
 frm : Frm (fun _ => False) W wk
 env : Env wk
 box : wk.heap[W.heap.size]? = some xb
section
variable {W wk w2 : World} {own own2 : Nat → Prop} {p : Nat} {s s2 : TPool} {xb : Obj}
theorem Lw.frm0 (h : Lw W wk own p s xb) (hf : Frm (fun _ => False) wk w2) : Lw W w2 own p s xb := ⟨h.pool.frm0 hf, h.low, frm_then h.frm hf, h.env.frm0 hf, blk_frm h.box hf id⟩
theorem Lw.step (h : Lw W wk own p s xb) (hP : PoolAt w2 own2 p s2) (hM : PMoves own wk own2 w2) : Lw W w2 own2 p s2 xb :=
 ⟨hP, fun b hb => (hM.2.1 b hb).elim (h.low b) fun hge => by have := lt_of_block h.box; omega, h.frm.trans hM.1 fun x hx ho => by have := h.low x ho; omega, TmW.Env.moves h.env hM h.pool.lo, blk_frm h.box hM.1 fun ho => by have := h.low _ ho; omega⟩
end
theorem Lw.cells {W wk : World} {own : Nat → Prop} {p : Nat} {s : TPool} {a0 a1 a2 a3 a4 a5 a6 a7 a8 : Value} {VA IA : Option Addr} {VC IC : Nat} {vs : List Ty} {is : List Nat} (h : Lw W wk own p s (.cells #[a0, a1, a2, a3, a4, a5, a6, a7, a8, .slice VA vs.length VC, .slice IA is.length IC] 31)) : wk.cell? ⟨W.heap.size, 0, none⟩ = some a0 ∧ wk.cell? ⟨W.heap.size, 1, none⟩ = some a1 ∧ wk.cell? ⟨W.heap.size, 2, none⟩ = some a2 ∧ wk.cell? ⟨W.heap.size, 3, none⟩ = some a3 ∧ wk.cell? ⟨W.heap.size, 4, none⟩ = some a4 ∧ wk.cell? ⟨W.heap.size, 5, none⟩ = some a5 ∧ wk.cell? ⟨W.heap.size, 6, none⟩ = some a6 ∧ wk.cell? ⟨W.heap.size, 7, none⟩ = some a7 ∧ wk.cell? ⟨W.heap.size, 8, none⟩ = some a8 ∧ wk.cell? ⟨W.heap.size, 9, none⟩ = some (.slice VA vs.length VC) ∧ wk.cell? ⟨W.heap.size, 10, none⟩ = some (.slice IA is.length IC) :=
 ⟨blk_cell h.box 0, blk_cell h.box 1, blk_cell h.box 2, blk_cell h.box 3, blk_cell h.box 4, blk_cell h.box 5, blk_cell h.box 6, blk_cell h.box 7, blk_cell h.box 8, blk_cell h.box 9, blk_cell h.box 10⟩
theorem ret_b {p : Bool} (h : p = true) : Ending.returned (.bool p) = .returned (.bool true) := by rw [h]
theorem few_iff (x : Tree) (vs : List Ty) (is : List Nat) : fewF x vs is = true ↔ countX x ≤ 60 ∧ vs.length ≤ 10 ∧ is.length = vs.length := by
 unfold fewF; simp
theorem types_empty (vs : List Ty) : TypesOk vs Go.Tp.empty := fun v t h => by cases h
set_option maxRecDepth 100000 in
set_option maxHeartbeats 4000000 in
theorem evals_walk (W : World) (hE : Env W) (a0 a1 a2 a3 a4 a5 a6 a7 a8 : Value) (VA IA : Option Addr) (VC IC : Nat) (x : Tree) (vs : List Ty) (is : List Nat) (hA : Args W W.heap.size a0 a1 a2 a3 a4 a5 a6 a7 a8 VA IA VC IC x vs is) :
  Calls Tryz.prog 3 #[.agg #[a0, a1, a2, a3, a4, a5, a6, a7, a8, .slice VA vs.length VC, .slice IA is.length IC]] W fun e w' => e = .returned (.bool true) ∧ Frm (fun _ => False) W w' := by
 have HE := Lib.hid hE
 have HA := Lib.hid hA
 have HF0 := Lib.hid (frm_alloc W (.cells #[a0, a1, a2, a3, a4, a5, a6, a7, a8, .slice VA vs.length VC, .slice IA is.length IC] 31))
 have HB0 := Lib.hid (blk_new (w := W) (.cells #[a0, a1, a2, a3, a4, a5, a6, a7, a8, .slice VA vs.length VC, .slice IA is.length IC] 31))
 have HN := Lib.hid (New_calls (W.alloc (.cells #[a0, a1, a2, a3, a4, a5, a6, a7, a8, .slice VA vs.length VC, .slice IA is.length IC] 31)) (hE.frm0 (frm_alloc W (.cells #[a0, a1, a2, a3, a4, a5, a6, a7, a8, .slice VA vs.length VC, .slice IA is.length IC] 31))))
 clear hE hA
 go_enter Tryz.func3, Tryz.ntmps3
 go_wp2_with fail
 refine HN.out.mono ?_
 rintro e w1 ⟨own0, p, rfl, hP, hlo, hf⟩
 have H0 := Lib.hid (show Lw W w1 own0 p Go.Tp.empty (.cells #[a0, a1, a2, a3, a4, a5, a6, a7, a8, .slice VA vs.length VC, .slice IA is.length IC] 31) from ⟨hP, fun b hb => by have := hlo b hb; simpa using this, frm_then HF0.out hf, HE.out.frm0 (frm_then HF0.out hf), blk_frm HB0.out hf id⟩)
 clear hP hlo hf HN
 go_wp2_with fail
 refine (awake_calls _ H0.out.env).mono ?_
 rintro e w2 ⟨rfl, hf⟩
 have H0 := Lib.hid (H0.out.frm0 hf)
 clear hf
 obtain ⟨c0, c1, c2, c3, c4, c5, c6, c7, c8, c9, c10⟩ := H0.out.cells
 go_wp2_with fail
 refine (few_calls W.heap.size _ a0 a1 a2 a3 a4 a5 a6 a7 a8 x vs is VA IA VC IC (HA.out.frm0 H0.out.frm).tree HA.out.most HA.out.vl HA.out.il).mono ?_
 rintro e w3 ⟨rfl, hf⟩
 have H0 := Lib.hid (H0.out.frm0 hf)
 clear hf
 cases hfew : fewF x vs is with
 | false =>
  clear c0 c1 c2 c3 c4 c5 c6 c7 c8 c9 c10 hfew
  go_wp2_with fail
  refine (awake_calls _ H0.out.env).mono ?_
  rintro e w4 ⟨rfl, hf⟩
  have HF := Lib.hid (frm_then H0.out.frm hf)
  clear hf
  go_wp2
  go_ret
  exact ⟨rfl, HF.out⟩
 | true =>
  obtain ⟨f1, f2, f3⟩ := (few_iff x vs is).1 hfew
  have Hf := Lib.hid (And.intro f1 (And.intro f2 f3))
  clear hfew f1 f2 f3 c0 c1 c2 c3 c4 c5 c6 c7 c8 c9 c10
  obtain ⟨c0, c1, c2, c3, c4, c5, c6, c7, c8, c9, c10⟩ := H0.out.cells
  have hlow : ∀ b, own0 b → W.heap.size ≤ b := fun b hb => Nat.le_trans (Nat.le_succ _) (H0.out.low b hb)
  have HBd := Lib.hid (Build_calls W.heap.size p vs (.slice VA vs.length VC) is (envOf vs is) env_get (countX x) x (Nat.le_refl _) w3 own0 Go.Tp.empty (fun _ => 0) (.agg #[a0, a1, a2, a3, a4, a5, a6, a7, a8]) H0.out.env H0.out.pool (TmW.good_empty _) (types_empty vs) hlow H0.out.frm.size (HA.out.frm0 H0.out.frm).tree (HA.out.frm0 H0.out.frm).vars (by have := Hf.out.1; show 0 + _ + _ < _; omega))
  have Hok := Lib.hid (build_ok vs is (envOf vs is) env_get x Go.Tp.empty (fun _ => 0) (TmW.good_empty _) (types_empty vs))
  obtain ⟨r, hr⟩ : ∃ r, r = buildF vs x Go.Tp.empty := ⟨_, rfl⟩
  rw [← hr] at HBd Hok
  obtain ⟨⟨f, er⟩, s2⟩ := r
  clear hr hlow
  go_wp2_with fail
  refine HBd.out.mono ?_
  rintro e w4 ⟨rfl, own4, hP, hM⟩
  have H4 := Lib.hid (H0.out.step hP hM)
  have H0lt := Lib.hid (show ∀ b, own4 b → b < w4.heap.size from hP.lt)
  clear hP hM HBd H0 c0 c1 c2 c3 c4 c5 c6 c7 c8 c9 c10
  obtain ⟨c0, c1, c2, c3, c4, c5, c6, c7, c8, c9, c10⟩ := H4.out.cells
  have HTy := Lib.hid (RfW.Type_calls W.heap.size vs (.slice VA vs.length VC) (countX x) x (Nat.le_refl _) HA.out.most w4 _ (HA.out.frm0 H4.out.frm).tree (HA.out.frm0 H4.out.frm).vars)
  go_wp2_with fail
  refine HTy.out.mono ?_
  rintro e w5 ⟨rfl, hf⟩
  have H5 := Lib.hid (H4.out.frm0 hf)
  have Hsz := Lib.hid hf.size
  clear hf HTy H4 c0 c1 c2 c3 c4 c5 c6 c7 c8 c9 c10
  cases hty : (typeX vs x).2 with
  | false =>
   obtain ⟨q1, q2⟩ := Hok.out.2 hty
   have HF5 := Lib.hid (H5.out.frm.alloc (.cells #[.int .i64 (typeX vs x).1.1, .bool (typeX vs x).1.2] 23))
   have q2 : f = 0 := q2
   have q1 : ¬ er = 0 := q1
   have hq1 : (er == 0) = false := by simpa using q1
   subst q2
   clear hty Hok
   go_wp2
   go_ret
   exact ⟨ret_b (by simp [q1]), HF5.out⟩
  | true =>
   have hB := Hok.out.1 hty
   obtain ⟨D, hG, _, hD⟩ := hB.came.out
   have HGd := Lib.hid (show TmW.Good (envOf vs is) s2 D ∧ D f = evalX vs is x ∧ TypesOk vs s2 ∧ TmW.inP s2 f = true ∧ TmW.typeF s2 f = (typeX vs x).1 from ⟨hG, hD, hB.types, hB.came.inn, hB.came.typ⟩)
   have he0 : er = 0 := hB.err
   subst he0
   obtain ⟨ty, hty2⟩ : ∃ ty, ty = (typeX vs x).1 := ⟨_, rfl⟩
   rw [← hty2] at HGd ⊢
   have Hty := Lib.hid hty
   have Hty2 := Lib.hid hty2
   clear hB hG hD hty2 Hok hty
   obtain ⟨c0, c1, c2, c3, c4, c5, c6, c7, c8, c9, c10⟩ := H5.out.cells
   have hz5 : W.heap.size < w5.heap.size := lt_of_block H5.out.box
   have HV := Lib.hid (values_calls W.heap.size (w5.alloc (.cells #[.int .i64 ty.1, .bool ty.2] 23)) a0 a1 a2 a3 a4 a5 a6 a7 a8 vs is VA IA VC IC (HA.out.frm0 (H5.out.frm.alloc _)).vars (HA.out.frm0 (H5.out.frm.alloc _)).nums Hf.out.2.1 Hf.out.2.2)
   go_wp2_with fail
   refine HV.out.mono ?_
   rintro e w6 ⟨vr, rfl, hvr, hf, hvo⟩
   have H6 := Lib.hid (H5.out.frm0 (frm_then (frm_alloc _ _) hf))
   have hb6 := Lib.hid (show w6.heap[w5.heap.size]? = some (.cells #[.int .i64 ty.1, .bool ty.2] 23) from blk_frm (blk_new _) hf id)
   have HEv := Lib.hid (told_eval H6.out.env H6.out.pool HGd.out.1 HGd.out.2.2.1 (by have := Hf.out.2.1; omega) HA.out.i64 HGd.out.2.2.2.1 vr hvr (fun g hg ho => by have h1 := hvo g hg; have h2 := H5.out.pool.lt g ho; simp at h1; omega))
   rw [HGd.out.2.1] at HEv
   clear hvr hf hvo HV H5 c0 c1 c2 c3 c4 c5 c6 c7 c8 c9 c10
   go_wp2_with fail
   refine HEv.out.mono ?_
   rintro e w7 ⟨rfl, hP, hM⟩
   have H7 := Lib.hid (H6.out.step hP hM)
   have hb7 := Lib.hid (show w7.heap[w5.heap.size]? = some (.cells #[.int .i64 ty.1, .bool ty.2] 23) from blk_frm hb6.out hM.1 fun ho => by have := H0lt.out _ ho; have := Hsz.out; omega)
   clear hP hM H6 HEv
   obtain ⟨c0, c1, c2, c3, c4, c5, c6, c7, c8, c9, c10⟩ := H7.out.cells
   have t0 : w7.cell? ⟨w5.heap.size, 0, none⟩ = some (.int .i64 ty.1) := blk_cell hb7.out 0
   have t1 : w7.cell? ⟨w5.heap.size, 1, none⟩ = some (.bool ty.2) := blk_cell hb7.out 1
   have HT7 := Lib.hid (fun w1 (hf : Frm (fun _ => False) w7 w1) => TmW.Type_calls (H7.out.pool.frm0 hf) f)
   rw [HGd.out.2.2.2.2] at HT7
   have HEx := Lib.hid (fun w1 (hf : Frm (fun _ => False) w7 w1) => RfW.Eval_calls W.heap.size vs is (.slice VA vs.length VC) (.slice IA is.length IC) Hf.out.2.2 (countX x) x (Nat.le_refl _) HA.out.most Hty.out w1 _ (HA.out.frm0 (frm_then H7.out.frm hf)).tree (HA.out.frm0 (frm_then H7.out.frm hf)).vars (HA.out.frm0 (frm_then H7.out.frm hf)).nums)
   generalize evalX vs is x = ev at *
   go_wp2_with fail
   refine Plan.wp_region_plan [0, 1, 3, 7, 7, 31, 7, 127, 255, 511, 1023, 2047, 4095, 8191, 16383, 16383, 49151, 16383, 147455, 16383, 540671, 2080767, 4194303, 8388607, 16777215] [.mk [0, 1, 2, 3, 4, 6] 5 [6], .mk [7, 8, 9, 10, 11, 12, 13, 14, 15, 16, 17, 18, 19, 20] 21 [14]] [22, 23, 24] (by kernel_rfl) (by kernel_rfl) ?_
   simp only [Plan.wayOf, Plan.pickAll, List.getElem?_cons_zero, List.getElem?_cons_succ, List.getD_eq_getElem?_getD, Option.getD_some]
   refine Plan.wpWay_seg ?_
   repeat go_big_quiet_step (fail)
   refine wpQuiet_nil ?_; refine Plan.wpWay_act ?_
   go_wp2_with fail
   refine (HT7.out _ (Frm.refl _ _).drew).mono ?_
   rintro e w8 ⟨rfl, hf⟩
   have hf8 := Lib.hid (show Frm (fun _ => False) w7 w8 from frm_then (Frm.refl _ _).drew hf)
   have c0 := frm_cell hf8.out c0
   have c1 := frm_cell hf8.out c1
   have c2 := frm_cell hf8.out c2
   have c3 := frm_cell hf8.out c3
   have c4 := frm_cell hf8.out c4
   have c5 := frm_cell hf8.out c5
   have c6 := frm_cell hf8.out c6
   have c7 := frm_cell hf8.out c7
   have c8 := frm_cell hf8.out c8
   have c9 := frm_cell hf8.out c9
   have c10 := frm_cell hf8.out c10
   have t0 := frm_cell hf8.out t0
   have t1 := frm_cell hf8.out t1
   clear hf
   go_wp2_with fail
   refine And.intro ?_ ?_; focus ((iterate 1 (refine Plan.again_cons ?_ ?_; focus (go_big_quiet_step (fail); exact wpQuiet_nil rfl))); exact Plan.again_nil)
   refine Plan.wpWay_seg ?_
   repeat go_big_quiet_step (fail)
   refine wpQuiet_nil ?_; refine Plan.wpWay_act ?_
   go_wp2_with fail
   refine (HEx.out _ hf8.out).mono ?_
   rintro e w9 ⟨rfl, hf⟩
   have hf9 := Lib.hid (frm_then hf8.out hf)
   clear hf
   go_wp2_with fail
   refine And.intro ?_ ?_; focus ((iterate 1 (refine Plan.again_cons ?_ ?_; focus (go_big_quiet_step (fail); exact wpQuiet_nil rfl))); exact Plan.again_nil)
   refine Plan.wpWay_last ?_
   repeat go_big_quiet_step (fail)
   refine wpQuiet_nil ?_; refine NoPanic.normal ?_
   go_wp2
   go_ret
   exact ⟨rfl, frm_then H7.out.frm hf9.out⟩
end LawT
end Go.Proofs.YtbbajekecppioaaGreatDoor
/- The arguments, opened: trees, their variables' types, and what they are. -/
namespace Go.Proofs.YtbbajekecppioaaGreatDoor
open Go.RowKit Go.Mem Go.Wd Go.Tp Go.ChangeShapes Go.WideShapes Go.Deep
namespace LawT
open TmW (is64 countX countL)
open RfW (TreeV TreeAt KidsAt VarsIn IsIn xcells)
theorem list_of {α : Type} {Q : Nat → α → Prop} : ∀ n : Nat, (∀ i, i < n → ∃ x, Q i x) → ∃ l : List α, l.length = n ∧ ∀ (i : Nat) x, l[i]? = some x → Q i x
 | 0, _ => ⟨[], rfl, fun i x hx => by simp at hx⟩
 | n + 1, h => by
  obtain ⟨l, hl, hq⟩ := list_of n fun i hi => h i (by omega)
  obtain ⟨x, hx⟩ := h n (by omega)
  refine ⟨l ++ [x], by simp [hl], fun i y hy => ?_⟩
  by_cases hi : i < n
  ·rw [List.getElem?_append_left (by omega)] at hy; exact hq i y hy
  ·have : i = n := by
    have := (List.getElem?_eq_some_iff.1 hy).1
    simp at this; omega
   subst this
   rw [List.getElem?_append_right (by omega), hl] at hy
   simp at hy; subst hy
   exact hx
theorem len2 {α : Type} : ∀ {l : List α}, l.length = 2 → ∃ a b, l = [a, b]
 | [a, b], _ => ⟨a, b, rfl⟩
theorem len3 {α : Type} : ∀ {l : List α}, l.length = 3 → ∃ a b c, l = [a, b, c]
 | [a, b, c], _ => ⟨a, b, c, rfl⟩
theorem len8 {α : Type} : ∀ {l : List α}, l.length = 8 → ∃ a0 a1 a2 a3 a4 a5 a6 a7, l = [a0, a1, a2, a3, a4, a5, a6, a7]
 | [_, _, _, _, _, _, _, _], _ => ⟨_, _, _, _, _, _, _, _, rfl⟩
theorem len9 {α : Type} : ∀ {l : List α}, l.length = 9 → ∃ a0 a1 a2 a3 a4 a5 a6 a7 a8, l = [a0, a1, a2, a3, a4, a5, a6, a7, a8]
 | [_, _, _, _, _, _, _, _, _], _ => ⟨_, _, _, _, _, _, _, _, _, rfl⟩
theorem len11 {α : Type} : ∀ {l : List α}, l.length = 11 → ∃ a0 a1 a2 a3 a4 a5 a6 a7 a8 a9 a10, l = [a0, a1, a2, a3, a4, a5, a6, a7, a8, a9, a10]
 | [_, _, _, _, _, _, _, _, _, _, _], _ => ⟨_, _, _, _, _, _, _, _, _, _, _, rfl⟩
theorem add_at {a : Addr} (h : a.spot = none) (j : Nat) : a.add j = ⟨a.block, a.off + j, none⟩ := by
 unfold Addr.add
 split
 ·rename_i h0; subst h0; cases a; simp_all
 ·rfl
section
variable {H : Type} {enc : TypeId × Value → H} {P : Program} {w : World} {base : Nat} {spare : Nat → Bool} {held : Bool}
theorem slice_read {t e : TypeId} {c fuel : Nat} {v : Value} {x : DataW H × List MemPlace} (ht : P.underlying t = some (.slice e)) (hc : P.cellsOf e = c) (hc0 : 0 < c) (h : DataW.trod enc P w base spare held fuel t [v] = some x) :
  ∃ (A : Option Addr) (len cap n : Nat) (elems : List (DataW H × List MemPlace)), fuel = n + 1 ∧ v = .slice A len cap ∧ len ≤ maxLen ∧ elems.length = len ∧ Rows.uptoBulkAll (elems.map (·.1)) + 1 ≤ Rows.uptoBulk x.1 ∧
   ∀ i, i < len → ∃ g o cs y, A = some ⟨g, o, none⟩ ∧ g < w.heap.size ∧ cs.length = c ∧ (∀ j, j < c → w.cell? ⟨g, o + i * c + j, none⟩ = cs[j]?) ∧ elems[i]? = some y ∧ DataW.trod enc P w base spare held n e cs = some y := by
 have hfuel : ∃ n, fuel = n + 1 := by
  cases fuel with
  | zero => simp [DataW.trod] at h
  | succ n => exact ⟨n, rfl⟩
 rcases DataW.trod_slice ht h with ⟨e1, e2⟩ | ⟨a, len, cap, elems, rest, n, hf, e1, e2, _, hl, hm, hlen, hat, _⟩
 ·cases e1
  obtain ⟨n, rfl⟩ := hfuel
  exact ⟨none, 0, 0, n, [], rfl, rfl, Nat.zero_le _, rfl, by rw [e2]; simp [Rows.uptoBulk, Rows.uptoBulkAll], fun i hi => by omega⟩
 ·cases e1
  refine ⟨some a, len, cap, n, elems, hf, rfl, by omega, hlen, by rw [e2]; simp only [Rows.uptoBulk]; omega, fun i hi => ?_⟩
  have h1 := hat i hi
  rw [List.getElem?_eq_getElem (by omega), hc] at h1
  obtain ⟨cs, hcs, htr⟩ := Option.bind_eq_some_iff.1 h1
  obtain ⟨_, hl2, hcell⟩ := World.cells?_some hcs
  have hs : a.spot = none := by
   have h0 := hat 0 (by omega)
   rw [List.getElem?_eq_getElem (by omega), hc] at h0
   obtain ⟨cs', hcs', _⟩ := Option.bind_eq_some_iff.1 h0
   obtain ⟨_, hl3, hcell'⟩ := World.cells?_some hcs'
   have := (hcell' 0 hc0).trans (List.getElem?_eq_getElem (by omega))
   simpa [Addr.add] using World.cell?_spot this
  have hat' : ∀ j, j < c → w.cell? ⟨a.block, a.off + i * c + j, none⟩ = cs[j]? := fun j hj => by
   have := hcell j hj
   rw [add_at hs, add_at rfl] at this
   exact this
  have h2 := (hat' 0 hc0).trans (List.getElem?_eq_getElem (by omega))
  refine ⟨a.block, a.off, cs, _, by cases a; simp_all, World.block_lt_of_cell? w ⟨a.block, a.off + i * c + 0, none⟩ h2, hl2, hat', List.getElem?_eq_getElem (by omega), htr⟩
theorem int_read {t : TypeId} {fuel : Nat} {cs : List Value} {x : DataW H × List MemPlace} (ht : P.underlying t = some (.int .i64)) (h : DataW.trod enc P w base spare held fuel t cs = some x) : ∃ k, cs = [.int .i64 k] ∧ is64 k := by
 obtain ⟨k, hk, _, hwf⟩ := DataW.trod_int ht h
 exact ⟨k, hk, by simpa [is64, Lit.wf, IntKind.min, IntKind.max, IntKind.signed, IntKind.bits] using hwf⟩
theorem u64_read {t : TypeId} {fuel : Nat} {cs : List Value} {x : DataW H × List MemPlace} (ht : P.underlying t = some (.int .u64)) (h : DataW.trod enc P w base spare held fuel t cs = some x) : ∃ k : Nat, cs = [.int .u64 k] ∧ k < 2 ^ 64 := by
 obtain ⟨k, hk, _, hwf⟩ := DataW.trod_int ht h
 have : 0 ≤ k ∧ k ≤ 18446744073709551615 := by simpa [Lit.wf, IntKind.min, IntKind.max, IntKind.signed, IntKind.bits] using hwf
 refine ⟨k.toNat, ?_, by omega⟩
 rw [hk, show ((k.toNat : Nat) : Int) = k by omega]
end
section
variable {H : Type} {enc : TypeId × Value → H} {w : World} {base : Nat} {spare : Nat → Bool} {held : Bool}
set_option maxRecDepth 100000 in
theorem type_read {fuel : Nat} {cs : List Value} {x : DataW H × List MemPlace} (h : DataW.trod enc Tryz.prog w base spare held fuel 23 cs = some x) : ∃ t : Ty, cs = [.int .i64 t.1, .bool t.2] ∧ is64 t.1 := by
 obtain ⟨xs, n, _, _, hcl, hlen, hat⟩ := DataW.trod_struct Tryz.underlying23 h
 have hc : Tryz.prog.cellsOf 23 = 2 := by kernel_rfl
 have hc3 : Tryz.prog.cellsOf 3 = 1 := by kernel_rfl
 have hc4 : Tryz.prog.cellsOf 4 = 1 := by kernel_rfl
 rw [hc] at hcl
 obtain ⟨a, b, rfl⟩ := len2 hcl
 obtain ⟨y0, y1, rfl⟩ := len2 hlen
 have h0 := hat 0 _ rfl
 have h1 := hat 1 _ rfl
 simp only [hc3, hc4, List.drop_zero, List.take_succ_cons, List.take_zero, List.drop_succ_cons, List.getElem?_cons_zero, List.getElem?_cons_succ] at h0 h1
 obtain ⟨k, hk, hi⟩ := int_read Tryz.underlying3 h0
 obtain ⟨z, hz, _⟩ := DataW.trod_bool Tryz.underlying4 h1
 cases hk
 cases hz
 exact ⟨(k, z), rfl, hi⟩
theorem vars_read {fuel : Nat} {v : Value} {x : DataW H × List MemPlace} (h : DataW.trod enc Tryz.prog w base spare held fuel 28 [v] = some x) : ∃ A c vs, v = .slice A vs.length c ∧ VarsIn w w.heap.size v vs := by
 obtain ⟨A, len, cap, n, elems, _, rfl, hm, hlen, _, hat⟩ := slice_read (c := 2) Tryz.underlying28 (by kernel_rfl) (by omega) h
 obtain ⟨vs, hl, hq⟩ := list_of (Q := fun i (u : Ty) => is64 u.1 ∧ ∃ g o, A = some ⟨g, o, none⟩ ∧ g < w.heap.size ∧ w.cell? ⟨g, o + i * 2, none⟩ = some (.int .i64 u.1) ∧ w.cell? ⟨g, o + i * 2 + 1, none⟩ = some (.bool u.2)) len fun i hi => by
  obtain ⟨g, o, cs, y, e, hg, hcl, hcs, _, htr⟩ := hat i hi
  obtain ⟨t, rfl, ht⟩ := type_read htr
  exact ⟨t, ht, g, o, e, hg, hcs 0 (by omega), hcs 1 (by omega)⟩
 subst hl
 exact ⟨A, cap, vs, rfl, A, cap, rfl, hm, hq⟩
theorem nums_read {fuel : Nat} {v : Value} {x : DataW H × List MemPlace} (h : DataW.trod enc Tryz.prog w base spare held fuel 29 [v] = some x) : ∃ A c is, v = .slice A is.length c ∧ IsIn w w.heap.size v is := by
 obtain ⟨A, len, cap, n, elems, _, rfl, hm, hlen, _, hat⟩ := slice_read (c := 1) Tryz.underlying29 (by kernel_rfl) (by omega) h
 obtain ⟨vs, hl, hq⟩ := list_of (Q := fun i (u : Nat) => u < 2 ^ 64 ∧ ∃ g o, A = some ⟨g, o, none⟩ ∧ g < w.heap.size ∧ w.cell? ⟨g, o + i, none⟩ = some (.int .u64 u)) len fun i hi => by
  obtain ⟨g, o, cs, y, e, hg, hcl, hcs, _, htr⟩ := hat i hi
  obtain ⟨t, rfl, ht⟩ := u64_read Tryz.underlying24 htr
  have := hcs 0 (by omega)
  rw [Nat.mul_one] at this
  exact ⟨t, ht, g, o, e, hg, this⟩
 subst hl
 exact ⟨A, cap, vs, rfl, A, cap, rfl, hm, hq⟩
/-- A tree's cells. -/
def TreeC (w : World) (lim : Nat) (cs : List Value) : Tree → Prop
 | .mk op t num v kids => num < 2 ^ 64 ∧ op.size ≤ 140737488355328 ∧ (is64 t.1 ∧ is64 v) ∧ ∃ gl ln cl A c, cs = (xcells op t num v gl ln cl (.slice A kids.length c)).toList ∧ kids.length ≤ maxLen ∧ KidsAt w lim A 0 kids
theorem TreeC.at {lim g o : Nat} {cs : List Value} {x : Tree} (h : TreeC w lim cs x) (hg : g < lim) (hc : ∀ j, j < 9 → w.cell? ⟨g, o + j, none⟩ = cs[j]?) : TreeAt w lim g o x := by
 obtain ⟨op, t, num, v, kids⟩ := x
 obtain ⟨h2, h3, h4, gl, ln, cl, A, c, h5, h6, h7⟩ := h
 refine ⟨hg, h2, h3, h4, gl, ln, cl, A, c, fun j y hj => ?_, h6, h7⟩
 have hlt : j < 9 := by
  have := (Array.getElem?_eq_some_iff.1 hj).1
  simpa [xcells] using this
 rw [hc j hlt, h5, Array.getElem?_toList]
 exact hj
theorem TreeC.v {lim : Nat} {cs : List Value} {x : Tree} (h : TreeC w lim cs x) : TreeV w lim (.agg cs.toArray) x := by
 obtain ⟨op, t, num, v, kids⟩ := x
 obtain ⟨h2, h3, h4, gl, ln, cl, A, c, h5, h6, h7⟩ := h
 exact ⟨h2, h3, h4, gl, ln, cl, A, c, by rw [h5], h6, h7⟩
theorem TreeC.len {lim : Nat} {cs : List Value} {x : Tree} (h : TreeC w lim cs x) : cs.length = 9 := by
 obtain ⟨op, t, num, v, kids⟩ := x
 obtain ⟨h2, h3, h4, gl, ln, cl, A, c, h5, h6, h7⟩ := h
 rw [h5]; rfl
theorem kids_of {lim : Nat} {A : Option Addr} : ∀ (l : List Tree) (i : Nat), (∀ (k : Nat) x, l[k]? = some x → ∃ g o, A = some ⟨g, o, none⟩ ∧ TreeAt w lim g (o + (i + k) * 9) x) → KidsAt w lim A i l
 | [], _, _ => trivial
 | x :: r, i, h => ⟨h 0 x rfl, kids_of r (i + 1) fun k y hy => by
  have := h (k + 1) y (by simpa using hy)
  rw [show i + (k + 1) = i + 1 + k by omega] at this
  exact this⟩
theorem count_of {H : Type} : ∀ (l : List Tree) (ds : List (DataW H)), l.length = ds.length → (∀ (i : Nat) x d, l[i]? = some x → ds[i]? = some d → countX x ≤ Rows.uptoBulk d) → countL l ≤ Rows.uptoBulkAll ds
 | [], _, _, _ => by simp [countL]
 | x :: r, [], h, _ => by simp at h
 | x :: r, d :: ds, h, hq => by
  have h1 := hq 0 x d rfl rfl
  have h2 := count_of r ds (by simpa using h) fun i y e hy he => hq (i + 1) y e (by simpa using hy) (by simpa using he)
  simp only [countL, Rows.uptoBulkAll]
  omega
theorem bulk_mem {H : Type} : ∀ (ds : List (DataW H)) (i : Nat) d, ds[i]? = some d → Rows.uptoBulk d ≤ Rows.uptoBulkAll ds
 | [], i, d, h => by simp at h
 | x :: r, 0, d, h => by simp at h; subst h; simp only [Rows.uptoBulkAll]; omega
 | x :: r, i + 1, d, h => by
  have := bulk_mem r i d (by simpa using h)
  simp only [Rows.uptoBulkAll]; omega
set_option maxRecDepth 100000 in
theorem tree_read : ∀ (fuel : Nat) {cs : List Value} {x : DataW H × List MemPlace}, DataW.trod enc Tryz.prog w base spare held fuel 27 cs = some x → Rows.uptoBulk x.1 ≤ 140737488355328 → ∃ T, TreeC w w.heap.size cs T ∧ countX T ≤ Rows.uptoBulk x.1 := by
 intro fuel
 induction fuel using Nat.strongRecOn with
 | _ fuel ih =>
  intro cs x h hb
  obtain ⟨xs, n, hfn, hx, hcl, hlen, hat⟩ := DataW.trod_struct Tryz.underlying27 h
  have hc : Tryz.prog.cellsOf 27 = 9 := by kernel_rfl
  have hc2 : Tryz.prog.cellsOf 23 = 2 := by kernel_rfl
  have hc3 : Tryz.prog.cellsOf 3 = 1 := by kernel_rfl
  have hc4 : Tryz.prog.cellsOf 4 = 1 := by kernel_rfl
  have hc5 : Tryz.prog.cellsOf 9 = 1 := by kernel_rfl
  have hc6 : Tryz.prog.cellsOf 24 = 1 := by kernel_rfl
  have hc7 : Tryz.prog.cellsOf 25 = 1 := by kernel_rfl
  rw [hc] at hcl
  obtain ⟨a0, a1, a2, a3, a4, a5, a6, a7, a8, rfl⟩ := len9 hcl
  obtain ⟨y0, y1, y2, y3, y4, y5, y6, y7, rfl⟩ := len8 hlen
  have h0 := hat 0 _ rfl
  have h1 := hat 1 _ rfl
  have h2 := hat 2 _ rfl
  have h3 := hat 3 _ rfl
  have h4 := hat 4 _ rfl
  have h5 := hat 5 _ rfl
  have h6 := hat 6 _ rfl
  have h7 := hat 7 _ rfl
  simp only [hc2, hc3, hc4, hc5, hc6, hc7, List.drop_zero, List.take_succ_cons, List.take_zero, List.drop_succ_cons, List.getElem?_cons_zero, List.getElem?_cons_succ] at h0 h1 h2 h3 h4 h5 h6 h7
  clear hat
  obtain ⟨op, e0, hx0, _⟩ := DataW.trod_string Tryz.underlying9 h0
  obtain ⟨t, e1, ht⟩ := type_read h1
  obtain ⟨num, e2, hnum⟩ := u64_read Tryz.underlying24 h2
  obtain ⟨vv, e3, hvv⟩ := int_read Tryz.underlying3 h3
  obtain ⟨gl, e4, _⟩ := DataW.trod_bool Tryz.underlying4 h4
  obtain ⟨ln, e5, _⟩ := int_read Tryz.underlying3 h5
  obtain ⟨cl, e6, _⟩ := int_read Tryz.underlying3 h6
  obtain ⟨A, len, cap, m, elems, hm, e7, hml, hel, hbk, hek⟩ := slice_read (c := 9) Tryz.underlying25 hc (by omega) h7
  have hx1 : x.1 = .agg [y0.1, y1.1, y2.1, y3.1, y4.1, y5.1, y6.1, y7.1] := by rw [hx]; rfl
  have hbx : Rows.uptoBulk x.1 = Rows.uptoBulk y0.1 + Rows.uptoBulk y1.1 + Rows.uptoBulk y2.1 + Rows.uptoBulk y3.1 + Rows.uptoBulk y4.1 + Rows.uptoBulk y5.1 + Rows.uptoBulk y6.1 + Rows.uptoBulk y7.1 + 1 := by
   rw [hx1]; simp only [Rows.uptoBulk, Rows.uptoBulkAll]; omega
  have hop : Rows.uptoBulk y0.1 = op.size + 1 := by
   rw [hx0]; simp only [Rows.uptoBulk, Array.length_toList]; rfl
  obtain ⟨kids, hkl, hkq⟩ := list_of (Q := fun i (T : Tree) => ∃ y, elems[i]? = some y ∧ countX T ≤ Rows.uptoBulk y.1 ∧ ∃ g o, A = some ⟨g, o, none⟩ ∧ TreeAt w w.heap.size g (o + (0 + i) * 9) T) len fun i hi => by
   obtain ⟨g, o, cs, y, e, hg, hcl, hcs, hy, htr⟩ := hek i hi
   have hle := bulk_mem (elems.map (·.1)) i y.1 (by simp [hy])
   obtain ⟨T, hT, hct⟩ := ih m (by omega) htr (by omega)
   exact ⟨T, y, hy, hct, g, o, e, hT.at hg (by rw [Nat.zero_add]; exact hcs)⟩
  have hcnt := count_of kids (elems.map (·.1)) (by simp [hkl, hel]) fun i T d hT hd => by
   obtain ⟨y, hy, hct, _⟩ := hkq i T hT
   simp only [List.getElem?_map, hy, Option.map_some, Option.some.injEq] at hd
   subst hd
   exact hct
  subst hkl
  cases e0; cases e1; cases e2; cases e3; cases e4; cases e5; cases e6; cases e7

  refine ⟨.mk op t num vv kids, ⟨hnum, by omega, ⟨ht, hvv⟩, gl, ln, cl, A, cap, ?_, hml, kids_of kids 0 fun k T hT => (hkq k T hT).elim fun _ h => h.2.2⟩, ?_⟩
  ·rfl
  ·rw [countX]; omega

set_option maxRecDepth 100000 in
theorem args_read {d : DataW H} {p : List MemPlace} {v : Value} (hok : ∃ cs, v = .agg cs ∧ cs.size = Tryz.prog.cellsOf 31) (h : DataW.Trod enc Tryz.prog w base spare held 31 v d p) (hb : Rows.uptoBulk d ≤ 1048576) :
  ∃ a0 a1 a2 a3 a4 a5 a6 a7 a8 VA IA VC IC x vs is, v = .agg #[a0, a1, a2, a3, a4, a5, a6, a7, a8, .slice VA (List.length vs) VC, .slice IA (List.length is) IC] ∧ Args w w.heap.size a0 a1 a2 a3 a4 a5 a6 a7 a8 VA IA VC IC x vs is := by
 obtain ⟨cs, rfl, hcs⟩ := hok
 obtain ⟨fuel, h⟩ := h
 rw [show (Value.agg cs).cells = cs from rfl] at h
 obtain ⟨xs, n, _, hx, hcl, hlen, hat⟩ := DataW.trod_struct Tryz.underlying31 h
 have hc : Tryz.prog.cellsOf 31 = 11 := by kernel_rfl
 have hc2 : Tryz.prog.cellsOf 27 = 9 := by kernel_rfl
 have hc3 : Tryz.prog.cellsOf 28 = 1 := by kernel_rfl
 have hc4 : Tryz.prog.cellsOf 29 = 1 := by kernel_rfl
 rw [hc] at hcl
 obtain ⟨l, rfl⟩ : ∃ l : List Value, cs = l.toArray := ⟨cs.toList, by simp⟩
 rw [List.toList_toArray] at hcl hat
 obtain ⟨a0, a1, a2, a3, a4, a5, a6, a7, a8, a9, a10, rfl⟩ := len11 hcl
 obtain ⟨y0, y1, y2, rfl⟩ := len3 hlen
 have h0 := hat 0 _ rfl
 have h1 := hat 1 _ rfl
 have h2 := hat 2 _ rfl
 simp only [hc2, hc3, hc4, List.drop_zero, List.take_succ_cons, List.take_zero, List.drop_succ_cons, List.getElem?_cons_zero, List.getElem?_cons_succ] at h0 h1 h2
 clear hat
 have hbx : Rows.uptoBulk d = Rows.uptoBulk y0.1 + Rows.uptoBulk y1.1 + Rows.uptoBulk y2.1 + 1 := by
  rw [show d = .agg [y0.1, y1.1, y2.1] from congrArg (·.1) hx]; simp only [Rows.uptoBulk, Rows.uptoBulkAll]; omega
 obtain ⟨T, hT, hct⟩ := tree_read n h0 (by omega)
 obtain ⟨VA, VC, vs, rfl, hvs⟩ := vars_read h1
 obtain ⟨IA, IC, is, rfl, his⟩ := nums_read h2
 exact ⟨a0, a1, a2, a3, a4, a5, a6, a7, a8, VA, IA, VC, IC, T, vs, is, rfl, hT.v, hvs, his, by omega⟩
end
end LawT
end Go.Proofs.YtbbajekecppioaaGreatDoor
