/- What the row's list of tables gives; a world for the witness. -/
import Derived.Test.YtbbajekecppioaaGreatDoorGa43
import Derived.Deep.DeepHandedRow
import Derived.Lib.LaidTab
set_option linter.unusedSimpArgs false
set_option linter.unusedVariables false
namespace Go.Proofs.YtbbajekecppioaaGreatDoor
open Go.RowKit Go.Mem Go.Wd Go.Tp Go.ChangeShapes Go.WideShapes Go.ChangeAt Go.Deep
namespace LawT
open TmW (Env Tabs tyCells)
theorem len27 {α : Type} : ∀ {l : List α}, l.length = 27 → ∃ c0 c1 c2 c3 c4 c5 c6 c7 c8 c9 c10 c11 c12 c13 c14 c15 c16 c17 c18 c19 c20 c21 c22 c23 c24 c25 c26, l = [c0, c1, c2, c3, c4, c5, c6, c7, c8, c9, c10, c11, c12, c13, c14, c15, c16, c17, c18, c19, c20, c21, c22, c23, c24, c25, c26]
 | [_, _, _, _, _, _, _, _, _, _, _, _, _, _, _, _, _, _, _, _, _, _, _, _, _, _, _], _ => ⟨_, _, _, _, _, _, _, _, _, _, _, _, _, _, _, _, _, _, _, _, _, _, _, _, _, _, _, rfl⟩
section
variable {H : Type} {enc : TypeId × Value → H} {w : World} {base : Nat} {spare : Nat → Bool} {held : Bool}
set_option maxRecDepth 100000 in
theorem named_read {fuel : Nat} {cs : List Value} {x : DataW H × List MemPlace} (h : DataW.trod enc Tryz.prog w base spare held fuel 117 cs = some x) : ∃ (k : Int) (z : Bool) (nm : ByteArray), cs = [.int .i64 k, .bool z, .string nm] ∧ x.1 = .agg [.agg [.lit (.int .i64 k), .lit (.bool z)], .lit (.string nm.data.toList)] := by
 obtain ⟨xs, n, _, hx, hcl, hlen, hat⟩ := DataW.trod_struct Tryz.underlying117 h
 have hc : Tryz.prog.cellsOf 117 = 3 := by kernel_rfl
 have hc2 : Tryz.prog.cellsOf 23 = 2 := by kernel_rfl
 have hc3 : Tryz.prog.cellsOf 3 = 1 := by kernel_rfl
 have hc4 : Tryz.prog.cellsOf 4 = 1 := by kernel_rfl
 have hc5 : Tryz.prog.cellsOf 9 = 1 := by kernel_rfl
 rw [hc] at hcl
 obtain ⟨a, b, c, rfl⟩ := len3 hcl
 obtain ⟨y0, y1, rfl⟩ := len2 hlen
 have h0 := hat 0 _ rfl
 have h1 := hat 1 _ rfl
 simp only [hc2, hc5, List.drop_zero, List.take_succ_cons, List.take_zero, List.drop_succ_cons, List.getElem?_cons_zero, List.getElem?_cons_succ] at h0 h1
 obtain ⟨nm, e1, x1, _⟩ := DataW.trod_string Tryz.underlying9 h1
 obtain ⟨zs, m, _, hy, hcl2, hlen2, hat2⟩ := DataW.trod_struct Tryz.underlying23 h0
 obtain ⟨z0, z1, rfl⟩ := len2 hlen2
 have g0 := hat2 0 _ rfl
 have g1 := hat2 1 _ rfl
 simp only [hc3, hc4, List.drop_zero, List.take_succ_cons, List.take_zero, List.drop_succ_cons, List.getElem?_cons_zero, List.getElem?_cons_succ] at g0 g1
 obtain ⟨k, e2, x2, _⟩ := DataW.trod_int Tryz.underlying3 g0
 obtain ⟨z, e3, x3⟩ := DataW.trod_bool Tryz.underlying4 g1
 cases e1; cases e2; cases e3
 refine ⟨k, z, nm, rfl, ?_⟩
 rw [hx]
 show DataW.agg [y0.1, y1.1] = _
 rw [x1, hy]
 show DataW.agg [DataW.agg [z0.1, z1.1], _] = _
 rw [x2, x3]
theorem bytes_of {nm : ByteArray} {l : List UInt8} (h : nm.data.toList = l) : nm = ⟨l.toArray⟩ := by
 subst h; simp
set_option maxRecDepth 100000 in
set_option maxHeartbeats 1000000 in
theorem types_read {fuel : Nat} {cs : List Value} {p : List MemPlace} (h : DataW.trod enc Tryz.prog w base spare held fuel 118 cs = some (Rows.laid_skua_word_types, p)) : cs = tyCells.toList := by
 obtain ⟨xs, n, _, hx, hcl, hlen, hat⟩ := DataW.trod_array Tryz.underlying118 h
 have hc : Tryz.prog.cellsOf 118 = 27 := by kernel_rfl
 have hc3 : Tryz.prog.cellsOf 117 = 3 := by kernel_rfl
 rw [hc] at hcl
 obtain ⟨c0, c1, c2, c3, c4, c5, c6, c7, c8, c9, c10, c11, c12, c13, c14, c15, c16, c17, c18, c19, c20, c21, c22, c23, c24, c25, c26, rfl⟩ := len27 hcl
 obtain ⟨y0, y1, y2, y3, y4, y5, y6, y7, y8, rfl⟩ := len9 hlen
 have hx1 : [y0.1, y1.1, y2.1, y3.1, y4.1, y5.1, y6.1, y7.1, y8.1] = _ := (DataW.agg.inj (congrArg (·.1) hx)).symm
 simp only [List.cons.injEq, and_true] at hx1
 obtain ⟨x0, x1, x2, x3, x4, x5, x6, x7, x8⟩ := hx1
 have h0 := hat 0 (by omega)
 simp only [hc3, Nat.reduceMul, List.drop_zero, List.take_succ_cons, List.take_zero, List.drop_succ_cons, List.getElem?_cons_zero, List.getElem?_cons_succ] at h0
 obtain ⟨k0, z0, n0, e0, f0⟩ := named_read h0
 rw [x0] at f0
 simp only [DataW.agg.injEq, List.cons.injEq, and_true, DataW.lit.injEq, Lit.int.injEq, Lit.bool.injEq, Lit.string.injEq, true_and] at f0 e0
 obtain ⟨⟨fa0, fb0⟩, fc0⟩ := f0
 obtain ⟨ea0, eb0, ec0⟩ := e0
 rw [← fa0] at ea0
 rw [← fb0] at eb0
 rw [bytes_of fc0.symm] at ec0
 have h1 := hat 1 (by omega)
 simp only [hc3, Nat.reduceMul, List.drop_zero, List.take_succ_cons, List.take_zero, List.drop_succ_cons, List.getElem?_cons_zero, List.getElem?_cons_succ] at h1
 obtain ⟨k1, z1, n1, e1, f1⟩ := named_read h1
 rw [x1] at f1
 simp only [DataW.agg.injEq, List.cons.injEq, and_true, DataW.lit.injEq, Lit.int.injEq, Lit.bool.injEq, Lit.string.injEq, true_and] at f1 e1
 obtain ⟨⟨fa1, fb1⟩, fc1⟩ := f1
 obtain ⟨ea1, eb1, ec1⟩ := e1
 rw [← fa1] at ea1
 rw [← fb1] at eb1
 rw [bytes_of fc1.symm] at ec1
 have h2 := hat 2 (by omega)
 simp only [hc3, Nat.reduceMul, List.drop_zero, List.take_succ_cons, List.take_zero, List.drop_succ_cons, List.getElem?_cons_zero, List.getElem?_cons_succ] at h2
 obtain ⟨k2, z2, n2, e2, f2⟩ := named_read h2
 rw [x2] at f2
 simp only [DataW.agg.injEq, List.cons.injEq, and_true, DataW.lit.injEq, Lit.int.injEq, Lit.bool.injEq, Lit.string.injEq, true_and] at f2 e2
 obtain ⟨⟨fa2, fb2⟩, fc2⟩ := f2
 obtain ⟨ea2, eb2, ec2⟩ := e2
 rw [← fa2] at ea2
 rw [← fb2] at eb2
 rw [bytes_of fc2.symm] at ec2
 have h3 := hat 3 (by omega)
 simp only [hc3, Nat.reduceMul, List.drop_zero, List.take_succ_cons, List.take_zero, List.drop_succ_cons, List.getElem?_cons_zero, List.getElem?_cons_succ] at h3
 obtain ⟨k3, z3, n3, e3, f3⟩ := named_read h3
 rw [x3] at f3
 simp only [DataW.agg.injEq, List.cons.injEq, and_true, DataW.lit.injEq, Lit.int.injEq, Lit.bool.injEq, Lit.string.injEq, true_and] at f3 e3
 obtain ⟨⟨fa3, fb3⟩, fc3⟩ := f3
 obtain ⟨ea3, eb3, ec3⟩ := e3
 rw [← fa3] at ea3
 rw [← fb3] at eb3
 rw [bytes_of fc3.symm] at ec3
 have h4 := hat 4 (by omega)
 simp only [hc3, Nat.reduceMul, List.drop_zero, List.take_succ_cons, List.take_zero, List.drop_succ_cons, List.getElem?_cons_zero, List.getElem?_cons_succ] at h4
 obtain ⟨k4, z4, n4, e4, f4⟩ := named_read h4
 rw [x4] at f4
 simp only [DataW.agg.injEq, List.cons.injEq, and_true, DataW.lit.injEq, Lit.int.injEq, Lit.bool.injEq, Lit.string.injEq, true_and] at f4 e4
 obtain ⟨⟨fa4, fb4⟩, fc4⟩ := f4
 obtain ⟨ea4, eb4, ec4⟩ := e4
 rw [← fa4] at ea4
 rw [← fb4] at eb4
 rw [bytes_of fc4.symm] at ec4
 have h5 := hat 5 (by omega)
 simp only [hc3, Nat.reduceMul, List.drop_zero, List.take_succ_cons, List.take_zero, List.drop_succ_cons, List.getElem?_cons_zero, List.getElem?_cons_succ] at h5
 obtain ⟨k5, z5, n5, e5, f5⟩ := named_read h5
 rw [x5] at f5
 simp only [DataW.agg.injEq, List.cons.injEq, and_true, DataW.lit.injEq, Lit.int.injEq, Lit.bool.injEq, Lit.string.injEq, true_and] at f5 e5
 obtain ⟨⟨fa5, fb5⟩, fc5⟩ := f5
 obtain ⟨ea5, eb5, ec5⟩ := e5
 rw [← fa5] at ea5
 rw [← fb5] at eb5
 rw [bytes_of fc5.symm] at ec5
 have h6 := hat 6 (by omega)
 simp only [hc3, Nat.reduceMul, List.drop_zero, List.take_succ_cons, List.take_zero, List.drop_succ_cons, List.getElem?_cons_zero, List.getElem?_cons_succ] at h6
 obtain ⟨k6, z6, n6, e6, f6⟩ := named_read h6
 rw [x6] at f6
 simp only [DataW.agg.injEq, List.cons.injEq, and_true, DataW.lit.injEq, Lit.int.injEq, Lit.bool.injEq, Lit.string.injEq, true_and] at f6 e6
 obtain ⟨⟨fa6, fb6⟩, fc6⟩ := f6
 obtain ⟨ea6, eb6, ec6⟩ := e6
 rw [← fa6] at ea6
 rw [← fb6] at eb6
 rw [bytes_of fc6.symm] at ec6
 have h7 := hat 7 (by omega)
 simp only [hc3, Nat.reduceMul, List.drop_zero, List.take_succ_cons, List.take_zero, List.drop_succ_cons, List.getElem?_cons_zero, List.getElem?_cons_succ] at h7
 obtain ⟨k7, z7, n7, e7, f7⟩ := named_read h7
 rw [x7] at f7
 simp only [DataW.agg.injEq, List.cons.injEq, and_true, DataW.lit.injEq, Lit.int.injEq, Lit.bool.injEq, Lit.string.injEq, true_and] at f7 e7
 obtain ⟨⟨fa7, fb7⟩, fc7⟩ := f7
 obtain ⟨ea7, eb7, ec7⟩ := e7
 rw [← fa7] at ea7
 rw [← fb7] at eb7
 rw [bytes_of fc7.symm] at ec7
 have h8 := hat 8 (by omega)
 simp only [hc3, Nat.reduceMul, List.drop_zero, List.take_succ_cons, List.take_zero, List.drop_succ_cons, List.getElem?_cons_zero, List.getElem?_cons_succ] at h8
 obtain ⟨k8, z8, n8, e8, f8⟩ := named_read h8
 rw [x8] at f8
 simp only [DataW.agg.injEq, List.cons.injEq, and_true, DataW.lit.injEq, Lit.int.injEq, Lit.bool.injEq, Lit.string.injEq, true_and] at f8 e8
 obtain ⟨⟨fa8, fb8⟩, fc8⟩ := f8
 obtain ⟨ea8, eb8, ec8⟩ := e8
 rw [← fa8] at ea8
 rw [← fb8] at eb8
 rw [bytes_of fc8.symm] at ec8
 rw [ea0, eb0, ec0, ea1, eb1, ec1, ea2, eb2, ec2, ea3, eb3, ec3, ea4, eb4, ec4, ea5, eb5, ec5, ea6, eb6, ec6, ea7, eb7, ec7, ea8, eb8, ec8]
 rfl
end
theorem g_types : Tryz.prog.globalNamed "skua/word.types" = some 0 := by kernel_rfl
theorem g_types_ty : (Tryz.prog.globals[0]?).map (·.type) = some 118 := by kernel_rfl
theorem g_pow_ty : (Tryz.prog.globals[1]?).map (·.type) = some 147 := by kernel_rfl
theorem pow_tab {H : Type} : (Rows.laid_internal_strconv_uint64pow10 : DataW H) = Lib.tabData .u64 Lib.pow10Tab := by
 rfl
/-- WHAT THE ROW's LIST GIVES. -/
theorem env_of {W : World} (h : laidMetH Tryz.prog [("math/bits.deBruijn32tab", Rows.laid_math_bits_deBruijn32tab), ("math/bits.deBruijn64tab", Rows.laid_math_bits_deBruijn64tab), ("internal/strconv.uint64pow10", Rows.laid_internal_strconv_uint64pow10), ("skua/word.types", Rows.laid_skua_word_types)] W) : Env W := by
 have h' : laidMet Tryz.prog [("math/bits.deBruijn32tab", Rows.laid_math_bits_deBruijn32tab), ("math/bits.deBruijn64tab", Rows.laid_math_bits_deBruijn64tab), ("internal/strconv.uint64pow10", Rows.laid_internal_strconv_uint64pow10), ("skua/word.types", Rows.laid_skua_word_types)] W := h
 obtain ⟨ps, ⟨_, _, _, _, _, _, _, _, _, _, ⟨_, _, _, _, _, _, _, _, _, _, ⟨g, t, cs, fuel, p, q, hg, ht, hvar, hd, ⟨g', t', cs', fuel', p', q', hg', ht', hvar', hd', _, _⟩, _⟩, _⟩, _⟩, _⟩ := h'
 obtain rfl := Option.some.inj (TmW.pow_at.symm.trans hg)
 obtain rfl := Option.some.inj (g_pow_ty.symm.trans ht)
 obtain rfl := Option.some.inj (g_types.symm.trans hg')
 obtain rfl := Option.some.inj (g_types_ty.symm.trans ht')
 refine ⟨?_, ?_⟩
 ·have h1 := types_read hd'
  have h2 : cs' = tyCells := by
   have := congrArg List.toArray h1
   simpa using this
  subst h2
  unfold World.var? at hvar'
  rw [g_types] at hvar'
  simp only [Option.bind_some] at hvar'
  split at hvar'
  ·rename_i c t z he
   cases hvar'
   exact ⟨_, _, he⟩
  ·cases hvar'
 ·unfold Lib.TabIs
  rw [pow_tab] at hd
  rw [hvar, ← Lib.cells_of_tab Tryz.underlying147 Tryz.underlying24 (by kernel_rfl) (by kernel_rfl) hd]
/-- The four tables, as they are laid. -/
def layIn (cs : Array Value) : Obj → Obj
 | .cells _ t frozen => .cells cs t frozen
 | o => o
noncomputable def laidWorld (os : Os) : World :=
 { World.holding Tryz.prog os ⟨#[], #[], []⟩ with heap := (((((World.holding Tryz.prog os ⟨#[], #[], []⟩).heap.modify 0 (layIn tyCells)).modify 1 (layIn (Lib.pow10Tab.map fun z => Value.int .u64 z).toArray)).modify 2 (layIn #[.int .u8 0, .int .u8 1, .int .u8 28, .int .u8 2, .int .u8 29, .int .u8 14, .int .u8 24, .int .u8 3, .int .u8 30, .int .u8 22, .int .u8 20, .int .u8 15, .int .u8 25, .int .u8 17, .int .u8 4, .int .u8 8, .int .u8 31, .int .u8 27, .int .u8 13, .int .u8 23, .int .u8 21, .int .u8 19, .int .u8 16, .int .u8 7, .int .u8 26, .int .u8 12, .int .u8 18, .int .u8 6, .int .u8 11, .int .u8 5, .int .u8 10, .int .u8 9])).modify 3 (layIn #[.int .u8 0, .int .u8 1, .int .u8 56, .int .u8 2, .int .u8 57, .int .u8 49, .int .u8 28, .int .u8 3, .int .u8 61, .int .u8 58, .int .u8 42, .int .u8 50, .int .u8 38, .int .u8 29, .int .u8 17, .int .u8 4, .int .u8 62, .int .u8 47, .int .u8 59, .int .u8 36, .int .u8 45, .int .u8 43, .int .u8 51, .int .u8 22, .int .u8 53, .int .u8 39, .int .u8 33, .int .u8 30, .int .u8 24, .int .u8 18, .int .u8 12, .int .u8 5, .int .u8 63, .int .u8 55, .int .u8 48, .int .u8 27, .int .u8 60, .int .u8 41, .int .u8 37, .int .u8 16, .int .u8 46, .int .u8 35, .int .u8 44, .int .u8 21, .int .u8 52, .int .u8 32, .int .u8 23, .int .u8 11, .int .u8 54, .int .u8 26, .int .u8 40, .int .u8 15, .int .u8 34, .int .u8 20, .int .u8 31, .int .u8 10, .int .u8 25, .int .u8 14, .int .u8 19, .int .u8 9, .int .u8 13, .int .u8 8, .int .u8 7, .int .u8 6])) }
/-- What comes in at the witness: a number, no variables. -/
def wit : Value := .agg #[.string .empty, .int .i64 0, .bool false, .int .u64 0, .int .i64 0, .bool false, .int .i64 0, .int .i64 0, .slice none 0 0, .slice none 0 0, .slice none 0 0]
theorem laid_met (os : Os) (args : Array Value) : laidMet Tryz.prog [("math/bits.deBruijn32tab", Rows.laid_math_bits_deBruijn32tab), ("math/bits.deBruijn64tab", Rows.laid_math_bits_deBruijn64tab), ("internal/strconv.uint64pow10", Rows.laid_internal_strconv_uint64pow10), ("skua/word.types", Rows.laid_skua_word_types)] ((laidWorld os).forCall (fun _ _ => 0) ⟨#[], args, []⟩).memory :=
 laidMet_of_run' 8 (by kernel_rfl) (by kernel_rfl)
theorem own_knob : ownKnob Tryz.prog.godebug = none := by kernel_rfl
section
variable {H : Type} {enc : TypeId × Value → H} {P : Program}
/-- The row's last step: below the heap's old end all is as it was. -/
theorem post_below {f : Func} {s : ChangeSpec} {apart fresh handsOn again : Bool} {W W' : World} {args : Array Value} {v : Value} {ds gs : List (DataW H)} {before pa pv : List MemPlace}
  (hW : DataW.Whole enc P f.params.toList s.vars apart W args.toList ds gs before)
  (hres : ∀ (b : Nat) (sp : Nat → Bool) (hd : Bool), DataW.TrodAll enc P W' b sp hd f.resultTypes.toList (v.resultList f.resultTypes.size) (s.fn H (ds ++ gs)).results [])
  (hargs : ∀ sp : Nat → Bool, (∀ p ∈ before, sp p.block = true) → DataW.TrodAll enc P W' 0 sp true f.params.toList args.toList (s.fn H (ds ++ gs)).args pa)
  (hvars : ∀ sp : Nat → Bool, (∀ p ∈ before, sp p.block = true) → DataW.TrodVars enc P W' sp s.vars (s.fn H (ds ++ gs)).vars pv)
  (hps : before = pa ++ pv) (hb : Below W.heap.size W W')
  (hok : ∀ (j : Nat) (t : TypeId) (r : Value), f.resultTypes[j]? = some t → (v.resultList f.resultTypes.size)[j]? = some r → Value.okWide P W' .any 0 t r) : s.post enc P f apart fresh handsOn again W args v W' := by
 have hlt := hW.lt
 have hold : ∀ p ∈ before, (fun b => decide (b < W.heap.size)) p.block = true := fun p hp => by simpa using hlt p hp
 refine ⟨ds, gs, before, [], pa, pv, hW, hres _ _ _, hargs _ hold, hvars _ hold, World.keptBut_mono (fun p hp => ⟨hp, .inr (by rw [hps, List.mem_append] at hp; exact hp)⟩) (hb.frame (· ∈ before)), fun _ => ?_⟩
 obtain ⟨_, _, _, _, _, hz, hn⟩ := hW
 refine ⟨hok, _, _, ([] ++ pa) ++ pv, ⟨[] ++ pa, pv, trodAll_append (hargs _ (fun _ _ => rfl)) (hres _ _ _), hvars _ (fun _ _ => rfl), rfl, fun b off hp => ?_, fun ha => ?_⟩, fun p hp _ => by rw [hps]; simpa using hp⟩
 ·have hin : MemPlace.cell b off ∈ before := by rw [hps]; simpa using hp
  rw [hb.frozen (hlt _ hin)]
  exact hz b off hin
 ·have := hn ha
  rw [hps] at this
  simpa using this
variable {W W' : World}
theorem trod_later : ∀ {ts : List TypeId} {vs : List Value} {ds : List (DataW H)} {p : List MemPlace} {P : Program} {sp : Nat → Bool}, DataW.TrodAll enc P W 0 sp true ts vs ds p → Below W.heap.size W W' → (∀ q ∈ p, q.block < W.heap.size) → DataW.TrodAll enc P W' 0 sp true ts vs ds p
 | [], [], [], _, _, _, h, _, _ => h
 | _ :: _, _ :: _, _ :: _, _, _, _, ⟨p1, p2, ⟨n, hn⟩, h2, e⟩, hb, hlt => ⟨p1, p2, ⟨n, DataW.trod_carry n _ _ _ hn fun q hq => hb.same (hlt q (by rw [e]; exact List.mem_append_left _ hq))⟩, trod_later h2 hb fun q hq => hlt q (by rw [e]; exact List.mem_append_right _ hq), e⟩
/-- The arguments, read again behind a call that leaves all that was there as it was. -/
theorem args_again {ts : List TypeId} (hts : ∀ t ∈ ts, t < Tryz.prog.types.size) {vs : List Value} {ds : List (DataW H)} {p : List MemPlace} (h : DataW.TrodAll enc Tryz.prog W 0 (fun _ => true) true ts vs ds p) (hb : Below W.heap.size W W') (sp : Nat → Bool) (hsp : ∀ q ∈ p, sp q.block = true) :
  DataW.TrodAll enc Tryz.prog W' 0 sp true ts vs ds p :=
 trod_later (DataW.TrodAll.respare (kids_rows (by kernel_rfl) (by kernel_rfl)) (slices_full_of Tryz.prog (by kernel_rfl)) hts h hsp) hb h.lt
end
end LawT
end Go.Proofs.YtbbajekecppioaaGreatDoor
