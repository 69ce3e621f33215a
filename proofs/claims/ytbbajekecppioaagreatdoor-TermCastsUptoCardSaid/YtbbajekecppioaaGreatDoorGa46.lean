/- TermCasts: a term as one of a wider type, and back, is what it is; to bool it is whether it is not nought. Where what comes in is of bulk at most 1048576. -/
import Derived.Test.YtbbajekecppioaaGreatDoorGa43
import Derived.Test.YtbbajekecppioaaGreatDoorGa44
import Derived.Test.YtbbajekecppioaaGreatDoorCards
import Derived.Test.YtbbajekecppioaaGreatDoorTie
import Derived.WalkKit
set_option linter.unusedSimpArgs false
set_option linter.unusedVariables false
/- TermCasts walked. -/
namespace Go.Proofs.YtbbajekecppioaaGreatDoor
open Go.RowKit Go.Mem Go.Wd Go.Tp
namespace LawT
open TmW (frm_alloc frm_then frm_cellD frm_cell VRow PoolAt PMoves Env buildF typeX evalX TypesOk countX Built build_ok moves_pre New_calls inP typeF CastF PCast_calls cast_done)
open RfW (TreeV VarsIn IsIn)
structure Casts (vs : List Ty) (e : Int → Nat) (s : TPool) (D : Int → Nat) (to : Ty) (f : Int) (r3 r4 r5 : (Int × Int) × TPool) : Prop where
  e3 : r3.1.2 = 0
  e4 : r4.1.2 = 0
  e5 : r5.1.2 = 0
  g3 : ∃ D3, TmW.Good e r3.2 D3
  g4 : ∃ D4, TmW.Good e r4.2 D4
  l3 : r3.2.l.length ≤ s.l.length + 2
  l4 : r4.2.l.length ≤ s.l.length + 4
  fin : ∃ D5, TmW.Good e r5.2 D5 ∧ D5 f = D f ∧ D5 r4.1.1 = min (D f) 1 ∧ ((typeF s f).1 ≤ to.1 → D5 r5.1.1 = D f)
  types : TypesOk vs r5.2
  if5 : inP r5.2 f = true
  ib5 : inP r5.2 r4.1.1 = true
  ik5 : inP r5.2 r5.1.1 = true
  tg : typeF r5.2 r3.1.1 = to
  tf : typeF r5.2 f = typeF s f
theorem casts_plain {vs : List Ty} {e : Int → Nat} {s : TPool} {D : Int → Nat} (hG : TmW.Good e s D) (hT : TypesOk vs s) {to : Ty} (hr : rightF to = true) {f : Int} (hf : inP s f = true) (r3 r4 r5 : (Int × Int) × TPool) (h3 : r3 = CastF s to f) (h4 : r4 = CastF r3.2 (1, false) f) (h5 : r5 = CastF r4.2 (typeF s f) r3.1.1) : Casts vs e s D to f r3 r4 r5 ∧ typeF r4.2 f = typeF s f := by
  have d3 := cast_done hG hr hf
  rw [← h3] at d3
  obtain ⟨D3, G3, W3, v3⟩ := d3.came.out
  have f3 := W3.inp hf
  have t3 := W3.typ hf
  have d4 := cast_done G3 (t := (1, false)) TmW.right_bool f3
  rw [← h4] at d4
  obtain ⟨D4, G4, W4, v4⟩ := d4.came.out
  have f4 := W4.inp f3
  have t4 : typeF r4.2 f = typeF s f := (W4.typ f3).trans t3
  have g4 := W4.inp d3.came.inn
  have d5 := cast_done G4 (hG.right hf) g4
  rw [← h5] at d5
  obtain ⟨D5, G5, W5, v5⟩ := d5.came.out
  have hlt := hG.lt hf
  refine ⟨⟨d3.err, d4.err, d5.err, ⟨D3, G3⟩, ⟨D4, G4⟩, d3.len, by have := d3.len; have := d4.len; omega, ⟨D5, G5, ?_, ?_, fun hle => ?_⟩, ?_, W5.inp f4, W5.inp d4.came.inn, d5.came.inn, ?_, (W5.typ f4).trans t4⟩, t4⟩
  · rw [W5.den f f4, W4.den f f3, W3.den f hf]
  · rw [W5.den _ d4.came.inn, v4, t3, W3.den f hf, TmW.cast_bool (hG.right hf) hlt]
  · rw [v5, W4.typ d3.came.inn, d3.came.typ, W4.den _ d3.came.inn, v3]
    exact TmW.cast_back (hG.right hf) hr hlt hle
  · exact ((hT.of d3.types).of d4.types).of d5.types
  · rw [W5.typ g4, W4.typ d3.came.inn]; exact d3.came.typ
theorem field_w (a : Int) (b : Bool) (w : World) : (Instr.field 23 (.agg #[.int .i64 a, .bool b]) 0).run Tryz.prog w = .ok (.int .i64 a) w := by kernel_rfl
/-- Two boxes of the call's own below the pool. -/
structure Lc (W wk : World) (own : Nat → Prop) (p : Nat) (s : TPool) (xb tb : Obj) : Prop where
  lw : Lw W wk own p s xb
  box2 : wk.heap[W.heap.size + 1]? = some tb
  low2 : ∀ b, own b → W.heap.size + 2 ≤ b
section
variable {W wk w2 : World} {own own2 : Nat → Prop} {p : Nat} {s s2 : TPool} {xb tb : Obj}
theorem Lc.frm0 (h : Lc W wk own p s xb tb) (hf : Frm (fun _ => False) wk w2) : Lc W w2 own p s xb tb := ⟨h.lw.frm0 hf, blk_frm h.box2 hf id, h.low2⟩
theorem Lc.step (h : Lc W wk own p s xb tb) (hP : PoolAt w2 own2 p s2) (hM : PMoves own wk own2 w2) : Lc W w2 own2 p s2 xb tb :=
  ⟨h.lw.step hP hM, blk_frm h.box2 hM.1 fun ho => by have := h.low2 _ ho; omega, fun b hb => (hM.2.1 b hb).elim (h.low2 b) fun hge => by have := lt_of_block h.box2; omega⟩
end
set_option maxRecDepth 100000 in
set_option maxHeartbeats 4000000 in
theorem casts_walk (W : World) (hE : Env W) (a0 a1 a2 a3 a4 a5 a6 a7 a8 : Value) (VA IA : Option Addr) (VC IC : Nat) (x : Tree) (vs : List Ty) (is : List Nat) (hA : Args W W.heap.size a0 a1 a2 a3 a4 a5 a6 a7 a8 VA IA VC IC x vs is) (to : Ty) :
    Calls Tryz.prog 4 #[.agg #[a0, a1, a2, a3, a4, a5, a6, a7, a8, .slice VA vs.length VC, .slice IA is.length IC], .agg #[.int .i64 to.1, .bool to.2]] W fun e w' => e = .returned (.bool true) ∧ Frm (fun _ => False) W w' := by
  have HE := Lib.hid hE
  have HA := Lib.hid hA
  have HF0 := Lib.hid ((frm_alloc W (.cells #[a0, a1, a2, a3, a4, a5, a6, a7, a8, .slice VA vs.length VC, .slice IA is.length IC] 31)).alloc (.cells #[.int .i64 to.1, .bool to.2] 23))
  have HB0 := Lib.hid (show ((W.alloc (.cells #[a0, a1, a2, a3, a4, a5, a6, a7, a8, .slice VA vs.length VC, .slice IA is.length IC] 31)).alloc (.cells #[.int .i64 to.1, .bool to.2] 23)).heap[W.heap.size]? = some (.cells #[a0, a1, a2, a3, a4, a5, a6, a7, a8, .slice VA vs.length VC, .slice IA is.length IC] 31) from blk_alloc (blk_new (w := W) (.cells #[a0, a1, a2, a3, a4, a5, a6, a7, a8, .slice VA vs.length VC, .slice IA is.length IC] 31)) _)
  have HB1 := Lib.hid (show ((W.alloc (.cells #[a0, a1, a2, a3, a4, a5, a6, a7, a8, .slice VA vs.length VC, .slice IA is.length IC] 31)).alloc (.cells #[.int .i64 to.1, .bool to.2] 23)).heap[W.heap.size + 1]? = some (.cells #[.int .i64 to.1, .bool to.2] 23) from by have := blk_new (w := W.alloc (.cells #[a0, a1, a2, a3, a4, a5, a6, a7, a8, .slice VA vs.length VC, .slice IA is.length IC] 31)) (.cells #[.int .i64 to.1, .bool to.2] 23); simpa using this)
  have HN := Lib.hid (New_calls ((W.alloc (.cells #[a0, a1, a2, a3, a4, a5, a6, a7, a8, .slice VA vs.length VC, .slice IA is.length IC] 31)).alloc (.cells #[.int .i64 to.1, .bool to.2] 23)) (hE.frm0 HF0.out))
  clear hE hA
  go_enter Tryz.func4, Tryz.ntmps4
  go_wp2_with fail
  refine HN.out.mono ?_
  rintro e w1 ⟨own0, p, rfl, hP, hlo, hf⟩
  have HL := Lib.hid (show Lc W w1 own0 p Go.Tp.empty (.cells #[a0, a1, a2, a3, a4, a5, a6, a7, a8, .slice VA vs.length VC, .slice IA is.length IC] 31) (.cells #[.int .i64 to.1, .bool to.2] 23) from ⟨⟨hP, fun b hb => by have := hlo b hb; simp at this; omega, frm_then HF0.out hf, HE.out.frm0 (frm_then HF0.out hf), blk_frm HB0.out hf id⟩, blk_frm HB1.out hf id, fun b hb => by have := hlo b hb; simpa using this⟩)
  clear hP hlo hf HN
  go_wp2_with fail
  refine (awake_calls _ HL.out.lw.env).mono ?_
  rintro e w2 ⟨rfl, hf⟩
  have HL := Lib.hid (HL.out.frm0 hf)
  clear hf
  obtain ⟨c0, c1, c2, c3, c4, c5, c6, c7, c8, c9, c10⟩ := HL.out.lw.cells
  have t0 := blk_cell HL.out.box2 0
  have t1 := blk_cell HL.out.box2 1
  go_wp2_with fail
  refine (few_calls W.heap.size _ a0 a1 a2 a3 a4 a5 a6 a7 a8 x vs is VA IA VC IC (HA.out.frm0 HL.out.lw.frm).tree HA.out.most HA.out.vl HA.out.il).mono ?_
  rintro e w3 ⟨rfl, hf⟩
  have HL := Lib.hid (HL.out.frm0 hf)
  clear hf
  clear c0 c1 c2 c3 c4 c5 c6 c7 c8 c9 c10 t0 t1
  cases hfew : fewF x vs is with
  | false =>
    clear hfew
    go_wp2_with fail
    refine (awake_calls _ HL.out.lw.env).mono ?_
    rintro e w4 ⟨rfl, hf⟩
    have HF := Lib.hid (frm_then HL.out.lw.frm hf)
    clear hf
    go_wp2
    go_ret
    exact ⟨rfl, HF.out⟩
  | true =>
    obtain ⟨f1, f2, f3⟩ := (few_iff x vs is).1 hfew
    have Hf := Lib.hid (And.intro f1 (And.intro f2 f3))
    clear hfew f1 f2 f3
    obtain ⟨c0, c1, c2, c3, c4, c5, c6, c7, c8, c9, c10⟩ := HL.out.lw.cells
    have t0 := blk_cell HL.out.box2 0
    have t1 := blk_cell HL.out.box2 1
    go_wp2_with fail
    refine (RfW.Right_calls _ to).mono ?_
    rintro e w4 ⟨rfl, hf⟩
    have HL := Lib.hid (HL.out.frm0 hf)
    clear hf c0 c1 c2 c3 c4 c5 c6 c7 c8 c9 c10 t0 t1
    cases hrt : rightF to with
    | false =>
      clear hrt
      go_wp2_with fail
      refine (awake_calls _ HL.out.lw.env).mono ?_
      rintro e w5 ⟨rfl, hf⟩
      have HF := Lib.hid (frm_then HL.out.lw.frm hf)
      clear hf
      go_wp2
      go_ret
      exact ⟨rfl, HF.out⟩
    | true =>
      have Hrt := Lib.hid hrt
      clear hrt
      obtain ⟨c0, c1, c2, c3, c4, c5, c6, c7, c8, c9, c10⟩ := HL.out.lw.cells
      have hlow : ∀ b, own0 b → W.heap.size ≤ b := fun b hb => Nat.le_trans (Nat.le_succ _) (HL.out.lw.low b hb)
      have HBd := Lib.hid (Build_calls W.heap.size p vs (.slice VA vs.length VC) is (envOf vs is) env_get (countX x) x (Nat.le_refl _) w4 own0 Go.Tp.empty (fun _ => 0) (.agg #[a0, a1, a2, a3, a4, a5, a6, a7, a8]) HL.out.lw.env HL.out.lw.pool (TmW.good_empty _) (types_empty vs) hlow HL.out.lw.frm.size (HA.out.frm0 HL.out.lw.frm).tree (HA.out.frm0 HL.out.lw.frm).vars (by have := Hf.out.1; show 0 + _ + _ < _; omega))
      have Hok := Lib.hid (build_ok vs is (envOf vs is) env_get x Go.Tp.empty (fun _ => 0) (TmW.good_empty _) (types_empty vs))
      obtain ⟨r, hr⟩ : ∃ r, r = buildF vs x Go.Tp.empty := ⟨_, rfl⟩
      rw [← hr] at HBd Hok
      obtain ⟨⟨f, er⟩, s2⟩ := r
      clear hr hlow
      go_wp2_with fail
      refine HBd.out.mono ?_
      rintro e w5 ⟨rfl, own5, hP, hM⟩
      have HL := Lib.hid (HL.out.step hP hM)
      clear hP hM HBd c0 c1 c2 c3 c4 c5 c6 c7 c8 c9 c10
      cases hty : (typeX vs x).2 with
      | false =>
        obtain ⟨q1, q2⟩ := Hok.out.2 hty
        have q1 : ¬ er = 0 := q1
        have hq1 : (er == 0) = false := by simpa using q1
        clear hty Hok q2
        go_wp2
        go_ret
        exact ⟨rfl, HL.out.lw.frm⟩
      | true =>
        have hB := Hok.out.1 hty
        obtain ⟨D, hG, _, hD⟩ := hB.came.out
        have he0 : er = 0 := hB.err
        subst he0
        have hin : inP s2 f = true := hB.came.inn
        have hlen : s2.l.length ≤ 120 := by have := hB.len; have := Hf.out.1; simp [Go.Tp.empty] at *; omega
        obtain ⟨r3, h3⟩ : ∃ r3, r3 = CastF s2 to f := ⟨_, rfl⟩
        obtain ⟨r4, h4⟩ : ∃ r4, r4 = CastF r3.2 (1, false) f := ⟨_, rfl⟩
        obtain ⟨r5, h5⟩ : ∃ r5, r5 = CastF r4.2 (typeF s2 f) r3.1.1 := ⟨_, rfl⟩
        obtain ⟨hC, hT4⟩ := casts_plain hG hB.types Hrt.out hin r3 r4 r5 h3 h4 h5
        have HC := Lib.hid hC
        have HT4 := Lib.hid hT4
        have H3 := Lib.hid fun w1 (hf : Frm (fun _ => False) w5 w1) => PCast_calls (HL.out.lw.env.frm0 hf) (HL.out.lw.pool.frm0 hf) to f (hG.calm.num f) (by omega)
        have Hh4 := Lib.hid h4
        have Hh5 := Lib.hid h5
        have Hlen := Lib.hid hlen
        have HGr := Lib.hid (hG.right hin)
        rw [← h3] at H3
        obtain ⟨ty, hty2⟩ : ∃ ty, ty = typeF s2 f := ⟨_, rfl⟩
        rw [← hty2] at Hh5 HT4 HGr
        have hev : D f = evalX vs is x := hD
        have Hty2 := Lib.hid hty2
        clear hB hG hD hC hT4 h4 h5 hlen hty2 hin h3 hev Hok hty
        obtain ⟨⟨g, e3⟩, s3⟩ := r3
        obtain ⟨⟨b, e4⟩, s4⟩ := r4
        obtain ⟨⟨k, e5⟩, s5⟩ := r5
        have z3 : e3 = 0 := HC.out.e3
        have z4 : e4 = 0 := HC.out.e4
        have z5 : e5 = 0 := HC.out.e5
        subst z3
        subst z4
        subst z5
        have t0 := blk_cell HL.out.box2 0
        have t1 := blk_cell HL.out.box2 1
        go_wp2_with fail
        refine (H3.out _ (Frm.refl _ _)).mono ?_
        rintro e w6 ⟨rfl, own6, hP, hM⟩
        have HL := Lib.hid (HL.out.step hP hM)
        clear hP hM H3 t0 t1
        obtain ⟨D3, G3⟩ := HC.out.g3
        have H4 := Lib.hid (PCast_calls HL.out.lw.env HL.out.lw.pool (1, false) f (G3.calm.num f) (by have := HC.out.l3; have := Hlen.out; simp only at *; omega))
        rw [← Hh4.out] at H4
        clear G3
        go_wp2_with fail
        refine H4.out.mono ?_
        rintro e w7 ⟨rfl, own7, hP, hM⟩
        have HL := Lib.hid (HL.out.step hP hM)
        clear hP hM H4
        have HT := Lib.hid (TmW.Type_calls HL.out.lw.pool f)
        rw [HT4.out] at HT
        go_wp2_with fail
        refine HT.out.mono ?_
        rintro e w8 ⟨rfl, hf⟩
        have HL := Lib.hid (HL.out.frm0 hf)
        clear hf HT
        obtain ⟨D4, G4⟩ := HC.out.g4
        have H5 := Lib.hid (PCast_calls HL.out.lw.env HL.out.lw.pool ty g (G4.calm.num g) (by have := HC.out.l4; have := Hlen.out; simp only at *; omega))
        rw [← Hh5.out] at H5
        clear G4
        go_wp2_with fail
        refine H5.out.mono ?_
        rintro e w9 ⟨rfl, own9, hP, hM⟩
        have HL := Lib.hid (HL.out.step hP hM)
        clear hP hM H5 Hh4 Hh5 HT4
        obtain ⟨D5, G5, qf, qb, qk⟩ := HC.out.fin
        have HG := Lib.hid G5
        obtain ⟨fv, hfv⟩ : ∃ fv, D5 f = fv := ⟨_, rfl⟩
        obtain ⟨bv, hbv⟩ : ∃ bv, D5 b = bv := ⟨_, rfl⟩
        obtain ⟨kv, hkv⟩ : ∃ kv, D5 k = kv := ⟨_, rfl⟩
        have qb : bv = min fv 1 := by rw [← hbv, ← hfv, qf]; exact qb
        have qk : ty.1 ≤ to.1 → kv = fv := by rw [← hkv, ← hfv, qf, Hty2.out]; exact qk
        have HQb := Lib.hid qb
        have HQk := Lib.hid qk
        have Hfv := Lib.hid hfv
        have Hbv := Lib.hid hbv
        have Hkv := Lib.hid hkv
        clear G5 qf qb qk hfv hbv hkv
        have HV := Lib.hid (values_calls W.heap.size w9 a0 a1 a2 a3 a4 a5 a6 a7 a8 vs is VA IA VC IC (HA.out.frm0 HL.out.lw.frm).vars (HA.out.frm0 HL.out.lw.frm).nums Hf.out.2.1 Hf.out.2.2)
        obtain ⟨c0, c1, c2, c3, c4, c5, c6, c7, c8, c9, c10⟩ := HL.out.lw.cells
        go_wp2_with fail
        refine HV.out.mono ?_
        rintro e w10 ⟨vr, rfl, hvr, hf, hvo⟩
        have hap : ∀ g, vr.ownBlock = some g → ¬ own9 g := fun g hg ho => by have h1 := hvo g hg; have h2 := HL.out.lw.pool.lt g ho; omega
        have HL := Lib.hid (HL.out.frm0 hf)
        have HEv := Lib.hid (told_eval HL.out.lw.env HL.out.lw.pool HG.out HC.out.types (by have := Hf.out.2.1; omega) HA.out.i64 HC.out.if5 vr hvr hap)
        rw [Hfv.out] at HEv
        clear hvr hf hvo HV c0 c1 c2 c3 c4 c5 c6 c7 c8 c9 c10 hap
        go_wp2_with fail
        refine HEv.out.mono ?_
        rintro e w11 ⟨rfl, hP, hM⟩
        have HL := Lib.hid (HL.out.step hP hM)
        clear hP hM HEv
        have HV := Lib.hid (values_calls W.heap.size w11 a0 a1 a2 a3 a4 a5 a6 a7 a8 vs is VA IA VC IC (HA.out.frm0 HL.out.lw.frm).vars (HA.out.frm0 HL.out.lw.frm).nums Hf.out.2.1 Hf.out.2.2)
        obtain ⟨c0, c1, c2, c3, c4, c5, c6, c7, c8, c9, c10⟩ := HL.out.lw.cells
        go_wp2_with fail
        refine HV.out.mono ?_
        rintro e w12 ⟨vr, rfl, hvr, hf, hvo⟩
        have hap : ∀ g, vr.ownBlock = some g → ¬ own9 g := fun g hg ho => by have h1 := hvo g hg; have h2 := HL.out.lw.pool.lt g ho; omega
        have HL := Lib.hid (HL.out.frm0 hf)
        have HEv := Lib.hid (told_eval HL.out.lw.env HL.out.lw.pool HG.out HC.out.types (by have := Hf.out.2.1; omega) HA.out.i64 HC.out.ik5 vr hvr hap)
        rw [Hkv.out] at HEv
        clear hvr hf hvo HV c0 c1 c2 c3 c4 c5 c6 c7 c8 c9 c10 hap
        go_wp2_with fail
        refine HEv.out.mono ?_
        rintro e w13 ⟨rfl, hP, hM⟩
        have HL := Lib.hid (HL.out.step hP hM)
        clear hP hM HEv
        have HV := Lib.hid (values_calls W.heap.size w13 a0 a1 a2 a3 a4 a5 a6 a7 a8 vs is VA IA VC IC (HA.out.frm0 HL.out.lw.frm).vars (HA.out.frm0 HL.out.lw.frm).nums Hf.out.2.1 Hf.out.2.2)
        obtain ⟨c0, c1, c2, c3, c4, c5, c6, c7, c8, c9, c10⟩ := HL.out.lw.cells
        go_wp2_with fail
        refine HV.out.mono ?_
        rintro e w14 ⟨vr, rfl, hvr, hf, hvo⟩
        have hap : ∀ g, vr.ownBlock = some g → ¬ own9 g := fun g hg ho => by have h1 := hvo g hg; have h2 := HL.out.lw.pool.lt g ho; omega
        have HL := Lib.hid (HL.out.frm0 hf)
        have HEv := Lib.hid (told_eval HL.out.lw.env HL.out.lw.pool HG.out HC.out.types (by have := Hf.out.2.1; omega) HA.out.i64 HC.out.ib5 vr hvr hap)
        rw [Hbv.out] at HEv
        clear hvr hf hvo HV c0 c1 c2 c3 c4 c5 c6 c7 c8 c9 c10 hap
        go_wp2_with fail
        refine HEv.out.mono ?_
        rintro e w15 ⟨rfl, hP, hM⟩
        have HL := Lib.hid (HL.out.step hP hM)
        clear hP hM HEv
        have t0 := blk_cell HL.out.box2 0
        have t1 := blk_cell HL.out.box2 1
        have HTg := Lib.hid fun w1 (hf : Frm (fun _ => False) w15 w1) => TmW.Type_calls (HL.out.lw.pool.frm0 hf) g
        have htg : typeF s5 g = to := HC.out.tg
        rw [htg] at HTg
        have HTf := Lib.hid fun w1 (hf : Frm (fun _ => False) w15 w1) => TmW.Type_calls (HL.out.lw.pool.frm0 hf) f
        have htf : typeF s5 f = ty := by rw [Hty2.out]; exact HC.out.tf
        rw [htf] at HTf
        have HB2 := Lib.hid HL.out.box2
        have HF := Lib.hid HL.out.lw.frm
        clear htg htf
        go_wp2_with fail
        refine Plan.wp_region_plan [0, 1, 3, 7, 15, 31, 63, 127, 255, 511, 1023, 2047, 4095, 8191, 16383, 32767, 65535, 131071, 262143, 524287, 1048575, 2097151, 4194303, 8388607, 8388607, 33554431, 8388607, 134217727, 268435455] [.mk [0, 1, 2, 3, 4, 5, 6, 7, 8, 9, 10, 11, 12, 13, 14, 15, 16, 17, 18, 19, 20, 21, 22, 23, 24, 26] 25 [26]] [27, 28] (by kernel_rfl) (by kernel_rfl) ?_
        simp only [Plan.wayOf, Plan.pickAll, List.getElem?_cons_zero, List.getElem?_cons_succ, List.getD_eq_getElem?_getD, Option.getD_some]
        refine Plan.wpWay_seg ?_
        repeat go_big_quiet_step (fail)
        refine wpQuiet_nil ?_; refine Plan.wpWay_act ?_
        go_wp2_with fail
        refine (HTg.out _ (Frm.refl _ _).drew).mono ?_
        rintro e w16 ⟨rfl, hf⟩
        have hf16 := Lib.hid (show Frm (fun _ => False) w15 w16 from frm_then (Frm.refl _ _).drew hf)
        have t0 := frm_cell hf16.out t0
        have t1 := frm_cell hf16.out t1
        clear hf
        go_wp2_with fail
        refine And.intro ?_ ?_; focus ((iterate 1 (refine Plan.again_cons ?_ ?_; focus (go_big_quiet_step (fail); exact wpQuiet_nil rfl))); exact Plan.again_nil)
        refine Plan.wpWay_last ?_
        repeat go_big_quiet_step (fail)
        refine wpQuiet_nil ?_; refine NoPanic.normal ?_
        have hb1 : ∃ z : Bool, ((bv : Int) == 1) = z ∧ decide ((bv : Int) = 1) = z ∧ ((fv : Int) != 0) = z ∧ decide ((fv : Int) = 0) = (!z) := by
          have := HQb.out
          by_cases h : fv = 0
          · subst h; subst this; exact ⟨false, rfl, rfl, rfl, rfl⟩
          · have h1 : bv = 1 := by omega
            subst h1
            exact ⟨true, rfl, rfl, by simpa using h, by simpa using h⟩
        obtain ⟨z, x1, x2, x3, x4⟩ := hb1
        have hfld := field_w ty.1 ty.2
        have hlt : to.1 < ty.1 ∨ (kv = fv ∧ ¬ to.1 < ty.1) := by
          have := HQk.out
          by_cases h : to.1 < ty.1
          · exact .inl h
          · exact .inr ⟨this (by omega), h⟩
        cases z <;> simp only [Bool.not_true, Bool.not_false] at x4 <;> rcases hlt with hlt | ⟨hkf, hlt⟩
        · have hd := decide_eq_true hlt
          go_wp2
          go_wp2_with fail
          refine Plan.wp_region_plan [0, 1, 0, 4, 15, 31, 63, 127, 63, 63, 831, 1855, 4095, 8191, 16383, 16383, 65535, 131071, 262143, 524287] [.mk [0, 1, 2, 3, 4, 5, 6, 7, 8, 9] 10 [6, 7]] [11, 12, 13, 14, 15, 16, 17, 18, 19] (by kernel_rfl) (by kernel_rfl) ?_
          simp only [Plan.wayOf, Plan.pickAll, List.getElem?_cons_zero, List.getElem?_cons_succ, List.getD_eq_getElem?_getD, Option.getD_some]
          refine Plan.wpWay_seg ?_
          repeat go_big_quiet_step (fail)
          refine wpQuiet_nil ?_; refine Plan.wpWay_act ?_
          go_wp2_with fail
          refine (HTf.out _ (frm_then hf16.out (Frm.refl _ _).drew)).mono ?_
          rintro e w17 ⟨rfl, hf⟩
          have hf17 := Lib.hid (show Frm (fun _ => False) w15 w17 from frm_then (frm_then hf16.out (Frm.refl _ _).drew) hf)
          have t0 := frm_cell hf17.out (blk_cell HB2.out 0)
          have t1 := frm_cell hf17.out (blk_cell HB2.out 1)
          clear hf
          go_wp2_with fail
          refine And.intro ?_ ?_; focus ((iterate 2 (refine Plan.again_cons ?_ ?_; focus (go_big_quiet_step (fail); exact wpQuiet_nil rfl))); exact Plan.again_nil)
          refine Plan.wpWay_last ?_
          repeat go_big_quiet_step (fail)
          refine wpQuiet_nil ?_; refine NoPanic.normal ?_
          go_wp2
          go_ret
          exact ⟨rfl, frm_then HF.out hf17.out⟩
        · subst hkf
          have hd := decide_eq_false hlt
          go_wp2
          go_wp2_with fail
          refine Plan.wp_region_plan [0, 1, 0, 4, 15, 31, 63, 127, 63, 63, 831, 1855, 4095, 8191, 16383, 16383, 65535, 131071, 262143, 524287] [.mk [0, 1, 2, 3, 4, 5, 6, 7, 8, 9] 10 [6, 7]] [11, 12, 13, 14, 15, 16, 17, 18, 19] (by kernel_rfl) (by kernel_rfl) ?_
          simp only [Plan.wayOf, Plan.pickAll, List.getElem?_cons_zero, List.getElem?_cons_succ, List.getD_eq_getElem?_getD, Option.getD_some]
          refine Plan.wpWay_seg ?_
          repeat go_big_quiet_step (fail)
          refine wpQuiet_nil ?_; refine Plan.wpWay_act ?_
          go_wp2_with fail
          refine (HTf.out _ (frm_then hf16.out (Frm.refl _ _).drew)).mono ?_
          rintro e w17 ⟨rfl, hf⟩
          have hf17 := Lib.hid (show Frm (fun _ => False) w15 w17 from frm_then (frm_then hf16.out (Frm.refl _ _).drew) hf)
          have t0 := frm_cell hf17.out (blk_cell HB2.out 0)
          have t1 := frm_cell hf17.out (blk_cell HB2.out 1)
          clear hf
          go_wp2_with fail
          refine And.intro ?_ ?_; focus ((iterate 2 (refine Plan.again_cons ?_ ?_; focus (go_big_quiet_step (fail); exact wpQuiet_nil rfl))); exact Plan.again_nil)
          refine Plan.wpWay_last ?_
          repeat go_big_quiet_step (fail)
          refine wpQuiet_nil ?_; refine NoPanic.normal ?_
          go_wp2
          go_ret
          exact ⟨rfl, frm_then HF.out hf17.out⟩
        · have hd := decide_eq_true hlt
          go_wp2
          go_wp2_with fail
          refine Plan.wp_region_plan [0, 1, 0, 4, 15, 31, 63, 127, 63, 63, 831, 1855, 4095, 8191, 16383, 16383, 65535, 131071, 262143, 524287] [.mk [0, 1, 2, 3, 4, 5, 6, 7, 8, 9] 10 [6, 7]] [11, 12, 13, 14, 15, 16, 17, 18, 19] (by kernel_rfl) (by kernel_rfl) ?_
          simp only [Plan.wayOf, Plan.pickAll, List.getElem?_cons_zero, List.getElem?_cons_succ, List.getD_eq_getElem?_getD, Option.getD_some]
          refine Plan.wpWay_seg ?_
          repeat go_big_quiet_step (fail)
          refine wpQuiet_nil ?_; refine Plan.wpWay_act ?_
          go_wp2_with fail
          refine (HTf.out _ (frm_then hf16.out (Frm.refl _ _).drew)).mono ?_
          rintro e w17 ⟨rfl, hf⟩
          have hf17 := Lib.hid (show Frm (fun _ => False) w15 w17 from frm_then (frm_then hf16.out (Frm.refl _ _).drew) hf)
          have t0 := frm_cell hf17.out (blk_cell HB2.out 0)
          have t1 := frm_cell hf17.out (blk_cell HB2.out 1)
          clear hf
          go_wp2_with fail
          refine And.intro ?_ ?_; focus ((iterate 2 (refine Plan.again_cons ?_ ?_; focus (go_big_quiet_step (fail); exact wpQuiet_nil rfl))); exact Plan.again_nil)
          refine Plan.wpWay_last ?_
          repeat go_big_quiet_step (fail)
          refine wpQuiet_nil ?_; refine NoPanic.normal ?_
          go_wp2
          go_ret
          exact ⟨rfl, frm_then HF.out hf17.out⟩
        · subst hkf
          have hd := decide_eq_false hlt
          go_wp2
          go_wp2_with fail
          refine Plan.wp_region_plan [0, 1, 0, 4, 15, 31, 63, 127, 63, 63, 831, 1855, 4095, 8191, 16383, 16383, 65535, 131071, 262143, 524287] [.mk [0, 1, 2, 3, 4, 5, 6, 7, 8, 9] 10 [6, 7]] [11, 12, 13, 14, 15, 16, 17, 18, 19] (by kernel_rfl) (by kernel_rfl) ?_
          simp only [Plan.wayOf, Plan.pickAll, List.getElem?_cons_zero, List.getElem?_cons_succ, List.getD_eq_getElem?_getD, Option.getD_some]
          refine Plan.wpWay_seg ?_
          repeat go_big_quiet_step (fail)
          refine wpQuiet_nil ?_; refine Plan.wpWay_act ?_
          go_wp2_with fail
          refine (HTf.out _ (frm_then hf16.out (Frm.refl _ _).drew)).mono ?_
          rintro e w17 ⟨rfl, hf⟩
          have hf17 := Lib.hid (show Frm (fun _ => False) w15 w17 from frm_then (frm_then hf16.out (Frm.refl _ _).drew) hf)
          have t0 := frm_cell hf17.out (blk_cell HB2.out 0)
          have t1 := frm_cell hf17.out (blk_cell HB2.out 1)
          clear hf
          go_wp2_with fail
          refine And.intro ?_ ?_; focus ((iterate 2 (refine Plan.again_cons ?_ ?_; focus (go_big_quiet_step (fail); exact wpQuiet_nil rfl))); exact Plan.again_nil)
          refine Plan.wpWay_last ?_
          repeat go_big_quiet_step (fail)
          refine wpQuiet_nil ?_; refine NoPanic.normal ?_
          go_wp2
          go_ret
          exact ⟨rfl, frm_then HF.out hf17.out⟩
end LawT
end Go.Proofs.YtbbajekecppioaaGreatDoor
namespace Go.Proofs.YtbbajekecppioaaGreatDoor
open Go.RowKit Go.Mem Go.ChangeShapes Go.WideShapes Go.ChangeAt Go.Deep
namespace LawT
theorem casts_reads (os : Os) {H : Type} (enc : TypeId × Value → H) : ∃ places, DataW.whole enc Tryz.prog ((laidWorld os).forCall (fun _ _ => 0) ⟨#[], #[wit, .agg #[.int .i64 0, .bool false]], []⟩).memory Tryz.f4.params.toList Rows.termCastsSpec.vars false #[wit, .agg #[.int .i64 0, .bool false]].toList 8 = some ([.agg [.agg [.lit (.string []), .agg [.lit (.int .i64 0), .lit (.bool false)], .lit (.int .u64 0), .lit (.int .i64 0), .lit (.bool false), .lit (.int .i64 0), .lit (.int .i64 0), .nil], .nil, .nil], .agg [.lit (.int .i64 0), .lit (.bool false)]], [], places) :=
  ⟨[], by kernel_rfl⟩
set_option maxRecDepth 100000 in
theorem casts_lifted (os : Os) (started : os.Started) (H : Type) (enc : TypeId × Value → H) (F : Stop.Interp) :
    ReturnsInHanded {} Tryz.checked os 4 .any ((Rows.OpenSpec.upto Rows.termCastsSpec).preRow enc Tryz.prog Tryz.f4 Rows.termCastsUptoRow.domain false Rows.termCastsUptoRow.laid) (((Rows.OpenSpec.upto Rows.termCastsSpec).at F).post enc Tryz.prog Tryz.f4 false true false false) := by
  obtain ⟨places, hx⟩ := casts_reads os enc
  refine returnsInHanded_of_row (C := Tryz.checked) (s := Rows.OpenSpec.upto Rows.termCastsSpec) own_knob started (by kernel_rfl) Tryz.func4
    (witness_row_at (enc := enc) (C := Tryz.checked) false (laidWorld os) #[wit, .agg #[.int .i64 0, .bool false]] rfl (by kernel_rfl) (by kernel_rfl) (by kernel_rfl)
      (OpenSpec.preRow_of_cond 8 hx (by kernel_rfl) (fun k hk => by cases hk; kernel_rfl) (by kernel_rfl) (laid_met os _))) ?_
  intro W base args ds gs before hval0 hW _ hcond _ hL _ _
  have hval : ∀ (j : Nat) t v, Tryz.f4.params[j]? = some t → args[j]? = some v → Value.okWide Tryz.prog W .any base t v := hval0
  have hk : Rows.uptoSmall H (ds ++ gs) = true := hcond _ rfl
  have hW' := hW
  obtain ⟨p, q, hA0, hV, rfl, hfz, hnd⟩ := hW
  have hA : DataW.TrodAll enc Tryz.prog W 0 (fun _ => true) true Tryz.f4.params.toList args.toList ds p := hA0
  have hAk := hA
  rw [Tryz.params4] at hA hval
  obtain ⟨v0, v1, d0, d1, p0, p1, rfl, rfl, rfl, h0, h1⟩ := trodAll_two hA
  obtain ⟨rfl, rfl⟩ := trodVars_none hV
  have hb : Rows.uptoBulkAll [d0, d1] ≤ 1048576 := of_decide_eq_true hk
  simp only [Rows.uptoBulkAll] at hb
  obtain ⟨a0, a1, a2, a3, a4, a5, a6, a7, a8, VA, IA, VC, IC, x, vs, is, rfl, hArgs⟩ := args_read (okWide_struct Tryz.underlying31 (hval 0 31 v0 rfl rfl)) h0 (by omega)
  obtain ⟨cs, rfl, hcs⟩ := okWide_struct Tryz.underlying23 (hval 1 23 v1 rfl rfl)
  obtain ⟨fuel, hto⟩ := h1
  obtain ⟨to, hto, _⟩ := type_read hto
  obtain rfl : cs = #[.int .i64 to.1, .bool to.2] := by
    have := congrArg List.toArray hto
    simpa [Value.cells] using this
  clear hA0 hval0 hcond hk
  simp only [List.append_nil] at hW'
  refine (casts_walk W (env_of hL) a0 a1 a2 a3 a4 a5 a6 a7 a8 VA IA VC IC x vs is hArgs to).mono fun e W' ⟨he, hf⟩ => ?_
  subst he
  have hb := hf.below
  exact ⟨_, rfl, post_below (pa := _) (pv := []) hW' (fun _ _ _ => trodAll_mk1 (shut_bool Tryz.underlying4 _)) (fun sp hsp => args_again (by rw [Tryz.params4]; decide) hAk hb sp (by simpa using hsp)) (fun _ _ => rfl) (by simp) hb (ok_one (by kernel_rfl) rfl (okWide_bool_mk Tryz.underlying4 _))⟩
theorem casts_said : Rows.TermCastsUptoSaid :=
  OpenClaim.holds_of_cond 4 Tryz.f4 rfl rfl rfl rfl rfl rfl rfl ⟨rfl, rfl, rfl, rfl, rfl⟩ rfl rfl rfl rfl rfl (by kernel_rfl) Tryz.func4 (by kernel_rfl)
    (of_decide_eq_true (by kernel_rfl)) (by unfold Func.isWrapper; first | (rw [if_pos (by decide +kernel)]; kernel_rfl) | (rw [if_neg (by decide +kernel)]; exact ⟨rfl, rfl⟩))
    (fun os started H enc _ F => by rw [OpenClaim.pre_eq_preRow]; exact casts_lifted os started H enc F)
theorem casts_card_plain (f : FuncId) (fn : Func) (hf : Tryz.pinned.checked.prog.funcNamed "skua/skualaw10.TermCasts" = some f) (hfn : Tryz.pinned.checked.prog.funcs[f]? = some fn) :
    false = Tryz.pinned.checked.prog.looks [] ∧ ∀ (j : Nat) t, fn.params[j]? = some t → Tryz.pinned.checked.prog.wantsStandIn t = false := by
  obtain rfl : f = 4 := Option.some.inj ((show Tryz.prog.funcNamed "skua/skualaw10.TermCasts" = some 4 by kernel_rfl).symm.trans hf) |>.symm
  obtain rfl : fn = Tryz.f4 := (Option.some.inj (Tryz.func4.symm.trans hfn)).symm
  refine ⟨by kernel_rfl, fun j t ht => ?_⟩
  rw [Tryz.params4] at ht
  have ht' : t = 31 ∨ t = 23 := by simpa using Array.mem_of_getElem? ht
  rcases ht' with rfl | rfl
  · exact (show Tryz.prog.wantsStandIn 31 = false by kernel_rfl)
  · exact (show Tryz.prog.wantsStandIn 23 = false by kernel_rfl)
end LawT
theorem termCastsUpto_holds : Rows.TermCastsUptoCardSaid :=
  Claim7.holds_tied_plain_at .later [] _ _ _ _ LawT.casts_said (fun _ h => by cases h) (by kernel_rfl) (fun _ h => by cases h) termCastsUpto_row_tie rfl ⟨rfl, rfl⟩ (by kernel_rfl) rfl LawT.casts_card_plain (by kernel_rfl)
#print axioms termCastsUpto_holds
end Go.Proofs.YtbbajekecppioaaGreatDoor
