/- Plain laws: one call on a store that has room; not of and is or of not, and what else BddLaws asks. -/
import Derived.Test.YtjajpdmmoiiojaaP8
namespace Go.Bdd
open Go.Mem Go.RowKit
/-- What a call on a store with room leaves. -/
structure Op1 (s : Sto) (φ : Env → Bool) (f : Int) (s' : Sto) : Prop where
  inv : Inv s'
  ext : Ext s s'
  cost : s'.works ≤ s.works + 400
  mem : In s'.l f
  den : ∀ e, D s'.l e f = φ e
section
variable {s : Sto} {n : Nat}
theorem op_of {φ : Env → Bool} {r : Int × Int} {s' : Sto} (R : Res s φ 400 r s') (hw : s.works + 402 < s.room) : ∃ f, r = (f, 0) ∧ Op1 s φ f s' := by
  obtain ⟨f, e⟩ := r
  rcases R.ans with ⟨h0, h1, h2⟩ | ⟨h, hroom⟩
  · simp only at h0; subst h0
    exact ⟨f, rfl, R.inv, R.ext, R.cost, h1, h2⟩
  · have := R.inv.size
    have := R.cost
    have := R.ext.room
    omega
theorem Inv.dep (i : Inv s) (hn : (n : Int) = s.vars) {f : Int} (hf : In s.l f) : Dep (fun e => D s.l e f) (rng n) := dep_depN.2 (i.depN hn hf)
theorem pow6 (hn : n ≤ 6) : 2 ^ n ≤ 64 := by
  have h2 : 2 ^ n ≤ 2 ^ 6 := Nat.pow_le_pow_right (by omega) hn
  have h3 : (2 : Nat) ^ 6 = 64 := by decide
  omega
theorem Ite_ok (i : Inv s) (hn : (n : Int) = s.vars) (h6 : n ≤ 6) (hw : s.works + 402 < s.room) (hr : s.room ≤ 16777216) {f g h : Int} (hf : In s.l f) (hg : In s.l g) (hh : In s.l h) :
    ∃ a s', IteF 100 s f g h = some ((a, 0), s') ∧ Op1 s (fun e => if D s.l e f then D s.l e g else D s.l e h) a s' := by
  have hp := pow6 h6
  obtain ⟨r, s', e, R⟩ := Ite_res (k := 100) i hf hg hh (i.dep hn hf) (i.dep hn hg) (i.dep hn hh) (by rw [rng_len]; omega) (by rw [rng_len]; show _ ≤ (18446744073709551615 : Int); omega)
  rw [rng_len] at R
  obtain ⟨a, rfl, O⟩ := op_of (R.mono (by omega)) hw
  exact ⟨a, s', e, O⟩
theorem iff_ok (i : Inv s) (hn : (n : Int) = s.vars) (h6 : n ≤ 6) (hw : s.works + 402 < s.room) (hr : s.room ≤ 16777216) {f g : Int} (hf : In s.l f) (hg : In s.l g) :
    ∃ a s', iffF 100 s f g = some ((a, 0), s') ∧ Op1 s (fun e => D s.l e f == D s.l e g) a s' := by
  have hp := pow6 h6
  obtain ⟨r, s', e, R⟩ := iff_res (k := 100) i hf hg (i.dep hn hf) (i.dep hn hg) (by rw [rng_len]; omega) (by rw [rng_len]; show _ ≤ (18446744073709551615 : Int); omega)
  rw [rng_len] at R
  obtain ⟨a, rfl, O⟩ := op_of (R.mono (by omega)) hw
  exact ⟨a, s', e, O⟩
theorem exists_ok (i : Inv s) (hn : (n : Int) = s.vars) (h6 : n ≤ 6) (hw : s.works + 402 < s.room) (hr : s.room ≤ 16777216) {f : Int} (hf : In s.l f) {vars : List Int} (hv : ∀ v ∈ vars, 0 ≤ v ∧ v < n) :
    ∃ a s', existsF 100 s f vars = some ((a, 0), s') ∧ Op1 s (exT vars fun e => D s.l e f) a s' := by
  have hp := pow6 h6
  have c6 : n * 2 ^ n ≤ 384 := by
    have := Nat.mul_le_mul h6 hp
    omega
  obtain ⟨r, s', e, R⟩ := exists_res (k := 100) (vars := vars) i hf (fun v h => by rw [← hn]; exact hv v h) (i.dep hn hf) (by rw [rng_len]; omega) (by rw [rng_len]; show _ ≤ (18446744073709551615 : Int); omega)
  rw [rng_len] at R
  obtain ⟨a, rfl, O⟩ := op_of (R.mono (by omega)) hw
  exact ⟨a, s', e, O⟩

theorem exT_or (vars : List Int) (φ ψ : Env → Bool) (e : Env) : exT vars (fun e => φ e || ψ e) e = (exT vars φ e || exT vars ψ e) := by
  rw [Bool.eq_iff_iff, exT_iff, Bool.or_eq_true, exT_iff, exT_iff]
  constructor
  · rintro ⟨e', h1, h2⟩
    rw [Bool.or_eq_true] at h2
    exact h2.imp (fun h => ⟨e', h1, h⟩) fun h => ⟨e', h1, h⟩
  · rintro (⟨e', h1, h2⟩ | ⟨e', h1, h2⟩)
    · exact ⟨e', h1, by rw [h2]; rfl⟩
    · exact ⟨e', h1, by rw [h2, Bool.or_true]⟩

theorem laws_res (i : Inv s) (hn : (n : Int) = s.vars) (h6 : n ≤ 6) (hw : s.works + 5000 < s.room) (hr : s.room ≤ 16777216) {f g v : Int} (hf : In s.l f) (hg : In s.l g) (hv : 0 ≤ v ∧ v < n) :
    ∃ a1 s1 a2 s2 a3 s3 a4 s4 a5 s5 a6 s6 a7 s7 a8 s8 a9 s9 a10 s10 a11 s11,
      IteF 100 s f g 0 = some ((a1, 0), s1) ∧ IteF 100 s1 a1 0 1 = some ((a2, 0), s2) ∧ IteF 100 s2 f 0 1 = some ((a3, 0), s3) ∧ IteF 100 s3 g 0 1 = some ((a4, 0), s4) ∧ IteF 100 s4 a3 1 a4 = some ((a5, 0), s5) ∧
      IteF 100 s5 f 1 g = some ((a6, 0), s6) ∧ existsF 100 s6 a6 [v] = some ((a7, 0), s7) ∧ existsF 100 s7 f [v] = some ((a8, 0), s8) ∧ existsF 100 s8 g [v] = some ((a9, 0), s9) ∧ IteF 100 s9 a8 1 a9 = some ((a10, 0), s10) ∧
      iffF 100 s10 f g = some ((a11, 0), s11) ∧ a2 = a5 ∧ a7 = a10 ∧ (a11 = 1 ↔ f = g) := by
  have hv1 : ∀ u ∈ [v], 0 ≤ u ∧ u < n := fun u hu => by rw [List.mem_singleton] at hu; subst hu; exact hv
  obtain ⟨a1, s1, e1, O1⟩ := Ite_ok i hn h6 (by omega) hr hf hg i.ok.in0
  have x1 := O1.ext
  have i1 := O1.inv
  have w1 := O1.cost; have r1 := x1.room; have v1 := x1.vars
  obtain ⟨a2, s2, e2, O2⟩ := Ite_ok i1 (by rw [v1]; exact hn) h6 (by omega) (by omega) O1.mem i1.ok.in0 i1.ok.in1
  have x2 := x1.trans O2.ext
  have i2 := O2.inv
  have w2 := O2.cost; have r2 := x2.room; have v2 := x2.vars
  obtain ⟨a3, s3, e3, O3⟩ := Ite_ok i2 (by rw [v2]; exact hn) h6 (by omega) (by omega) (x2.in hf) i2.ok.in0 i2.ok.in1
  have x3 := x2.trans O3.ext
  have i3 := O3.inv
  have w3 := O3.cost; have r3 := x3.room; have v3 := x3.vars
  obtain ⟨a4, s4, e4, O4⟩ := Ite_ok i3 (by rw [v3]; exact hn) h6 (by omega) (by omega) (x3.in hg) i3.ok.in0 i3.ok.in1
  have x4 := x3.trans O4.ext
  have i4 := O4.inv
  have w4 := O4.cost; have r4 := x4.room; have v4 := x4.vars
  obtain ⟨a5, s5, e5, O5⟩ := Ite_ok i4 (by rw [v4]; exact hn) h6 (by omega) (by omega) (O4.ext.in O3.mem) i4.ok.in1 O4.mem
  have x5 := x4.trans O5.ext
  have i5 := O5.inv
  have w5 := O5.cost; have r5 := x5.room; have v5 := x5.vars
  obtain ⟨a6, s6, e6, O6⟩ := Ite_ok i5 (by rw [v5]; exact hn) h6 (by omega) (by omega) (x5.in hf) i5.ok.in1 (x5.in hg)
  have x6 := x5.trans O6.ext
  have i6 := O6.inv
  have w6 := O6.cost; have r6 := x6.room; have v6 := x6.vars
  obtain ⟨a7, s7, e7, O7⟩ := exists_ok i6 (by rw [v6]; exact hn) h6 (by omega) (by omega) O6.mem hv1
  have x7 := x6.trans O7.ext
  have i7 := O7.inv
  have w7 := O7.cost; have r7 := x7.room; have v7 := x7.vars
  obtain ⟨a8, s8, e8, O8⟩ := exists_ok i7 (by rw [v7]; exact hn) h6 (by omega) (by omega) (x7.in hf) hv1
  have x8 := x7.trans O8.ext
  have i8 := O8.inv
  have w8 := O8.cost; have r8 := x8.room; have v8 := x8.vars
  obtain ⟨a9, s9, e9, O9⟩ := exists_ok i8 (by rw [v8]; exact hn) h6 (by omega) (by omega) (x8.in hg) hv1
  have x9 := x8.trans O9.ext
  have i9 := O9.inv
  have w9 := O9.cost; have r9 := x9.room; have v9 := x9.vars
  obtain ⟨a10, s10, e10, O10⟩ := Ite_ok i9 (by rw [v9]; exact hn) h6 (by omega) (by omega) (O9.ext.in O8.mem) i9.ok.in1 O9.mem
  have x10 := x9.trans O10.ext
  have i10 := O10.inv
  have w10 := O10.cost; have r10 := x10.room; have v10 := x10.vars
  obtain ⟨a11, s11, e11, O11⟩ := iff_ok i10 (by rw [v10]; exact hn) h6 (by omega) (by omega) (x10.in hf) (x10.in hg)
  refine ⟨a1, s1, a2, s2, a3, s3, a4, s4, a5, s5, a6, s6, a7, s7, a8, s8, a9, s9, a10, s10, a11, s11, e1, e2, e3, e4, e5, e6, e7, e8, e9, e10, e11, ?_, ?_, ?_⟩
  · have x25 := (O3.ext.trans O4.ext).trans O5.ext
    refine canon i5.ok (x25.in O2.mem) O5.mem fun e => ?_
    rw [x25.D i2 i5 O2.mem, O2.den, O1.den, O5.den, O4.den, O4.ext.D i3 i4 O3.mem, O3.den, x2.D i i2 hf, x3.D i i3 hg, D_end e (f := 0) (by omega), D_end e (f := 0) (by omega), D_end e (f := 1) (by omega), D_end e (f := 0) (by omega), D_end e (f := 1) (by omega), D_end e (f := 0) (by omega), D_end e (f := 1) (by omega), D_end e (f := 1) (by omega)]
    cases D s.l e f <;> cases D s.l e g <;> rfl
  · have x710 := (O8.ext.trans O9.ext).trans O10.ext
    refine canon i10.ok (x710.in O7.mem) O10.mem fun e => ?_
    have h6' : (fun e => D s6.l e a6) = fun e => D s.l e f || D s.l e g := funext fun e => by
      rw [O6.den, x5.D i i5 hf, x5.D i i5 hg, D_end e (f := 1) (by omega)]; cases D s.l e f <;> rfl
    have h7' : (fun e => D s7.l e f) = fun e => D s.l e f := funext fun e => x7.D i i7 hf e
    have h8' : (fun e => D s8.l e g) = fun e => D s.l e g := funext fun e => x8.D i i8 hg e
    rw [x710.D i7 i10 O7.mem, O7.den, h6', exT_or, O10.den, O9.den, h8', O9.ext.D i8 i9 O8.mem, O8.den, h7', D_end e (f := 1) (by omega)]
    cases exT [v] (fun e => D s.l e f) e <;> rfl
  · constructor
    · rintro rfl
      refine canon i.ok hf hg fun e => ?_
      have := O11.den e
      rw [D_end e (f := 1) (by omega), x10.D i i10 hf, x10.D i i10 hg] at this
      simpa using this.symm
    · rintro rfl
      refine canon O11.inv.ok O11.mem O11.inv.ok.in1 fun e => ?_
      rw [O11.den, D_end e (f := 1) (by omega)]; simp
end
end Go.Bdd
