/- Plain laws: an act done by the store is the act done by the document's tables. -/
import Derived.Test.YtjajpdmmoiiojaaLawW3
import Derived.Test.YtjajpdmmoiiojaaP6
namespace Go.Bdd
open Go.Mem Go.RowKit

structure Good (n : Nat) (s : Sto) (l : List Int) (t : List (List Bool)) : Prop where
  inv : Inv s
  vars : (n : Int) = s.vars
  len : l.length = t.length
  two : 2 ≤ l.length
  cell : ∀ (i : Nat) (f : Int) (tt : List Bool), l[i]? = some f → t[i]? = some tt → In s.l f ∧ tt = tabOf n (fun e => D s.l e f)

def sto0 (vars room : Int) : Sto := { vars, room, l := [(vars, 0, 0), (vars, 1, 1)], begun := false, find := [], known := [], works := 0 }
theorem inv0 {vars room : Int} (hv : 0 ≤ vars) (hr : 2 ≤ room) : Inv (sto0 vars room) where
  vars := hv
  ok := ⟨by simp [sto0], rfl, rfl, fun f h2 hf => by simp [sto0] at hf; omega, fun f g h2 hf => by simp [sto0] at hf; omega⟩
  find := fun x f => by simp [sto0, mget]; omega
  known := fun f g h r hk => by simp [sto0, mget] at hk
  w0 := Int.le_refl _
  size := by simp [sto0]
  room := by simp [sto0]; omega
theorem good0 {n : Nat} {room : Int} (hr : 2 ≤ room) : Good n (sto0 n room) [0, 1] [List.replicate (2 ^ n) false, List.replicate (2 ^ n) true] where
  inv := inv0 (by omega) hr
  vars := rfl
  len := rfl
  two := by simp
  cell := fun i f tt hl ht => by
    have i0 := inv0 (vars := n) (room := room) (by omega) hr
    have hc : ∀ b, List.replicate (2 ^ n) b = tabOf n fun _ => b := fun b => by
      apply List.ext_getElem
      · simp [tabOf]
      · intro j h1 h2; simp [tabOf]
    match i, hl, ht with
    | 0, hl, ht =>
      simp at hl ht; subst hl; subst ht
      exact ⟨i0.ok.in0, by rw [hc]; exact tabOf_ext fun e => by rw [D_end (f := 0) e (by omega)]; rfl⟩
    | 1, hl, ht =>
      simp at hl ht; subst hl; subst ht
      exact ⟨i0.ok.in1, by rw [hc]; exact tabOf_ext fun e => by rw [D_end (f := 1) e (by omega)]; rfl⟩
    | i + 2, hl, ht => simp at hl

section
variable {n : Nat} {s s' : Sto} {l : List Int} {t : List (List Bool)}
theorem Good.ext (G : Good n s l t) (x : Ext s s') (i : Inv s') : Good n s' l t :=
  ⟨i, by rw [x.vars]; exact G.vars, G.len, G.two, fun j f tt hl ht => by
    obtain ⟨a, b⟩ := G.cell j f tt hl ht
    exact ⟨x.in a, by rw [b]; exact tabOf_ext fun e => (x.D G.inv i a e).symm⟩⟩
theorem Good.push (G : Good n s l t) {f : Int} (hf : In s.l f) : Good n s (l ++ [f]) (t ++ [tabOf n fun e => D s.l e f]) :=
  ⟨G.inv, G.vars, by simp [G.len], by have := G.two; simp; omega, fun j g tt hl ht => by
    by_cases hj : j < l.length
    · rw [List.getElem?_append_left hj] at hl
      rw [List.getElem?_append_left (by rw [← G.len]; exact hj)] at ht
      exact G.cell j g tt hl ht
    · have : j = l.length := by
        have := (List.getElem?_eq_some_iff.1 hl).1
        simp at this; omega
      subst this
      rw [List.getElem?_append_right (by omega)] at hl
      rw [List.getElem?_append_right (by rw [G.len]; omega)] at ht
      simp at hl
      rw [G.len] at ht
      simp at ht
      subst hl; subst ht
      exact ⟨hf, rfl⟩⟩
theorem Good.get (G : Good n s l t) {a : Int} (h0 : 0 ≤ a) (h1 : a < l.length) : In s.l (lat l a) ∧ tab t a = tabOf n (fun e => D s.l e (lat l a)) := by
  have h2 : a.toNat < l.length := by omega
  have h3 : a.toNat < t.length := by rw [← G.len]; exact h2
  exact G.cell a.toNat (lat l a) (tab t a) (by simp [lat, h2]) (by simp [tab, h3])
theorem Good.depN (G : Good n s l t) {f : Int} (hf : In s.l f) : DepN n fun e => D s.l e f := G.inv.depN G.vars hf

structure Fits (x : ActF) (n made : Nat) : Prop where
  kind : 0 ≤ x.kind ∧ x.kind ≤ 7
  a0 : x.kind = 0 → 0 ≤ x.a ∧ x.a < n
  a : x.kind ≠ 0 → (0 ≤ x.a ∧ x.a < made) ∧ (0 ≤ x.b ∧ x.b < made) ∧ (0 ≤ x.c ∧ x.c < made)
  vars : ∀ v ∈ x.vars, 0 ≤ v ∧ v < n
  len : x.vars.length ≤ n
theorem fitF_in {v n : Int} (h : 0 < n) : 0 ≤ fitF v n ∧ fitF v n < n := ⟨Int.emod_nonneg _ (by omega), Int.emod_lt_of_pos _ h⟩
theorem fits_of (x : ActF) {n made : Nat} (hn : 0 < n) (hm : 0 < made) : Fits (fittedF x n made) n made where
  kind := by have := fitF_in (v := x.kind) (n := 8) (by omega); simp only [fittedF]; omega
  a0 := fun h => by simp only [fittedF] at h ⊢; rw [if_pos h]; exact fitF_in (by omega)
  a := fun h => by simp only [fittedF] at h ⊢; rw [if_neg h, if_neg h, if_neg h]; exact ⟨fitF_in (by omega), fitF_in (by omega), fitF_in (by omega)⟩
  vars := fun v hv => by
    simp only [fittedF, fitL] at hv
    obtain ⟨u, _, rfl⟩ := List.mem_map.1 hv
    exact fitF_in (by omega)
  len := by simp only [fittedF, fitL_len]; omega

def rng (n : Nat) : List Int := (List.range n).map fun (i : Nat) => (i : Int)
theorem rng_len (n : Nat) : (rng n).length = n := by simp [rng]
theorem Good.dep (G : Good n s l t) {f : Int} (hf : In s.l f) : Dep (fun e => D s.l e f) (rng n) := dep_depN.2 (G.depN hf)

theorem doT_plain {x : ActF} {φ : Env → Bool} (h6 : x.kind ≠ 6) (h7 : x.kind ≠ 7) (h : ∀ i, i < 2 ^ n → φ (envOf n i) = doBit n x t i) : tabOf n φ = doT n x t := by
  unfold doT
  rw [if_neg h6, if_neg h7]
  exact List.map_congr_left fun i hi => h i (List.mem_range.1 hi)

/-- An act, done. -/
theorem act_res (G : Good n s l t) {x : ActF} (F : Fits x n l.length) (hn : n ≤ 6) (hw : s.works + 400 ≤ big) (h7 : x.kind = 7 → renamesF (tab t x.a) n x.vars = true) :
    ∃ r s' φ, doF 100 x l s = some (r, s') ∧ Res s φ 400 r s' ∧ DepN n φ ∧ tabOf n φ = doT n x t := by
  have i := G.inv
  have hw0 := i.w0
  have hl := rng_len n
  have hv := G.vars
  have p6 : 2 ^ n ≤ 2 ^ 6 := Nat.pow_le_pow_right (by omega) hn
  have e6 : (2 : Nat) ^ 6 = 64 := rfl
  have hp1 : 1 ≤ 2 ^ n := Nat.one_le_two_pow
  have c6 : n * 2 ^ n ≤ 384 := by
    have := Nat.mul_le_mul hn p6
    omega
  have hc : ((2 ^ n - 1 : Nat) : Int) ≤ 400 := by omega
  have dc : ∀ b, DepN n fun _ => b := fun b _ _ _ => rfl
  unfold doF
  by_cases k0 : x.kind = 0
  · rw [if_pos k0]
    obtain ⟨a0, a1⟩ := F.a0 k0
    have hR : Res s (fun e => e x.a) 1 (varF s x.a).1 (varF s x.a).2 := by
      unfold varF
      rw [if_neg (by omega)]
      exact (make_res i a0 i.ok.in0 i.ok.in1 (by rw [i.ok.zero]; simp only; omega) (by rw [i.ok.one]; simp only; omega) (by show _ ≤ big; omega)).congr fun e => by
        rw [D_end e (f := 0) (by omega), D_end e (f := 1) (by omega)]; cases e x.a <;> rfl
    exact ⟨_, _, _, rfl, hR.mono (by omega), fun e e' he => he _ a0 a1, doT_plain (by omega) (by omega) fun j hj => by unfold doBit; rw [if_pos k0]; rfl⟩
  rw [if_neg k0]
  obtain ⟨⟨a0, a1⟩, ⟨b0, b1⟩, ⟨c0, c1⟩⟩ := F.a k0
  obtain ⟨ia, ta⟩ := G.get a0 a1
  obtain ⟨ib, tb⟩ := G.get b0 b1
  obtain ⟨ic, tc⟩ := G.get c0 c1
  generalize lat l x.a = f at *
  generalize lat l x.b = g at *
  generalize lat l x.c = h at *
  have da := G.depN ia
  have db := G.depN ib
  have dcc := G.depN ic
  have wb : ∀ {c : Nat}, c ≤ 400 → s.works + (c : Int) ≤ big := fun h => by omega
  by_cases k1 : x.kind = 1
  · rw [if_pos k1]
    obtain ⟨r, s', e, R⟩ := Ite_res (k := 100) i ia ib ic (G.dep ia) (G.dep ib) (G.dep ic) (by omega) (by rw [hl]; omega)
    rw [hl] at R
    refine ⟨r, s', _, e, R.mono (by omega), fun e e' he => ?_, doT_plain (by omega) (by omega) fun j hj => ?_⟩
    · have h1 := da e e' he
      have h2 := db e e' he
      have h3 := dcc e e' he
      simp only at h1 h2 h3 ⊢
      rw [h1, h2, h3]
    · unfold doBit
      rw [if_neg k0, if_pos k1, ta, tb, tc, tabOf_at _ hj, tabOf_at _ hj, tabOf_at _ hj]
      cases D s.l (envOf n j) f <;> simp
  rw [if_neg k1]
  by_cases k2 : x.kind = 2
  · rw [if_pos k2]
    obtain ⟨r, s', e, R⟩ := Ite_res (k := 100) i ia i.ok.in0 i.ok.in1 (G.dep ia) (dep_end (by omega) _) (dep_end (by omega) _) (by omega) (by rw [hl]; omega)
    rw [hl] at R
    refine ⟨r, s', fun e => !D s.l e f, e, (R.mono (by omega)).congr fun e => ?_, fun e e' he => ?_, doT_plain (by omega) (by omega) fun j hj => ?_⟩
    · rw [D_end e (f := 0) (by omega), D_end e (f := 1) (by omega)]; cases D s.l e f <;> rfl
    · have h1 := da e e' he
      simp only at h1 ⊢
      rw [h1]
    · unfold doBit
      rw [if_neg k0, if_neg k1, if_pos k2, ta, tabOf_at _ hj]
  rw [if_neg k2]
  by_cases k3 : x.kind = 3
  · rw [if_pos k3]
    obtain ⟨r, s', e, R⟩ := Ite_res (k := 100) i ia ib i.ok.in0 (G.dep ia) (G.dep ib) (dep_end (by omega) _) (by omega) (by rw [hl]; omega)
    rw [hl] at R
    refine ⟨r, s', fun e => D s.l e f && D s.l e g, e, (R.mono (by omega)).congr fun e => ?_, fun e e' he => ?_, doT_plain (by omega) (by omega) fun j hj => ?_⟩
    · rw [D_end e (f := 0) (by omega)]; cases D s.l e f <;> simp
    · have h1 := da e e' he
      have h2 := db e e' he
      simp only at h1 h2 ⊢
      rw [h1, h2]
    · unfold doBit
      rw [if_neg k0, if_neg k1, if_neg k2, if_pos k3, ta, tb, tabOf_at _ hj, tabOf_at _ hj]
  rw [if_neg k3]
  by_cases k4 : x.kind = 4
  · rw [if_pos k4]
    obtain ⟨r, s', e, R⟩ := Ite_res (k := 100) i ia i.ok.in1 ib (G.dep ia) (dep_end (by omega) _) (G.dep ib) (by omega) (by rw [hl]; omega)
    rw [hl] at R
    refine ⟨r, s', fun e => D s.l e f || D s.l e g, e, (R.mono (by omega)).congr fun e => ?_, fun e e' he => ?_, doT_plain (by omega) (by omega) fun j hj => ?_⟩
    · rw [D_end e (f := 1) (by omega)]; cases D s.l e f <;> simp
    · have h1 := da e e' he
      have h2 := db e e' he
      simp only at h1 h2 ⊢
      rw [h1, h2]
    · unfold doBit
      rw [if_neg k0, if_neg k1, if_neg k2, if_neg k3, if_pos k4, ta, tb, tabOf_at _ hj, tabOf_at _ hj]
  rw [if_neg k4]
  by_cases k5 : x.kind = 5
  · rw [if_pos k5]
    obtain ⟨r, s', e, R⟩ := iff_res (k := 100) i ia ib (G.dep ia) (G.dep ib) (by omega) (by rw [hl]; omega)
    rw [hl] at R
    refine ⟨r, s', _, e, R.mono (by omega), fun e e' he => ?_, doT_plain (by omega) (by omega) fun j hj => ?_⟩
    · have h1 := da e e' he
      have h2 := db e e' he
      simp only at h1 h2 ⊢
      rw [h1, h2]
    · unfold doBit
      rw [if_neg k0, if_neg k1, if_neg k2, if_neg k3, if_neg k4, ta, tb, tabOf_at _ hj, tabOf_at _ hj]
  rw [if_neg k5]
  by_cases k6 : x.kind = 6
  · rw [if_pos k6]
    obtain ⟨r, s', e, R⟩ := exists_res (k := 100) (vars := x.vars) i ia (fun v hv' => by rw [← hv]; exact F.vars v hv') (G.dep ia) (by omega) (by rw [hl]; omega)
    rw [hl] at R
    refine ⟨r, s', _, e, R.mono (by omega), exT_depN da _, ?_⟩
    unfold doT
    rw [if_pos k6, ta, existsT_tab _ _ da F.vars]
  rw [if_neg k6]
  have k7 : x.kind = 7 := by have := F.kind; omega
  have hren := h7 k7
  have hlen : x.vars.length = n := by
    simp only [renamesF, Bool.and_eq_true, decide_eq_true_eq] at hren; exact hren.1
  obtain ⟨out, es, hnd, hkeys⟩ := support_res (k := 100) i ia (by omega)
  have hcl : clash x.vars (out.map (·.1)) = false := by
    rw [renames_clash i hv ia hlen F.vars hnd hkeys da, ← ta, hren]; rfl
  obtain ⟨r, s', d', e, R⟩ := rename_res (k := 100) (to := x.vars) i ia (by omega) (fun v hv' => by rw [← hv]; exact F.vars v hv') (G.dep ia) (by omega) (by rw [hl]; omega)
  rw [hl] at R
  have hto : ∀ v, v < n → 0 ≤ toAt x.vars v ∧ toAt x.vars v < n := fun v hv' => by
    have : toAt x.vars v = x.vars[v]'(by omega) := by simp [toAt, hlen, hv']
    rw [this]; exact F.vars _ (List.getElem_mem _)
  refine ⟨r, s', _, ?_, R.mono (by omega), reT_dep da hto, ?_⟩
  · unfold renameF
    rw [if_neg (by rw [inB_in.2 ia]; simp), if_neg, es]
    · simp only [hcl, Bool.false_eq_true, if_false, e, Option.map_some]
    · rw [not_or]
      refine ⟨by omega, ?_⟩
      simp only [List.any_eq_true, not_exists, not_and]
      intro v hv'
      have := F.vars v hv'
      simp [badVar]; omega
  · unfold doT
    rw [if_neg (by omega), if_pos k7, ta, renameT_tab da hto]

theorem act_no (G : Good n s l t) {x : ActF} (F : Fits x n l.length) (hn : n ≤ 6) (k7 : x.kind = 7) (h7 : renamesF (tab t x.a) n x.vars = false) : doF 100 x l s = some ((0, 91), s) := by
  have i := G.inv
  have hv := G.vars
  obtain ⟨⟨a0, a1⟩, _⟩ := F.a (by omega)
  obtain ⟨ia, ta⟩ := G.get a0 a1
  unfold doF
  rw [if_neg (by omega), if_neg (by omega), if_neg (by omega), if_neg (by omega), if_neg (by omega), if_neg (by omega), if_neg (by omega)]
  unfold renameF
  rw [if_neg (by rw [inB_in.2 ia]; simp)]
  by_cases hlen : x.vars.length = n
  · rw [if_neg]
    · obtain ⟨out, es, hnd, hkeys⟩ := support_res (k := 100) i ia (by omega)
      have hcl : clash x.vars (out.map (·.1)) = true := by
        rw [renames_clash i hv ia hlen F.vars hnd hkeys (G.depN ia), ← ta, h7]; rfl
      rw [es]
      simp only [hcl, if_true]
    · rw [not_or]
      refine ⟨by omega, ?_⟩
      simp only [List.any_eq_true, not_exists, not_and]
      intro v hv'
      have := F.vars v hv'
      simp [badVar]; omega
  · rw [if_pos (.inl (by omega))]

theorem act_keys (G : Good n s l t) {x : ActF} (F : Fits x n l.length) (hn : n ≤ 6) (k7 : x.kind = 7) (hl : (x.vars.length : Int) = s.vars) : ∀ out, supportF 100 s (lat l x.a) = some out → ∀ v ∈ out.map (·.1), (nth x.vars v).isSome = true := by
  intro out ho v hv
  have i := G.inv
  have hvv := G.vars
  obtain ⟨⟨a0, a1⟩, _⟩ := F.a (by omega)
  obtain ⟨ia, ta⟩ := G.get a0 a1
  obtain ⟨out', es, hnd, hkeys⟩ := support_res (k := 100) i ia (by omega)
  rw [es, Option.some.injEq] at ho
  subst ho
  obtain ⟨g, a, b, c⟩ := (asks_iff i.ok ia).1 ((hkeys v).1 hv)
  obtain ⟨ing, _, _⟩ := reach_in i.ok a ia
  have hk := i.ok.node g b ing.2
  have h0 := hk.v0
  have h1 := hk.vn
  rw [c] at h0 h1
  rw [nth_to ⟨h0, by simp; omega⟩]; rfl
end
end Go.Bdd
