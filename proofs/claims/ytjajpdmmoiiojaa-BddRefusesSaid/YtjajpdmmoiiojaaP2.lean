/- Plain laws of decision diagrams: what ite, over, Exists and Rename leave. No program in sight. -/
import Derived.Test.YtjajpdmmoiiojaaP1
namespace Go.Bdd
open Go.Mem Go.RowKit

theorem mn3_le (a b c : Int) : mn3 a b c ≤ a ∧ mn3 a b c ≤ b ∧ mn3 a b c ≤ c ∧ (mn3 a b c = a ∨ mn3 a b c = b ∨ mn3 a b c = c) := by
  unfold mn3; split <;> split <;> omega

structure SideOk (l : List T3) (S : List Int) (f m : Int) (p : Int × Int) : Prop where
  i0 : In l p.1
  i1 : In l p.2
  v0 : m < (nd l p.1).1
  v1 : m < (nd l p.2).1
  d : ∀ e, D l e f = if e m then D l e p.2 else D l e p.1
  s0 : Dep (fun e => D l e p.1) (S.erase m)
  s1 : Dep (fun e => D l e p.2) (S.erase m)
theorem side_ok {n : Int} {l : List T3} (ok : Ok n l) {S : List Int} {f m : Int} (hf : In l f) (hm : m ≤ (nd l f).1) (hn : m < n) (hS : Dep (fun e => D l e f) S) : ∃ p, sideF l f m = some p ∧ SideOk l S f m p := by
  unfold sideF
  rw [nth_in hf, Option.map_some]
  by_cases hv : (nd l f).1 = m
  · have h2 := ok.var_lt hf (by omega)
    have hk := ok.node f h2 hf.2
    rw [if_pos hv]
    subst hv
    exact ⟨_, rfl, ok.lo_in h2 hf, ok.hi_in h2 hf, hk.vlo, hk.vhi, fun e => D_node ok e h2 hf, hS.lo ok h2 hf, hS.hi ok h2 hf⟩
  · rw [if_neg hv]
    have hlt : m < (nd l f).1 := by omega
    have hd : Dep (fun e => D l e f) (S.erase m) := by
      have := dep_upd (v := m) (b := false) hS
      simpa only [D_upd ok _ false hf hlt] using this
    exact ⟨_, rfl, hf, hf, hlt, hlt, fun e => by simp, hd, hd⟩

theorem known_inv {s : Sto} (h : Inv s) {f g k r : Int} (hf : In s.l f) (hg : In s.l g) (hk : In s.l k) (hr : In s.l r) (hd : ∀ e, D s.l e r = if D s.l e f then D s.l e g else D s.l e k) : Inv { s with known := mput s.known (f, g, k) r } :=
  ⟨h.vars, h.ok, h.find, fun f' g' k' r' hm => by
    rw [mget_mput] at hm
    by_cases he : (f, g, k) = (f', g', k')
    · rw [if_pos he, Option.some.injEq] at hm
      cases he; subst hm
      exact ⟨hf, hg, hk, hr, hd⟩
    · rw [if_neg he] at hm
      exact h.known _ _ _ _ hm, h.w0, h.size, h.room⟩

theorem dep_ext {s s' : Sto} (x : Ext s s') (i : Inv s) (i' : Inv s') {f : Int} (hf : In s.l f) {S : List Int} (h : Dep (fun e => D s.l e f) S) : Dep (fun e => D s'.l e f) S := fun e e' he => by
  show D s'.l e f = D s'.l e' f
  rw [x.D i i' hf, x.D i i' hf]; exact h e e' he

abbrev big : Int := 18446744073709551615

theorem ite_res : ∀ (k : Nat) (S : List Int) (s : Sto) (f g h : Int), Inv s → In s.l f → In s.l g → In s.l h → Dep (fun e => D s.l e f) S → Dep (fun e => D s.l e g) S → Dep (fun e => D s.l e h) S → S.length < k → s.works + ((2 ^ S.length - 1 : Nat) : Int) ≤ big →
    ∃ r s', iteF k s f g h = some (r, s') ∧ Res s (fun e => if D s.l e f then D s.l e g else D s.l e h) (2 ^ S.length - 1) r s'
  | 0, S, s, f, g, h, i, hf, hg, hh, df, dg, dh, hk, hw => by omega
  | k + 1, S, s, f, g, h, i, hf, hg, hh, df, dg, dh, hk, hw => by
    have hw0 := i.w0
    have ok := i.ok
    unfold iteF
    by_cases c1 : f = 1 ∨ g = h
    · rw [if_pos c1]
      refine ⟨_, _, rfl, i, Ext.refl s, by omega, .inl ⟨rfl, hg, fun e => ?_⟩⟩
      rcases c1 with rfl | rfl
      · rw [D_end (f := 1) e (by omega)]; simp
      · simp
    rw [if_neg c1]
    by_cases c2 : f = 0
    · rw [if_pos c2]
      refine ⟨_, _, rfl, i, Ext.refl s, by omega, .inl ⟨rfl, hh, fun e => ?_⟩⟩
      subst c2
      rw [D_end (f := 0) e (by omega)]; simp
    rw [if_neg c2]
    by_cases c3 : g = 1 ∧ h = 0
    · rw [if_pos c3]
      refine ⟨_, _, rfl, i, Ext.refl s, by omega, .inl ⟨rfl, hf, fun e => ?_⟩⟩
      obtain ⟨rfl, rfl⟩ := c3
      rw [D_end (f := 1) e (by omega), D_end (f := 0) e (by omega)]
      cases D s.l e f <;> simp
    rw [if_neg c3]
    unfold iteRest
    cases hkn : mget s.known (f, g, h) with
    | some r =>
      obtain ⟨_, _, _, a, b⟩ := i.known _ _ _ _ hkn
      exact ⟨_, _, rfl, i.opened, ext_opened s, by show s.works ≤ _; omega, .inl ⟨rfl, a, b⟩⟩
    | none =>
      simp only [nth_in hf, nth_in hg, nth_in hh]
      obtain ⟨m1, m2, m3, me⟩ := mn3_le (nd s.l f).1 (nd s.l g).1 (nd s.l h).1
      generalize hm : mn3 (nd s.l f).1 (nd s.l g).1 (nd s.l h).1 = m at *
      have f2 : 2 ≤ f := by have := hf.1; omega
      have hmn : m < s.vars := by have := (ok.node f f2 hf.2).vn; omega
      have hm0 : 0 ≤ m := by
        rcases me with e | e | e
        · rw [e]; exact (ok.node f f2 hf.2).v0
        · rw [e]; exact (ok.node g (ok.var_lt hg (by omega)) hg.2).v0
        · rw [e]; exact (ok.node h (ok.var_lt hh (by omega)) hh.2).v0
      have hmS : m ∈ S := by
        rcases me with e | e | e
        · rw [e]; exact df.top ok f2 hf
        · rw [e]; exact dg.top ok (ok.var_lt hg (by omega)) hg
        · rw [e]; exact dh.top ok (ok.var_lt hh (by omega)) hh
      have hSl := List.length_erase_of_mem hmS
      have hSp : 0 < S.length := List.length_pos_of_mem hmS
      obtain ⟨⟨f0, f1⟩, ef, sf⟩ := side_ok ok hf m1 hmn df
      obtain ⟨⟨g0, g1⟩, eg, sg⟩ := side_ok ok hg m2 hmn dg
      obtain ⟨⟨h0, h1⟩, eh, sh⟩ := side_ok ok hh m3 hmn dh
      simp only [ef, eg, eh]
      have hp : 2 ^ S.length = 2 * 2 ^ (S.erase m).length := by rw [hSl, ← Nat.pow_succ']; congr 1; omega
      have hp1 : 1 ≤ 2 ^ (S.erase m).length := Nat.one_le_two_pow
      generalize hq : 2 ^ (S.erase m).length = q at *
      obtain ⟨r0, s0, e0, R0⟩ := ite_res k (S.erase m) (opened s) f0 g0 h0 i.opened sf.i0 sg.i0 sh.i0 sf.s0 sg.s0 sh.s0 (by omega) (by show s.works + _ ≤ _; rw [hq]; omega)
      rw [hq] at R0
      have x0 : Ext s s0 := (ext_opened s).trans R0.ext
      have w0 : s0.works ≤ s.works + (q - 1 : Nat) := R0.cost
      simp only [e0]
      rcases R0.ans with ⟨z0, n0, d0⟩ | ⟨rfl, hroom⟩
      case inr =>
        rw [if_pos (by decide)]
        exact ⟨_, _, rfl, R0.inv, x0, by omega, .inr ⟨rfl, hroom⟩⟩
      rw [if_neg (by omega)]
      have i0 := R0.inv
      have i0w := i0.w0
      obtain ⟨r1, s1, e1, R1⟩ := ite_res k (S.erase m) s0 f1 g1 h1 i0 (x0.in sf.i1) (x0.in sg.i1) (x0.in sh.i1) (dep_ext x0 i i0 sf.i1 sf.s1) (dep_ext x0 i i0 sg.i1 sg.s1) (dep_ext x0 i i0 sh.i1 sh.s1) (by omega) (by rw [hq]; omega)
      rw [hq] at R1
      have x1 : Ext s s1 := x0.trans R1.ext
      have w1 : s1.works ≤ s0.works + (q - 1 : Nat) := R1.cost
      simp only [e1]
      rcases R1.ans with ⟨z1, n1, d1⟩ | ⟨rfl, hroom⟩
      case inr =>
        rw [if_pos (by decide)]
        exact ⟨_, _, rfl, R1.inv, x1, by omega, .inr ⟨rfl, hroom⟩⟩
      rw [if_neg (by omega)]
      have i1 := R1.inv
      have i1w := i1.w0
      have dd0 : ∀ e, D s1.l e r0.1 = if D s.l e f0 then D s.l e g0 else D s.l e h0 := fun e => by
        rw [R1.ext.D i0 i1 n0, d0]; rfl
      have dd1 : ∀ e, D s1.l e r1.1 = if D s.l e f1 then D s.l e g1 else D s.l e h1 := fun e => by
        rw [d1, x0.D i i0 sf.i1, x0.D i i0 sg.i1, x0.D i i0 sh.i1]
      have v0 : m < (nd s1.l r0.1).1 := var_ge i1.ok (R1.ext.in n0) (m := m + 1) (by rw [x1.vars]; omega) fun e e' he => by
        have hag := fun {x : Int} (hx : In s.l x) (hv : m < (nd s.l x).1) => D_agree ok (fun v hv _ => he v hv) hx hv
        rw [dd0, dd0, hag sf.i0 sf.v0, hag sg.i0 sg.v0, hag sh.i0 sh.v0]
      have v1 : m < (nd s1.l r1.1).1 := var_ge i1.ok n1 (m := m + 1) (by rw [x1.vars]; omega) fun e e' he => by
        have hag := fun {x : Int} (hx : In s.l x) (hv : m < (nd s.l x).1) => D_agree ok (fun v hv _ => he v hv) hx hv
        rw [dd1, dd1, hag sf.i1 sf.v1, hag sg.i1 sg.v1, hag sh.i1 sh.v1]
      have R2 := make_res i1 hm0 (R1.ext.in n0) n1 v0 v1 (by show _ ≤ big; omega)
      generalize hmk : makeF s1 m r0.1 r1.1 = M at *
      obtain ⟨r, s2⟩ := M
      have x2 : Ext s s2 := x1.trans R2.ext
      have w2 : s2.works ≤ s1.works + (1 : Nat) := R2.cost
      refine ⟨_, _, rfl, ?_⟩
      simp only
      rcases R2.ans with ⟨z2, n2, d2⟩ | ⟨hrr, hroom⟩
      · simp only at z2
        rw [if_pos z2]
        have dd2 : ∀ e, D s2.l e r.1 = if D s2.l e f then D s2.l e g else D s2.l e h := fun e => by
          rw [d2, dd0, dd1, x2.D i R2.inv hf, x2.D i R2.inv hg, x2.D i R2.inv hh, sf.d, sg.d, sh.d]
          cases e m <;> simp
        exact ⟨known_inv R2.inv (x2.in hf) (x2.in hg) (x2.in hh) n2 dd2, ⟨x2.vars, x2.room, x2.l, x2.works⟩, by show s2.works ≤ _; omega, .inl ⟨z2, n2, fun e => by
          show D s2.l e r.1 = _
          rw [dd2, x2.D i R2.inv hf, x2.D i R2.inv hg, x2.D i R2.inv hh]⟩⟩
      · simp only at hrr
        subst hrr
        rw [if_neg (by decide)]
        exact ⟨R2.inv, x2, by show s2.works ≤ _; omega, .inr ⟨rfl, hroom⟩⟩

theorem inB_in {s : Sto} {f : Int} : inB s f = true ↔ In s.l f := by simp [inB, In]
theorem inB_not {s : Sto} {f : Int} : inB s f = false ↔ ¬ In s.l f := by rw [← inB_in]; simp

theorem Ite_res {k : Nat} {S : List Int} {s : Sto} {f g h : Int} (i : Inv s) (hf : In s.l f) (hg : In s.l g) (hh : In s.l h) (df : Dep (fun e => D s.l e f) S) (dg : Dep (fun e => D s.l e g) S) (dh : Dep (fun e => D s.l e h) S) (hk : S.length < k) (hw : s.works + ((2 ^ S.length - 1 : Nat) : Int) ≤ big) :
    ∃ r s', IteF k s f g h = some (r, s') ∧ Res s (fun e => if D s.l e f then D s.l e g else D s.l e h) (2 ^ S.length - 1) r s' := by
  unfold IteF
  rw [if_pos (by simp [inB_in.2 hf, inB_in.2 hg, inB_in.2 hh])]
  exact ite_res k S s f g h i hf hg hh df dg dh hk hw

theorem dep_const (b : Bool) (S : List Int) : Dep (fun _ => b) S := fun _ _ _ => rfl
theorem dep_end {l : List T3} {f : Int} (h : f < 2) (S : List Int) : Dep (fun e => D l e f) S := fun e e' _ => by
  show D l e f = D l e' f
  rw [D_end e h, D_end e' h]

theorem iff_res {k : Nat} {S : List Int} {s : Sto} {f g : Int} (i : Inv s) (hf : In s.l f) (hg : In s.l g) (df : Dep (fun e => D s.l e f) S) (dg : Dep (fun e => D s.l e g) S) (hk : S.length < k) (hw : s.works + ((2 * 2 ^ S.length : Nat) : Int) ≤ big) :
    ∃ r s', iffF k s f g = some (r, s') ∧ Res s (fun e => D s.l e f == D s.l e g) (2 * 2 ^ S.length) r s' := by
  have hw0 := i.w0
  have hp1 : 1 ≤ 2 ^ S.length := Nat.one_le_two_pow
  obtain ⟨r0, s0, e0, R0⟩ := Ite_res (k := k) i hg i.ok.in0 i.ok.in1 dg (dep_end (by omega) S) (dep_end (by omega) S) hk (by omega)
  have c0 := R0.cost
  unfold iffF
  simp only [e0]
  rcases R0.ans with ⟨z0, n0, d0⟩ | ⟨rfl, hroom⟩
  case inr =>
    rw [if_pos (by decide)]
    exact ⟨_, _, rfl, R0.inv, R0.ext, by omega, .inr ⟨rfl, hroom⟩⟩
  rw [if_neg (by omega)]
  have x0 := R0.ext
  have i0 := R0.inv
  have dn : Dep (fun e => D s0.l e r0.1) S := fun e e' he => by
    show D s0.l e r0.1 = D s0.l e' r0.1
    rw [d0, d0]
    have := dg e e' he
    simp only at this
    rw [this, D_end e (f := 0) (by omega), D_end e (f := 1) (by omega), D_end e' (f := 0) (by omega), D_end e' (f := 1) (by omega)]
  obtain ⟨r1, s1, e1, R1⟩ := Ite_res (k := k) i0 (x0.in hf) (x0.in hg) n0 (dep_ext x0 i i0 hf df) (dep_ext x0 i i0 hg dg) dn hk (by have := i0.w0; omega)
  refine ⟨_, _, e1, R1.inv, x0.trans R1.ext, by have := R1.cost; omega, ?_⟩
  rcases R1.ans with ⟨z1, n1, d1⟩ | h
  · refine .inl ⟨z1, n1, fun e => ?_⟩
    rw [d1, x0.D i i0 hf, x0.D i i0 hg, d0, D_end e (f := 0) (by omega), D_end e (f := 1) (by omega)]
    cases D s.l e f <;> cases D s.l e g <;> rfl
  · exact .inr h

/-! ### over -/
/-- What a diagram of so many variables costs, where each node costs so much. -/
def Rc (c : Nat → Nat) : Nat → Nat
  | 0 => 0
  | k + 1 => 2 * Rc c k + c (k + 1)

structure Op (s0 : Sto) (T : (Env → Bool) → Env → Bool) (c : Nat → Nat) (K : Nat) (one : Sto → Int → Int → Int → Option ((Int × Int) × Sto)) : Prop where
  t0 : ∀ e, T (fun _ => false) e = false
  t1 : ∀ e, T (fun _ => true) e = true
  call : ∀ s f no yes S, Inv s → Ext s0 s → 2 ≤ f → In s0.l f → Dep (fun e => D s0.l e f) S → S.length < K → In s.l no → In s.l yes → (∀ e, D s.l e no = T (fun e => D s0.l e (nd s0.l f).2.1) e) → (∀ e, D s.l e yes = T (fun e => D s0.l e (nd s0.l f).2.2) e) →
    s.works + (c S.length : Int) ≤ big → ∃ r s', one s (nd s0.l f).1 no yes = some (r, s') ∧ Res s (T fun e => D s0.l e f) (c S.length) r s'

def Done (s0 : Sto) (T : (Env → Bool) → Env → Bool) (s : Sto) (d : List (Int × Int)) : Prop :=
  ∀ g r, mget d g = some r → In s0.l g ∧ In s.l r ∧ ∀ e, D s.l e r = T (fun e => D s0.l e g) e
theorem Done.ext {s0 s s' : Sto} {T : (Env → Bool) → Env → Bool} {d : List (Int × Int)} (h : Done s0 T s d) (x : Ext s s') (i : Inv s) (i' : Inv s') : Done s0 T s' d := fun g r hg => by
  obtain ⟨a, b, c⟩ := h g r hg
  exact ⟨a, x.in b, fun e => by rw [x.D i i' b, c]⟩

theorem over_res {s0 : Sto} {T : (Env → Bool) → Env → Bool} {c : Nat → Nat} {K : Nat} {one : Sto → Int → Int → Int → Option ((Int × Int) × Sto)} (i0 : Inv s0) (O : Op s0 T c K one) :
    ∀ (k : Nat) (S : List Int) (s : Sto) (d : List (Int × Int)) (f : Int), Inv s → Ext s0 s → In s0.l f → Dep (fun e => D s0.l e f) S → S.length < k → S.length < K → Done s0 T s d → s.works + (Rc c S.length : Int) ≤ big →
      ∃ r s' d', overF Sto.l one k s d f = some (r, s', d') ∧ Res s (T fun e => D s0.l e f) (Rc c S.length) r s' ∧ Done s0 T s' d'
  | 0, S, s, d, f, i, x, hf, hS, hk, hK, hd, hw => by omega
  | k + 1, S, s, d, f, i, x, hf, hS, hk, hK, hd, hw => by
    have hw0 := i.w0
    unfold overF
    by_cases h2 : f < 2
    · rw [if_pos h2]
      refine ⟨_, _, _, rfl, ⟨i, Ext.refl s, by omega, .inl ⟨rfl, x.in hf, fun e => ?_⟩⟩, hd⟩
      rw [D_end e h2]
      have : f = 0 ∨ f = 1 := by have := hf.1; omega
      have hc : (fun e => D s0.l e f) = fun _ => (f == 1) := funext fun e => D_end e h2
      rw [hc]
      rcases this with rfl | rfl
      · exact (O.t0 e).symm
      · exact (O.t1 e).symm
    rw [if_neg h2]
    cases hg : mget d f with
    | some r =>
      obtain ⟨_, a, b⟩ := hd f r hg
      exact ⟨_, _, _, rfl, ⟨i, Ext.refl s, by omega, .inl ⟨rfl, a, b⟩⟩, hd⟩
    | none =>
      have h2' : 2 ≤ f := by omega
      have ok := i0.ok
      have hS0 := hS.top ok h2' hf
      have hSl := List.length_erase_of_mem hS0
      have hSp : 0 < S.length := List.length_pos_of_mem hS0
      simp only [nth_in (x.in hf), x.nd hf]
      have hR : Rc c S.length = 2 * Rc c (S.erase (nd s0.l f).1).length + c S.length := by
        obtain ⟨j, hj⟩ : ∃ j, S.length = j + 1 := ⟨S.length - 1, by omega⟩
        rw [hSl, hj]; rfl
      generalize hq : Rc c (S.erase (nd s0.l f).1).length = q at *
      obtain ⟨r0, s1, d1, e0, R0, D0⟩ := over_res i0 O k (S.erase (nd s0.l f).1) s d _ i x (ok.lo_in h2' hf) (hS.lo ok h2' hf) (by omega) (by omega) hd (by rw [hq]; omega)
      rw [hq] at R0
      have w0 := R0.cost
      simp only [e0]
      rcases R0.ans with ⟨z0, n0, dd0⟩ | ⟨rfl, hroom⟩
      case inr =>
        rw [if_pos (by decide)]
        exact ⟨_, _, _, rfl, ⟨R0.inv, R0.ext, by omega, .inr ⟨rfl, hroom⟩⟩, D0⟩
      rw [if_neg (by omega)]
      have i1 := R0.inv
      have i1w := i1.w0
      obtain ⟨r1, s2, d2, e1, R1, D1⟩ := over_res i0 O k (S.erase (nd s0.l f).1) s1 d1 _ i1 (x.trans R0.ext) (ok.hi_in h2' hf) (hS.hi ok h2' hf) (by omega) (by omega) D0 (by rw [hq]; omega)
      rw [hq] at R1
      have w1 := R1.cost
      simp only [e1]
      rcases R1.ans with ⟨z1, n1, dd1⟩ | ⟨rfl, hroom⟩
      case inr =>
        rw [if_pos (by decide)]
        exact ⟨_, _, _, rfl, ⟨R1.inv, R0.ext.trans R1.ext, by omega, .inr ⟨rfl, hroom⟩⟩, D1⟩
      rw [if_neg (by omega)]
      have i2 := R1.inv
      obtain ⟨r, s3, e2, R2⟩ := O.call s2 f r0.1 r1.1 S i2 ((x.trans R0.ext).trans R1.ext) h2' hf hS hK (R1.ext.in n0) n1 (fun e => by rw [R1.ext.D i1 i2 n0, dd0]) dd1 (by omega)
      have w2 := R2.cost
      simp only [e2]
      refine ⟨_, _, _, rfl, ⟨R2.inv, (R0.ext.trans R1.ext).trans R2.ext, by omega, R2.ans⟩, ?_⟩
      have D2 := D1.ext R2.ext i2 R2.inv
      rcases R2.ans with ⟨z2, n2, dd2⟩ | ⟨hr, _⟩
      · rw [if_pos z2]
        intro g u hg
        rw [mget_mput] at hg
        by_cases hgf : f = g
        · subst hgf
          rw [if_pos rfl, Option.some.injEq] at hg
          subst hg
          exact ⟨hf, n2, dd2⟩
        · rw [if_neg hgf] at hg
          exact D2 g u hg
      · subst hr
        rw [if_neg (by decide)]
        exact D2

theorem Rc_pow (k : Nat) : Rc (fun k => 2 ^ k) k = k * 2 ^ k := by
  induction k with
  | zero => rfl
  | succ k ih => simp only [Rc, ih, Nat.pow_succ]; rw [Nat.add_mul, Nat.one_mul, Nat.mul_comm 2 (k * 2 ^ k), Nat.mul_assoc]

/-! ### Exists -/
open Classical in
/-- What is true where a truth can be, some variables being somehow. -/
noncomputable def exT (vars : List Int) (φ : Env → Bool) (e : Env) : Bool := decide (∃ e', (∀ v, v ∉ vars → e' v = e v) ∧ φ e' = true)
theorem exT_iff {vars : List Int} {φ : Env → Bool} {e : Env} : exT vars φ e = true ↔ ∃ e', (∀ v, v ∉ vars → e' v = e v) ∧ φ e' = true := by simp [exT]
theorem exT_dep {vars : List Int} {φ : Env → Bool} {P : Int → Prop} (h : ∀ e e' : Env, (∀ v, P v → e v = e' v) → φ e = φ e') {e e' : Env} (he : ∀ v, P v → e v = e' v) : exT vars φ e = exT vars φ e' := by
  have one : ∀ e e' : Env, (∀ v, P v → e v = e' v) → exT vars φ e = true → exT vars φ e' = true := fun e e' he hx => by
    obtain ⟨e1, h1, h2⟩ := exT_iff.1 hx
    classical
    refine exT_iff.2 ⟨fun u => if P u then e1 u else e' u, fun v hv => ?_, ?_⟩
    · show (if P v then e1 v else e' v) = e' v
      by_cases hP : P v
      · rw [if_pos hP, h1 v hv, he v hP]
      · rw [if_neg hP]
    · rw [← h2]
      exact h _ _ fun v hv => by show (if P v then e1 v else e' v) = e1 v; rw [if_pos hv]
  exact Bool.eq_iff_iff.2 ⟨one _ _ he, one _ _ fun v hv => (he v hv).symm⟩

theorem exists_op {s0 : Sto} (i0 : Inv s0) (vars : List Int) (K : Nat) : Op s0 (exT vars) (fun k => 2 ^ k) K (existsOne K vars) where
  t0 := fun e => by rw [Bool.eq_false_iff]; intro h; obtain ⟨_, _, h⟩ := exT_iff.1 h; simp at h
  t1 := fun e => exT_iff.2 ⟨e, fun _ _ => rfl, rfl⟩
  call := fun s f no yes S i x h2 hf hS hK hno hyes dno dyes hw => by
    have ok := i0.ok
    have hn := ok.node f h2 hf.2
    have hp1 : 1 ≤ 2 ^ S.length := Nat.one_le_two_pow
    have Tlo : ∀ e e' : Env, (∀ v, (nd s0.l f).1 < v → e v = e' v) → D s.l e no = D s.l e' no := fun e e' he => by
      rw [dno, dno]
      exact exT_dep (P := fun v => (nd s0.l f).1 < v) (fun e e' he => D_agree ok (m := (nd s0.l f).1 + 1) (fun v hv _ => he v hv) (ok.lo_in h2 hf) hn.vlo) he
    have Thi : ∀ e e' : Env, (∀ v, (nd s0.l f).1 < v → e v = e' v) → D s.l e yes = D s.l e' yes := fun e e' he => by
      rw [dyes, dyes]
      exact exT_dep (P := fun v => (nd s0.l f).1 < v) (fun e e' he => D_agree ok (m := (nd s0.l f).1 + 1) (fun v hv _ => he v hv) (ok.hi_in h2 hf) hn.vhi) he
    unfold existsOne
    by_cases hv : (nd s0.l f).1 ∈ vars
    · rw [if_pos hv]
      have S0 : Dep (fun e => D s.l e no) S := fun e e' he => by
        show D s.l e no = D s.l e' no
        rw [dno, dno]
        exact exT_dep (P := fun v => v ∈ S) (fun e e' he => ((hS.lo ok h2 hf).mono fun v hv => List.mem_of_mem_erase hv) e e' he) he
      have S1 : Dep (fun e => D s.l e yes) S := fun e e' he => by
        show D s.l e yes = D s.l e' yes
        rw [dyes, dyes]
        exact exT_dep (P := fun v => v ∈ S) (fun e e' he => ((hS.hi ok h2 hf).mono fun v hv => List.mem_of_mem_erase hv) e e' he) he
      obtain ⟨r, s', e1, R⟩ := ite_res K S s no 1 yes i hno i.ok.in1 hyes S0 (dep_end (by omega) S) S1 hK (by omega)
      refine ⟨r, s', e1, (R.mono (by omega)).congr fun e => ?_⟩
      rw [D_end e (f := 1) (by omega), dno, dyes, Bool.eq_iff_iff]
      have hb : (if exT vars (fun e => D s0.l e (nd s0.l f).2.1) e = true then ((1 : Int) == 1) else exT vars (fun e => D s0.l e (nd s0.l f).2.2) e) = true ↔ exT vars (fun e => D s0.l e (nd s0.l f).2.1) e = true ∨ exT vars (fun e => D s0.l e (nd s0.l f).2.2) e = true := by
        cases exT vars (fun e => D s0.l e (nd s0.l f).2.1) e <;> simp
      rw [hb, exT_iff (φ := fun e => D s0.l e f)]
      constructor
      · rintro (h | h)
        · obtain ⟨e1, a, b⟩ := exT_iff.1 h
          refine ⟨upd e1 (nd s0.l f).1 false, fun v hv' => ?_, ?_⟩
          · rw [upd_ne _ _ (fun h => hv' (by rw [h]; exact hv))]; exact a v hv'
          · rw [D_lo ok e1 h2 hf]; exact b
        · obtain ⟨e1, a, b⟩ := exT_iff.1 h
          refine ⟨upd e1 (nd s0.l f).1 true, fun v hv' => ?_, ?_⟩
          · rw [upd_ne _ _ (fun h => hv' (by rw [h]; exact hv))]; exact a v hv'
          · rw [D_hi ok e1 h2 hf]; exact b
      · rintro ⟨e1, a, b⟩
        rw [D_node ok e1 h2 hf] at b
        cases h : e1 (nd s0.l f).1
        · rw [h] at b; exact .inl (exT_iff.2 ⟨e1, a, by simpa using b⟩)
        · rw [h] at b; exact .inr (exT_iff.2 ⟨e1, a, by simpa using b⟩)
    · rw [if_neg hv]
      have hvn : (nd s0.l f).1 + 1 ≤ s.vars := by rw [x.vars]; exact hn.vn
      have R := make_res i hn.v0 hno hyes (var_ge i.ok hno hvn fun e e' he => Tlo e e' he) (var_ge i.ok hyes hvn fun e e' he => Thi e e' he) (by show _ ≤ big; omega)
      refine ⟨_, _, rfl, (R.mono hp1).congr fun e => ?_⟩
      rw [dno, dyes]
      cases h : e (nd s0.l f).1
      · simp only [Bool.false_eq_true, if_false]
        rw [Bool.eq_iff_iff, exT_iff, exT_iff]
        constructor
        · rintro ⟨e1, a, b⟩; exact ⟨e1, a, by rw [D_node ok e1 h2 hf, a _ hv, h]; simpa using b⟩
        · rintro ⟨e1, a, b⟩; exact ⟨e1, a, by rw [D_node ok e1 h2 hf, a _ hv, h] at b; simpa using b⟩
      · simp only [if_true]
        rw [Bool.eq_iff_iff, exT_iff, exT_iff]
        constructor
        · rintro ⟨e1, a, b⟩; exact ⟨e1, a, by rw [D_node ok e1 h2 hf, a _ hv, h]; simpa using b⟩
        · rintro ⟨e1, a, b⟩; exact ⟨e1, a, by rw [D_node ok e1 h2 hf, a _ hv, h] at b; simpa using b⟩

theorem exists_res {k : Nat} {S : List Int} {s : Sto} {f : Int} {vars : List Int} (i : Inv s) (hf : In s.l f) (hv : ∀ v ∈ vars, 0 ≤ v ∧ v < s.vars) (hS : Dep (fun e => D s.l e f) S) (hk : S.length < k) (hw : s.works + ((S.length * 2 ^ S.length : Nat) : Int) ≤ big) :
    ∃ r s', existsF k s f vars = some (r, s') ∧ Res s (exT vars fun e => D s.l e f) (S.length * 2 ^ S.length) r s' := by
  obtain ⟨r, s', d', e, R, _⟩ := over_res i (exists_op i vars k) k S s [] f i (Ext.refl s) hf hS hk hk (fun g r h => by simp [mget] at h) (by rw [Rc_pow]; exact hw)
  unfold existsF
  rw [if_neg (by rw [inB_in.2 hf]; simp), if_neg, e]
  · rw [Rc_pow] at R
    exact ⟨_, _, rfl, R⟩
  · simp only [List.any_eq_true, not_exists, not_and]
    intro v hv'
    have := hv v hv'
    simp [badVar]; omega

/-! ### Rename -/
def toE (to : List Int) (e : Env) : Env := fun v => e (toAt to v.toNat)
def reT (to : List Int) (φ : Env → Bool) (e : Env) : Bool := φ (toE to e)

theorem nth_to {to : List Int} {v : Int} (h : In (l := to.map fun x => ((x, 0, 0) : T3)) v) : nth to v = some (toAt to v.toNat) := by
  have h1 := h.1
  have h2 := h.2
  simp only [List.length_map] at h2
  have h3 : v.toNat < to.length := by omega
  simp [nth, toAt, h1, h3]

theorem rename_op {s0 : Sto} (i0 : Inv s0) (to : List Int) (K : Nat) (hl : (to.length : Int) = s0.vars) (hto : ∀ v ∈ to, 0 ≤ v ∧ v < s0.vars) : Op s0 (reT to) (fun k => 2 ^ k) K (renameOne K to) where
  t0 := fun e => rfl
  t1 := fun e => rfl
  call := fun s f no yes S i x h2 hf hS hK hno hyes dno dyes hw => by
    have ok := i0.ok
    have hn := ok.node f h2 hf.2
    have hp1 : 1 ≤ 2 ^ S.length := Nat.one_le_two_pow
    have hw0 := i.w0
    have hv0 := hn.v0
    have hvn := hn.vn
    have hvl : (nd s0.l f).1.toNat < to.length := by omega
    have hnt : nth to (nd s0.l f).1 = some (toAt to (nd s0.l f).1.toNat) := nth_to ⟨hv0, by simp; omega⟩
    have hmem : toAt to (nd s0.l f).1.toNat ∈ to := by
      have : toAt to (nd s0.l f).1.toNat = to[(nd s0.l f).1.toNat] := by simp [toAt, hvl]
      rw [this]; exact List.getElem_mem _
    obtain ⟨t0, t1⟩ := hto _ hmem
    unfold renameOne
    simp only [hnt]
    have hS0 := hS.top ok h2 hf
    have hSl := List.length_erase_of_mem hS0
    have hSp : 0 < S.length := List.length_pos_of_mem hS0
    generalize ht : toAt to (nd s0.l f).1.toNat = t at *
    have M := make_res i (v := t) t0 i.ok.in0 i.ok.in1 (by rw [i.ok.zero, x.vars]; exact t1) (by rw [i.ok.one, x.vars]; exact t1) (by show _ ≤ big; omega)
    generalize makeF s t 0 1 = X at *
    obtain ⟨rx, s1⟩ := X
    have c1 := M.cost
    simp only at c1 ⊢
    rcases M.ans with ⟨z, n, d⟩ | ⟨hr, hroom⟩
    case inr =>
      simp only at hr
      subst hr
      rw [if_pos (by decide)]
      exact ⟨_, _, rfl, M.inv, M.ext, by show s1.works ≤ _; omega, .inr ⟨rfl, hroom⟩⟩
    simp only at z n d
    rw [if_neg (by omega)]
    have i1 : Inv s1 := M.inv
    have x1 : Ext s s1 := M.ext
    have dx : ∀ e, D s1.l e rx.1 = e t := fun e => by
      rw [d, D_end e (f := 0) (by omega), D_end e (f := 1) (by omega)]; cases e t <;> rfl
    have hlen : (t :: (S.erase (nd s0.l f).1).map fun v => toAt to v.toNat).length = S.length := by simp [hSl]; omega
    have dS : ∀ {g : Int}, Dep (fun e => D s0.l e g) (S.erase (nd s0.l f).1) → ∀ e e' : Env, (∀ v ∈ t :: (S.erase (nd s0.l f).1).map fun v => toAt to v.toNat, e v = e' v) → reT to (fun e => D s0.l e g) e = reT to (fun e => D s0.l e g) e' := fun hg e e' he =>
      hg _ _ fun v hv => he _ (List.mem_cons_of_mem _ (List.mem_map.2 ⟨v, hv, rfl⟩))
    obtain ⟨r, s', e1, R⟩ := ite_res K (t :: (S.erase (nd s0.l f).1).map fun v => toAt to v.toNat) s1 rx.1 yes no i1 n (x1.in hyes) (x1.in hno)
      (fun e e' he => by show D s1.l e rx.1 = D s1.l e' rx.1; rw [dx, dx]; exact he t (List.mem_cons_self ..))
      (fun e e' he => by show D s1.l e yes = D s1.l e' yes; rw [x1.D i i1 hyes, x1.D i i1 hyes, dyes, dyes]; exact dS (hS.hi ok h2 hf) e e' he)
      (fun e e' he => by show D s1.l e no = D s1.l e' no; rw [x1.D i i1 hno, x1.D i i1 hno, dno, dno]; exact dS (hS.lo ok h2 hf) e e' he)
      (by rw [hlen]; exact hK) (by rw [hlen]; omega)
    rw [hlen] at R
    have c2 := R.cost
    refine ⟨r, s', e1, R.inv, x1.trans R.ext, by omega, ?_⟩
    rcases R.ans with ⟨z2, n2, d2⟩ | h
    · refine .inl ⟨z2, n2, fun e => ?_⟩
      rw [d2, dx, x1.D i i1 hyes, x1.D i i1 hno, dyes, dno]
      unfold reT
      simp only
      rw [D_node ok _ h2 hf]
      have : toE to e (nd s0.l f).1 = e t := by unfold toE; rw [ht]
      rw [this]
    · exact .inr h

theorem rename_res {k : Nat} {S : List Int} {s : Sto} {f : Int} {to : List Int} (i : Inv s) (hf : In s.l f) (hl : (to.length : Int) = s.vars) (hto : ∀ v ∈ to, 0 ≤ v ∧ v < s.vars) (hS : Dep (fun e => D s.l e f) S) (hk : S.length < k) (hw : s.works + ((S.length * 2 ^ S.length : Nat) : Int) ≤ big) :
    ∃ r s' d', overF Sto.l (renameOne k to) k s [] f = some (r, s', d') ∧ Res s (reT to fun e => D s.l e f) (S.length * 2 ^ S.length) r s' := by
  obtain ⟨r, s', d', e, R, _⟩ := over_res i (rename_op i to k hl hto) k S s [] f i (Ext.refl s) hf hS hk hk (fun g r h => by simp [mget] at h) (by rw [Rc_pow]; exact hw)
  rw [Rc_pow] at R
  exact ⟨_, _, _, e, R⟩
end Go.Bdd
