/- Plain laws of decision diagrams: which nodes are met, which variables are asked, when Rename clashes, how many nodes there are. No program in sight. -/
import Derived.Test.YtjajpdmmoiiojaaP3
namespace Go.Bdd
open Go.Mem Go.RowKit

inductive Reach (l : List T3) : Int → Int → Prop
  | refl (f : Int) : Reach l f f
  | lo {f g : Int} : 2 ≤ f → Reach l (nd l f).2.1 g → Reach l f g
  | hi {f g : Int} : 2 ≤ f → Reach l (nd l f).2.2 g → Reach l f g

section
variable {n : Int} {l : List T3}
theorem reach_in (ok : Ok n l) {f g : Int} (h : Reach l f g) : In l f → In l g ∧ g ≤ f ∧ (nd l f).1 ≤ (nd l g).1 := by
  induction h with
  | refl f => exact fun h => ⟨h, Int.le_refl _, Int.le_refl _⟩
  | lo h2 _ ih =>
    intro hf
    have hn := ok.node _ h2 hf.2
    obtain ⟨a, b, c⟩ := ih (ok.lo_in h2 hf)
    exact ⟨a, by have := hn.lof; omega, by have := hn.vlo; omega⟩
  | hi h2 _ ih =>
    intro hf
    have hn := ok.node _ h2 hf.2
    obtain ⟨a, b, c⟩ := ih (ok.hi_in h2 hf)
    exact ⟨a, by have := hn.hif; omega, by have := hn.vhi; omega⟩

theorem reach_asks (ok : Ok n l) {f g : Int} (h : Reach l f g) : In l f → 2 ≤ g → Asks (fun e => D l e f) (nd l g).1 := by
  induction h with
  | refl f => exact fun hf h2 => asks_top ok h2 hf
  | @lo f g h2 hr ih =>
    intro hf hg
    have hn := ok.node f h2 hf.2
    obtain ⟨e, he⟩ := ih (ok.lo_in h2 hf) hg
    have hv := (reach_in ok hr (ok.lo_in h2 hf)).2.2
    have hne : (nd l f).1 ≠ (nd l g).1 := by have := hn.vlo; omega
    have sw : ∀ b, D l (upd (upd e (nd l f).1 false) (nd l g).1 b) f = D l (upd e (nd l g).1 b) (nd l f).2.1 := fun b => by
      rw [D_node ok _ h2 hf, upd_ne _ _ hne, upd_same, if_neg (by simp)]
      refine D_agree ok (fun v hv _ => ?_) (ok.lo_in h2 hf) (Int.le_refl _)
      by_cases h : v = (nd l g).1
      · subst h; rw [upd_same, upd_same]
      · rw [upd_ne _ _ h, upd_ne _ _ h, upd_ne _ _ (by have := hn.vlo; omega)]
    exact ⟨upd e (nd l f).1 false, by simp only [sw]; exact he⟩
  | @hi f g h2 hr ih =>
    intro hf hg
    have hn := ok.node f h2 hf.2
    obtain ⟨e, he⟩ := ih (ok.hi_in h2 hf) hg
    have hv := (reach_in ok hr (ok.hi_in h2 hf)).2.2
    have hne : (nd l f).1 ≠ (nd l g).1 := by have := hn.vhi; omega
    have sw : ∀ b, D l (upd (upd e (nd l f).1 true) (nd l g).1 b) f = D l (upd e (nd l g).1 b) (nd l f).2.2 := fun b => by
      rw [D_node ok _ h2 hf, upd_ne _ _ hne, upd_same, if_pos rfl]
      refine D_agree ok (fun v hv _ => ?_) (ok.hi_in h2 hf) (Int.le_refl _)
      by_cases h : v = (nd l g).1
      · subst h; rw [upd_same, upd_same]
      · rw [upd_ne _ _ h, upd_ne _ _ h, upd_ne _ _ (by have := hn.vhi; omega)]
    exact ⟨upd e (nd l f).1 true, by simp only [sw]; exact he⟩

theorem asks_reach (ok : Ok n l) {v : Int} : ∀ (N : Nat) (f : Int), f.toNat < N → In l f → (∀ g, Reach l f g → 2 ≤ g → (nd l g).1 ≠ v) → ∀ e b, D l (upd e v b) f = D l e f
  | 0, f, hN, _, _, _, _ => by omega
  | N + 1, f, hN, hf, h, e, b => by
    by_cases h2 : f < 2
    · rw [D_end _ h2, D_end _ h2]
    · have h2' : 2 ≤ f := by omega
      have hn := ok.node f h2' hf.2
      have h1 := hn.lof; have h3 := hn.hif; have h4 := hn.lo0; have h5 := hn.hi0
      rw [D_node ok _ h2' hf, D_node ok e h2' hf, upd_ne _ _ (h f (.refl f) h2'), asks_reach ok N _ (by omega) (ok.lo_in h2' hf) (fun g hg => h g (.lo h2' hg)), asks_reach ok N _ (by omega) (ok.hi_in h2' hf) (fun g hg => h g (.hi h2' hg))]
theorem asks_iff (ok : Ok n l) {f v : Int} (hf : In l f) : Asks (fun e => D l e f) v ↔ ∃ g, Reach l f g ∧ 2 ≤ g ∧ (nd l g).1 = v := by
  constructor
  · rintro ⟨e, he⟩
    refine Classical.byContradiction fun hc => he ?_
    have h := asks_reach ok (v := v) (f.toNat + 1) f (by omega) hf fun g h1 h2 h3 => hc ⟨g, h1, h2, h3⟩
    simp only
    rw [h, h]
  · rintro ⟨g, h1, h2, rfl⟩
    exact reach_asks ok h1 hf h2

/-- There is a way that leads there. -/
theorem reach_way (ok : Ok n l) {f g : Int} (h : Reach l f g) : In l f → ∃ e : Env, ∀ e' : Env, (∀ u, 0 ≤ u → u < (nd l g).1 → e' u = e u) → D l e' f = D l e' g := by
  induction h with
  | refl f => exact fun _ => ⟨fun _ => false, fun _ _ => rfl⟩
  | @lo f g h2 hr ih =>
    intro hf
    have hn := ok.node f h2 hf.2
    have hv := hn.vlo
    obtain ⟨a, _, c⟩ := reach_in ok hr (ok.lo_in h2 hf)
    obtain ⟨e, he⟩ := ih (ok.lo_in h2 hf)
    refine ⟨upd e (nd l f).1 false, fun e' h' => ?_⟩
    have e1 : e' (nd l f).1 = false := by rw [h' _ hn.v0 (by omega), upd_same]
    rw [D_node ok e' h2 hf, e1, if_neg (by simp)]
    have := he (upd e' (nd l f).1 (e (nd l f).1)) fun u hu0 hu => by
      by_cases h : u = (nd l f).1
      · subst h; rw [upd_same]
      · rw [upd_ne _ _ h, h' u hu0 hu, upd_ne _ _ h]
    rw [D_upd ok e' _ (ok.lo_in h2 hf) hv, D_upd ok e' _ a (by omega)] at this
    exact this
  | @hi f g h2 hr ih =>
    intro hf
    have hn := ok.node f h2 hf.2
    have hv := hn.vhi
    obtain ⟨a, _, c⟩ := reach_in ok hr (ok.hi_in h2 hf)
    obtain ⟨e, he⟩ := ih (ok.hi_in h2 hf)
    refine ⟨upd e (nd l f).1 true, fun e' h' => ?_⟩
    have e1 : e' (nd l f).1 = true := by rw [h' _ hn.v0 (by omega), upd_same]
    rw [D_node ok e' h2 hf, e1, if_pos rfl]
    have := he (upd e' (nd l f).1 (e (nd l f).1)) fun u hu0 hu => by
      by_cases h : u = (nd l f).1
      · subst h; rw [upd_same]
      · rw [upd_ne _ _ h, h' u hu0 hu, upd_ne _ _ h]
    rw [D_upd ok e' _ (ok.hi_in h2 hf) hv, D_upd ok e' _ a (by omega)] at this
    exact this
/-- Each way leads somewhere. -/
theorem way_reach (ok : Ok n l) {v : Int} (hv : v ≤ n) (e : Env) : ∀ (N : Nat) (f : Int), f.toNat < N → In l f → ∃ g, Reach l f g ∧ In l g ∧ v ≤ (nd l g).1 ∧ ∀ e' : Env, (∀ u, 0 ≤ u → u < v → e' u = e u) → D l e' f = D l e' g
  | 0, f, hN, _ => by omega
  | N + 1, f, hN, hf => by
    by_cases hle : v ≤ (nd l f).1
    · exact ⟨f, .refl f, hf, hle, fun _ _ => rfl⟩
    · have h2 : 2 ≤ f := ok.var_lt hf (by omega)
      have hn := ok.node f h2 hf.2
      have h1 := hn.lof; have h3 := hn.hif; have h4 := hn.lo0; have h5 := hn.hi0
      cases hb : e (nd l f).1 with
      | false =>
        obtain ⟨g, a, b, c, d⟩ := way_reach ok hv e N _ (by omega) (ok.lo_in h2 hf)
        exact ⟨g, .lo h2 a, b, c, fun e' h' => by rw [← d e' h', D_node ok e' h2 hf, h' _ hn.v0 (by omega), hb, if_neg (by simp)]⟩
      | true =>
        obtain ⟨g, a, b, c, d⟩ := way_reach ok hv e N _ (by omega) (ok.hi_in h2 hf)
        exact ⟨g, .hi h2 a, b, c, fun e' h' => by rw [← d e' h', D_node ok e' h2 hf, h' _ hn.v0 (by omega), hb, if_pos rfl]⟩
end

/-! ### over, where nothing fails -/
def Closed (l : List T3) (d : List (Int × Int)) : Prop := ∀ g h, (mget d g).isSome = true → Reach l g h → 2 ≤ h → (mget d h).isSome = true
theorem mget_fold (vs : List Int) (r g : Int) : ∀ d : List (Int × Int), (mget (vs.foldl (fun d g => mput d g r) d) g).isSome = true ↔ g ∈ vs ∨ (mget d g).isSome = true := by
  induction vs with
  | nil => intro d; simp
  | cons v vs ih =>
    intro d
    rw [List.foldl_cons, ih, mget_mput, List.mem_cons]
    by_cases h : v = g
    · subst h; simp
    · rw [if_neg h]
      constructor
      · rintro (h1 | h1)
        · exact .inl (.inr h1)
        · exact .inr h1
      · rintro ((h1 | h1) | h1)
        · exact absurd h1.symm h
        · exact .inl h1
        · exact .inr h1

structure Visit {σ : Type} (l : List T3) (u : σ → Int → σ) (f0 f : Int) (x : σ) (d : List (Int × Int)) (x' : σ) (d' : List (Int × Int)) (vs : List Int) : Prop where
  hx : x' = vs.foldl (fun x g => u x (nd l g).1) x
  hd : d' = vs.foldl (fun d g => mput d g f0) d
  nodup : vs.Nodup
  mem : ∀ g ∈ vs, Reach l f g ∧ 2 ≤ g ∧ mget d g = none
  key : 2 ≤ f → (mget d' f).isSome = true
  closed : Closed l d'
theorem visit {σ : Type} {n : Int} {l : List T3} (ok : Ok n l) (u : σ → Int → σ) (f0 : Int) : ∀ (k : Nat) (f : Int) (x : σ) (d : List (Int × Int)), In l f → n - (nd l f).1 < k → Closed l d →
    ∃ r x' d' vs, overF (σ := σ) (fun _ => l) (fun x v _ _ => some ((f0, 0), u x v)) k x d f = some ((r, 0), x', d') ∧ Visit l u f0 f x d x' d' vs
  | 0, f, x, d, hf, hk, _ => by have := ok.var_le hf; omega
  | k + 1, f, x, d, hf, hk, hc => by
    unfold overF
    by_cases h2 : f < 2
    · rw [if_pos h2]
      exact ⟨_, _, _, [], rfl, rfl, rfl, List.nodup_nil, by simp, fun h => by omega, hc⟩
    rw [if_neg h2]
    have h2' : 2 ≤ f := by omega
    cases hg : mget d f with
    | some r => exact ⟨_, _, _, [], rfl, rfl, rfl, List.nodup_nil, by simp, fun _ => by rw [hg]; rfl, hc⟩
    | none =>
      have hn := ok.node f h2' hf.2
      have h1 := hn.lof; have h3 := hn.hif; have h6 := hn.vlo; have h7 := hn.vhi
      have il := ok.lo_in h2' hf
      have ih := ok.hi_in h2' hf
      simp only [nth_in hf]
      obtain ⟨r0, x0, d0, vs0, e0, V0⟩ := visit ok u f0 k _ x d il (by omega) hc
      obtain ⟨r1, x1, d1, vs1, e1, V1⟩ := visit ok u f0 k _ x0 d0 ih (by omega) V0.closed
      simp only [e0, e1, ne_eq, not_true_eq_false, if_false, if_true]
      have k0 : ∀ g, (mget d0 g).isSome = true ↔ g ∈ vs0 ∨ (mget d g).isSome = true := fun g => by rw [V0.hd]; exact mget_fold _ _ _ _
      have k1 : ∀ g, (mget d1 g).isSome = true ↔ g ∈ vs1 ∨ (mget d0 g).isSome = true := fun g => by rw [V1.hd]; exact mget_fold _ _ _ _
      have kf : ∀ g, (mget (mput d1 f f0) g).isSome = true ↔ g = f ∨ (mget d1 g).isSome = true := fun g => by
        rw [mget_mput]
        by_cases h : f = g
        · subst h; simp
        · rw [if_neg h]
          constructor
          · exact .inr
          · rintro (h1 | h1)
            · exact absurd h1.symm h
            · exact h1
      refine ⟨_, _, _, vs0 ++ vs1 ++ [f], rfl, ?_, ?_, ?_, ?_, ?_, ?_⟩
      · rw [List.foldl_append, List.foldl_append, ← V0.hx, ← V1.hx]; rfl
      · rw [List.foldl_append, List.foldl_append, ← V0.hd, ← V1.hd]; rfl
      · refine List.nodup_append.2 ⟨List.nodup_append.2 ⟨V0.nodup, V1.nodup, fun a ha b hb hab => ?_⟩, by simp, fun a ha b hb hab => ?_⟩
        · subst hab
          have := (V1.mem a hb).2.2
          have h' := (k0 a).2 (.inl ha)
          rw [this] at h'; cases h'
        · rw [List.mem_singleton] at hb
          subst hab; subst hb
          rcases List.mem_append.1 ha with ha | ha
          · have := (reach_in ok (V0.mem _ ha).1 il).2.1; omega
          · have := (reach_in ok (V1.mem _ ha).1 ih).2.1; omega
      · intro g hg'
        rcases List.mem_append.1 hg' with h | h
        · rcases List.mem_append.1 h with h | h
          · obtain ⟨a, b, c⟩ := V0.mem g h
            exact ⟨.lo h2' a, b, c⟩
          · obtain ⟨a, b, c⟩ := V1.mem g h
            refine ⟨.hi h2' a, b, ?_⟩
            cases hm : mget d g with
            | none => rfl
            | some y =>
              have := (k0 g).2 (.inr (by rw [hm]; rfl))
              rw [c] at this; cases this
        · rw [List.mem_singleton] at h
          subst h
          exact ⟨.refl _, h2', hg⟩
      · exact fun _ => (kf f).2 (.inl rfl)
      · intro g h hgs hr hh
        rw [kf] at hgs ⊢
        rcases hgs with rfl | hgs
        · cases hr with
          | refl => exact .inl rfl
          | lo _ hr =>
            refine .inr ?_
            by_cases hl2 : 2 ≤ (nd l g).2.1
            · exact V1.closed _ _ ((k1 _).2 (.inr (V0.key hl2))) hr hh
            · have := (reach_in ok hr il).2.1; omega
          | hi _ hr =>
            refine .inr ?_
            by_cases hl2 : 2 ≤ (nd l g).2.2
            · exact V1.closed _ _ (V1.key hl2) hr hh
            · have := (reach_in ok hr ih).2.1; omega
        · exact .inr (V1.closed g h hgs hr hh)

theorem closed_nil (l : List T3) : Closed l [] := fun g h hg => by simp [mget] at hg
/-- All nodes that ask something, met once each. -/
theorem visit_all {σ : Type} {n : Int} {l : List T3} (ok : Ok n l) (u : σ → Int → σ) (f0 : Int) (k : Nat) (f : Int) (x : σ) (hf : In l f) (hk : n - (nd l f).1 < k) :
    ∃ (r : Int) (d' : List (Int × Int)) (vs : List Int), overF (σ := σ) (fun _ => l) (fun x v _ _ => some ((f0, 0), u x v)) k x [] f = some ((r, 0), vs.foldl (fun x g => u x (nd l g).1) x, d') ∧ vs.Nodup ∧ ∀ g, g ∈ vs ↔ Reach l f g ∧ 2 ≤ g := by
  obtain ⟨r, x', d', vs, e, V⟩ := visit ok u f0 k f x [] hf hk (closed_nil l)
  refine ⟨r, d', vs, by rw [e, V.hx], V.nodup, fun g => ⟨fun h => ⟨(V.mem g h).1, (V.mem g h).2.1⟩, fun ⟨h1, h2⟩ => ?_⟩⟩
  have h3 : 2 ≤ f := by have := (reach_in ok h1 hf).2.1; omega
  have := V.closed f g (V.key h3) h1 h2
  rw [V.hd, mget_fold] at this
  rcases this with h | h
  · exact h
  · simp [mget] at h

/-! ### Which variables are asked -/
theorem mput_keys {K V : Type} [DecidableEq K] (k : K) (v : V) : ∀ m : List (K × V), (mput m k v).map (·.1) = if k ∈ m.map (·.1) then m.map (·.1) else m.map (·.1) ++ [k]
  | [] => by simp [mput]
  | (a, u) :: r => by
    unfold mput
    by_cases h : a = k
    · subst h; simp
    · rw [if_neg h, List.map_cons, mput_keys k v r, List.map_cons]
      by_cases hk : k ∈ r.map (·.1)
      · rw [if_pos hk, if_pos (List.mem_cons_of_mem _ hk)]
      · rw [if_neg hk, if_neg (by rw [List.mem_cons, not_or]; exact ⟨fun e => h e.symm, hk⟩)]; rfl
theorem fold_keys (l : List T3) (vs : List Int) : ∀ m : List (Int × Int), (m.map (·.1)).Nodup → ((vs.foldl (fun x g => mput x (nd l g).1 (nd l g).1) m).map (·.1)).Nodup ∧
    ∀ v, v ∈ (vs.foldl (fun x g => mput x (nd l g).1 (nd l g).1) m).map (·.1) ↔ v ∈ m.map (·.1) ∨ ∃ g ∈ vs, (nd l g).1 = v := by
  induction vs with
  | nil => intro m hm; exact ⟨hm, fun v => by simp⟩
  | cons g vs ih =>
    intro m hm
    have hk := mput_keys (nd l g).1 (nd l g).1 m
    have hn : ((mput m (nd l g).1 (nd l g).1).map (·.1)).Nodup := by
      rw [hk]
      split
      · exact hm
      · rename_i h
        refine List.nodup_append.2 ⟨hm, by simp, fun a ha b hb hab => h ?_⟩
        rw [List.mem_singleton] at hb
        rw [← hb, ← hab]; exact ha
    have hmem : ∀ v, v ∈ (mput m (nd l g).1 (nd l g).1).map (·.1) ↔ v ∈ m.map (·.1) ∨ (nd l g).1 = v := fun v => by
      rw [hk]
      split
      · rename_i h
        constructor
        · exact .inl
        · rintro (h1 | rfl)
          · exact h1
          · exact h
      · rw [List.mem_append, List.mem_singleton]
        constructor
        · rintro (h1 | rfl)
          · exact .inl h1
          · exact .inr rfl
        · rintro (h1 | rfl)
          · exact .inl h1
          · exact .inr rfl
    obtain ⟨h1, h2⟩ := ih _ hn
    refine ⟨h1, fun v => ?_⟩
    rw [List.foldl_cons, h2, hmem]
    simp only [List.mem_cons, exists_eq_or_imp]
    constructor
    · rintro ((h | h) | h)
      · exact .inl h
      · exact .inr (.inl h)
      · exact .inr (.inr h)
    · rintro (h | h | h)
      · exact .inl (.inl h)
      · exact .inl (.inr h)
      · exact .inr h

theorem support_res {s : Sto} (i : Inv s) {k : Nat} {f : Int} (hf : In s.l f) (hk : s.vars < k) :
    ∃ out, supportF k s f = some out ∧ (out.map (·.1)).Nodup ∧ ∀ v, v ∈ out.map (·.1) ↔ Asks (fun e => D s.l e f) v := by
  have hv0 : 0 ≤ (nd s.l f).1 := by
    by_cases h2 : 2 ≤ f
    · exact (i.ok.node f h2 hf.2).v0
    · rw [i.ok.var_end hf (by omega)]; exact i.vars
  obtain ⟨r, d', vs, e, hn, hm⟩ := visit_all i.ok (fun (x : List (Int × Int)) v => mput x v v) f k f [] hf (by omega)
  obtain ⟨h1, h2⟩ := fold_keys s.l vs [] (by simp)
  refine ⟨_, by unfold supportF; rw [e]; rfl, h1, fun v => ?_⟩
  rw [h2, asks_iff i.ok hf]
  simp only [List.map_nil, List.not_mem_nil, false_or]
  constructor
  · rintro ⟨g, a, b⟩; exact ⟨g, ((hm g).1 a).1, ((hm g).1 a).2, b⟩
  · rintro ⟨g, a, b, c⟩; exact ⟨g, (hm g).2 ⟨a, b⟩, c⟩

theorem clash_false (to : List Int) : ∀ l : List Int, l.Nodup → (clash to l = false ↔ ∀ u ∈ l, ∀ v ∈ l, u ≠ v → nth to u ≠ nth to v)
  | [], _ => by simp [clash]
  | a :: l, hn => by
    obtain ⟨ha, hl⟩ := List.nodup_cons.1 hn
    have ih := clash_false to l hl
    simp only [clash, Bool.or_eq_false_iff, ih, List.any_eq_false, beq_iff_eq, List.mem_cons]
    constructor
    · rintro ⟨h1, h2⟩ u hu v hv huv
      rcases hu with rfl | hu <;> rcases hv with rfl | hv
      · exact absurd rfl huv
      · exact fun h => h1 v hv h.symm
      · exact h1 u hu
      · exact h2 u hu v hv huv
    · intro h
      refine ⟨fun x hx hxa => h x (.inr hx) a (.inl rfl) (fun e => ha (e ▸ hx)) hxa, fun u hu v hv => h u (.inr hu) v (.inr hv)⟩

/-- The document's word on a renaming, and the store's. -/
theorem renames_clash {s : Sto} (i : Inv s) {n : Nat} (hn : (n : Int) = s.vars) {f : Int} (hf : In s.l f) {to : List Int} (hl : to.length = n) (hto : ∀ v ∈ to, 0 ≤ v ∧ v < n) {out : List (Int × Int)} (h1 : (out.map (·.1)).Nodup)
    (h2 : ∀ v, v ∈ out.map (·.1) ↔ Asks (fun e => D s.l e f) v) (hD : DepN n fun e => D s.l e f) : clash to (out.map (·.1)) = !renamesF (tabOf n fun e => D s.l e f) n to := by
  have hrange : ∀ v : Int, v ∈ out.map (·.1) → 0 ≤ v ∧ v < n := fun v hv => by
    obtain ⟨g, a, b, c⟩ := (asks_iff i.ok hf).1 ((h2 v).1 hv)
    obtain ⟨ing, _, _⟩ := reach_in i.ok a hf
    have := i.ok.node g b ing.2
    rw [← c]; exact ⟨this.v0, by rw [hn]; exact this.vn⟩
  have hat : ∀ v : Int, 0 ≤ v → v < n → nth to v = some (toAt to v.toNat) := fun v h0 h1 => nth_to ⟨h0, by simp; omega⟩
  have hto' : ∀ v, v < n → 0 ≤ toAt to v ∧ toAt to v < n := fun v hv => by
    have : toAt to v = to[v]'(by omega) := by simp [toAt, hl, hv]
    rw [this]; exact hto _ (List.getElem_mem _)
  rw [Bool.eq_iff_iff, Bool.not_eq_true', ← Bool.not_eq_false, ← Bool.not_eq_true (renamesF _ _ _)]
  refine not_congr ?_
  rw [clash_false to _ h1]
  simp only [renamesF, goodVar, badPair, Bool.and_eq_true, decide_eq_true_eq, List.all_eq_true, List.mem_range, Bool.not_eq_true', Bool.and_eq_false_imp, beq_iff_eq, hl, true_and]
  have hask : ∀ v, v < n → (asksF (tabOf n fun e => D s.l e f) n v = true ↔ ((v : Nat) : Int) ∈ out.map (·.1)) := fun v hv => by rw [asks_tab hD hv, h2]
  constructor
  · intro h v hv
    refine ⟨hto' v hv, fun u hu he ha => ?_⟩
    rw [Bool.eq_false_iff]
    intro hau
    have := h v ((hask v hv).1 ha) u ((hask u (by omega)).1 hau) (by omega)
    rw [hat v (by omega) (by omega), hat u (by omega) (by omega)] at this
    exact this (by simpa using he)
  · intro h u hu v hv huv he
    have key : ∀ u v : Int, u ∈ out.map (·.1) → v ∈ out.map (·.1) → u < v → nth to u ≠ nth to v := fun u v hu hv hlt he => by
      obtain ⟨u0, u1⟩ := hrange u hu
      obtain ⟨v0, v1⟩ := hrange v hv
      rw [hat u u0 u1, hat v v0 v1, Option.some.injEq] at he
      have := (h v.toNat (by omega)).2 u.toNat (by omega) he.symm ((hask _ (by omega)).2 (by rw [Int.toNat_of_nonneg v0]; exact hv))
      rw [(hask _ (by omega)).2 (by rw [Int.toNat_of_nonneg u0]; exact hu)] at this
      cases this
    rcases Int.lt_or_gt_of_ne huv with h' | h'
    · exact key u v hu hv h' he
    · exact key v u hv hu h' he.symm
end Go.Bdd
