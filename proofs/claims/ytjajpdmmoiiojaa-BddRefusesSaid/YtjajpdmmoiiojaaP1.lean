/- Plain laws of decision diagrams: what a node is true for; one node, one truth; what make leaves. No program in sight. -/
import Derived.Test.YtjajpdmmoiiojaaTabF
import Derived.IntWalk
namespace Go.Bdd
open Go.Mem Go.RowKit

abbrev Env := Int → Bool
def upd (e : Env) (v : Int) (b : Bool) : Env := fun u => if u = v then b else e u
theorem upd_same (e : Env) (v : Int) (b : Bool) : upd e v b v = b := by simp [upd]
theorem upd_ne (e : Env) {v u : Int} (b : Bool) (h : u ≠ v) : upd e v b u = e u := by simp [upd, h]
theorem upd_self (e : Env) (v : Int) : upd e v (e v) = e := by
  funext u
  by_cases h : u = v
  · subst h; rw [upd_same]
  · rw [upd_ne _ _ h]

def nd (l : List T3) (f : Int) : T3 := (l[f.toNat]?).getD (0, 0, 0)
def In (l : List T3) (f : Int) : Prop := 0 ≤ f ∧ f < (l.length : Int)
theorem nth_in {l : List T3} {f : Int} (h : In l f) : nth l f = some (nd l f) := by
  have h1 : f.toNat < l.length := by unfold In at h; omega
  simp [nth, nd, h.1, h1]
theorem In.lt {l : List T3} {f : Int} (h : In l f) : f.toNat < l.length := by unfold In at h; omega

def den (l : List T3) (e : Env) : Nat → Int → Bool
  | 0, f => f == 1
  | k + 1, f => if f < 2 then f == 1 else if e (nd l f).1 then den l e k (nd l f).2.2 else den l e k (nd l f).2.1
/-- Is a node true, where variables are as told? -/
def D (l : List T3) (e : Env) (f : Int) : Bool := den l e f.toNat f

structure NodeOk (n : Int) (l : List T3) (f : Int) (x : T3) : Prop where
  v0 : 0 ≤ x.1
  vn : x.1 < n
  lo0 : 0 ≤ x.2.1
  lof : x.2.1 < f
  hi0 : 0 ≤ x.2.2
  hif : x.2.2 < f
  ne : x.2.1 ≠ x.2.2
  vlo : x.1 < (nd l x.2.1).1
  vhi : x.1 < (nd l x.2.2).1
structure Ok (n : Int) (l : List T3) : Prop where
  two : 2 ≤ l.length
  zero : nd l 0 = (n, 0, 0)
  one : nd l 1 = (n, 1, 1)
  node : ∀ f, 2 ≤ f → f < (l.length : Int) → NodeOk n l f (nd l f)
  uniq : ∀ f g, 2 ≤ f → f < (l.length : Int) → 2 ≤ g → g < (l.length : Int) → nd l f = nd l g → f = g

section
variable {n : Int} {l : List T3}
theorem Ok.lo_in (ok : Ok n l) {f : Int} (h2 : 2 ≤ f) (h : In l f) : In l (nd l f).2.1 := by
  have := ok.node f h2 h.2; exact ⟨this.lo0, by have := this.lof; have := h.2; omega⟩
theorem Ok.hi_in (ok : Ok n l) {f : Int} (h2 : 2 ≤ f) (h : In l f) : In l (nd l f).2.2 := by
  have := ok.node f h2 h.2; exact ⟨this.hi0, by have := this.hif; have := h.2; omega⟩
theorem Ok.var_le (ok : Ok n l) {f : Int} (h : In l f) : (nd l f).1 ≤ n := by
  by_cases h2 : 2 ≤ f
  · exact Int.le_of_lt (ok.node f h2 h.2).vn
  · have : f = 0 ∨ f = 1 := by have := h.1; omega
    rcases this with rfl | rfl
    · rw [ok.zero]; exact Int.le_refl _
    · rw [ok.one]; exact Int.le_refl _
theorem Ok.var_lt (ok : Ok n l) {f : Int} (h : In l f) (hv : (nd l f).1 < n) : 2 ≤ f := by
  have h0 := h.1
  by_cases h2 : 2 ≤ f
  · exact h2
  · have : f = 0 ∨ f = 1 := by omega
    rcases this with rfl | rfl
    · rw [ok.zero] at hv; simp at hv
    · rw [ok.one] at hv; simp at hv
theorem Ok.var_end (ok : Ok n l) {f : Int} (h : In l f) (h2 : f < 2) : (nd l f).1 = n := by
  have h0 := h.1
  have : f = 0 ∨ f = 1 := by omega
  rcases this with rfl | rfl
  · rw [ok.zero]
  · rw [ok.one]
theorem Ok.in0 (ok : Ok n l) : In l 0 := ⟨by omega, by have := ok.two; omega⟩
theorem Ok.in1 (ok : Ok n l) : In l 1 := ⟨by omega, by have := ok.two; omega⟩

theorem den_lt2 (e : Env) : ∀ (k : Nat) (f : Int), f < 2 → den l e k f = (f == 1)
  | 0, f, _ => rfl
  | k + 1, f, h => by simp [den, h]
theorem den_fuel (ok : Ok n l) (e : Env) : ∀ (k : Nat) (f : Int) (k' : Nat), In l f → f.toNat ≤ k → f.toNat ≤ k' → den l e k f = den l e k' f
  | k, f, k', h, hk, hk' => by
    by_cases h2 : f < 2
    · rw [den_lt2 e k f h2, den_lt2 e k' f h2]
    · obtain ⟨j, rfl⟩ : ∃ j, k = j + 1 := ⟨k - 1, by omega⟩
      obtain ⟨j', rfl⟩ : ∃ j', k' = j' + 1 := ⟨k' - 1, by omega⟩
      have hn := ok.node f (by omega) h.2
      have h1 := hn.lof; have h3 := hn.hif; have h4 := hn.lo0; have h5 := hn.hi0
      simp only [den, h2, if_false]
      rw [den_fuel ok e j _ j' (ok.lo_in (by omega) h) (by omega) (by omega), den_fuel ok e j _ j' (ok.hi_in (by omega) h) (by omega) (by omega)]
termination_by k => k

theorem D_end (e : Env) {f : Int} (h : f < 2) : D l e f = (f == 1) := den_lt2 e _ f h
theorem D_node (ok : Ok n l) (e : Env) {f : Int} (h2 : 2 ≤ f) (h : In l f) : D l e f = if e (nd l f).1 then D l e (nd l f).2.2 else D l e (nd l f).2.1 := by
  have hn := ok.node f h2 h.2
  have h1 := hn.lof; have h3 := hn.hif; have h4 := hn.lo0; have h5 := hn.hi0
  unfold D
  obtain ⟨j, hj⟩ : ∃ j, f.toNat = j + 1 := ⟨f.toNat - 1, by omega⟩
  rw [hj]
  have : ¬ f < 2 := by omega
  simp only [den, this, if_false]
  rw [den_fuel ok e j _ (nd l f).2.1.toNat (ok.lo_in h2 h) (by omega) (by omega), den_fuel ok e j _ (nd l f).2.2.toNat (ok.hi_in h2 h) (by omega) (by omega)]

/-- What lies below does not matter. -/
theorem D_indep (ok : Ok n l) {m : Int} {e e' : Env} (he : ∀ v, m ≤ v → v < n → e v = e' v) : ∀ (N : Nat) (f : Int), f.toNat < N → In l f → m ≤ (nd l f).1 → D l e f = D l e' f
  | 0, f, hN, _, _ => by omega
  | N + 1, f, hN, h, hm => by
    by_cases h2 : f < 2
    · rw [D_end e h2, D_end e' h2]
    · have hn := ok.node f (by omega) h.2
      have h1 := hn.lof; have h3 := hn.hif; have h4 := hn.lo0; have h5 := hn.hi0; have h6 := hn.vlo; have h7 := hn.vhi
      rw [D_node ok e (by omega) h, D_node ok e' (by omega) h, he _ hm hn.vn, D_indep ok he N _ (by omega) (ok.lo_in (by omega) h) (by omega), D_indep ok he N _ (by omega) (ok.hi_in (by omega) h) (by omega)]
theorem D_agree (ok : Ok n l) {m : Int} {e e' : Env} (he : ∀ v, m ≤ v → v < n → e v = e' v) {f : Int} (h : In l f) (hm : m ≤ (nd l f).1) : D l e f = D l e' f := D_indep ok he (f.toNat + 1) f (by omega) h hm
theorem D_upd (ok : Ok n l) (e : Env) {v : Int} (b : Bool) {f : Int} (h : In l f) (hv : v < (nd l f).1) : D l (upd e v b) f = D l e f :=
  D_agree ok (m := (nd l f).1) (fun u hu _ => upd_ne e b (by omega)) h (Int.le_refl _)
theorem D_lo (ok : Ok n l) (e : Env) {f : Int} (h2 : 2 ≤ f) (h : In l f) : D l (upd e (nd l f).1 false) f = D l e (nd l f).2.1 := by
  rw [D_node ok _ h2 h, upd_same, if_neg (by simp), D_upd ok e false (ok.lo_in h2 h) (ok.node f h2 h.2).vlo]
theorem D_hi (ok : Ok n l) (e : Env) {f : Int} (h2 : 2 ≤ f) (h : In l f) : D l (upd e (nd l f).1 true) f = D l e (nd l f).2.2 := by
  rw [D_node ok _ h2 h, upd_same, if_pos rfl, D_upd ok e true (ok.hi_in h2 h) (ok.node f h2 h.2).vhi]

theorem canon_low (ok : Ok n l) {f g : Int} (h2 : 2 ≤ f) (hf : In l f) (hg : In l g) (hv : (nd l f).1 < (nd l g).1) (h : ∀ e, D l e f = D l e g) (e : Env) : D l e (nd l f).2.1 = D l e (nd l f).2.2 := by
  rw [← D_lo ok e h2 hf, ← D_hi ok e h2 hf, h, h, D_upd ok e _ hg hv, D_upd ok e _ hg hv]

/-- ONE NODE, ONE TRUTH. -/
theorem canon_to (ok : Ok n l) : ∀ (N : Nat) (f g : Int), f.toNat < N → g.toNat < N → In l f → In l g → (∀ e, D l e f = D l e g) → f = g
  | 0, f, g, hN, _, _, _, _ => by omega
  | N + 1, f, g, hf, hg, inf, ing, h => by
    have f0 := inf.1; have g0 := ing.1
    by_cases hlt : (nd l f).1 < (nd l g).1
    · have h2 : 2 ≤ f := ok.var_lt inf (Int.lt_of_lt_of_le hlt (ok.var_le ing))
      have hn := ok.node f h2 inf.2
      have h1 := hn.lof; have h3 := hn.hif; have h4 := hn.lo0; have h5 := hn.hi0
      exact absurd (canon_to ok N _ _ (by omega) (by omega) (ok.lo_in h2 inf) (ok.hi_in h2 inf) (canon_low ok h2 inf ing hlt h)) hn.ne
    by_cases hgt : (nd l g).1 < (nd l f).1
    · have h2 : 2 ≤ g := ok.var_lt ing (Int.lt_of_lt_of_le hgt (ok.var_le inf))
      have hn := ok.node g h2 ing.2
      have h1 := hn.lof; have h3 := hn.hif; have h4 := hn.lo0; have h5 := hn.hi0
      exact absurd (canon_to ok N _ _ (by omega) (by omega) (ok.lo_in h2 ing) (ok.hi_in h2 ing) (canon_low ok h2 ing inf hgt fun e => (h e).symm)) hn.ne
    have heq : (nd l f).1 = (nd l g).1 := by omega
    by_cases h2 : f < 2
    · have hg2 : g < 2 := by
        rcases Int.lt_or_le g 2 with h' | h'
        · exact h'
        · have := (ok.node g h' ing.2).vn
          rw [← heq, ok.var_end inf h2] at this
          exact absurd this (Int.lt_irrefl _)
      have := h (fun _ => false)
      rw [D_end _ h2, D_end _ hg2] at this
      have : (f = 1) ↔ (g = 1) := by
        constructor <;> intro h' <;> simp_all
      omega
    · have hg2 : 2 ≤ g := by
        rcases Int.lt_or_le g 2 with h' | h'
        · have := (ok.node f (by omega) inf.2).vn
          rw [heq, ok.var_end ing h'] at this
          exact absurd this (Int.lt_irrefl _)
        · exact h'
      have h2 : 2 ≤ f := by omega
      have hn := ok.node f h2 inf.2
      have h1 := hn.lof; have h3 := hn.hif; have h4 := hn.lo0; have h5 := hn.hi0
      have hn' := ok.node g hg2 ing.2
      have h1' := hn'.lof; have h3' := hn'.hif; have h4' := hn'.lo0; have h5' := hn'.hi0
      have e1 : (nd l f).2.1 = (nd l g).2.1 := canon_to ok N _ _ (by omega) (by omega) (ok.lo_in h2 inf) (ok.lo_in hg2 ing) fun e => by
        rw [← D_lo ok e h2 inf, ← D_lo ok e hg2 ing, heq]; exact h _
      have e2 : (nd l f).2.2 = (nd l g).2.2 := canon_to ok N _ _ (by omega) (by omega) (ok.hi_in h2 inf) (ok.hi_in hg2 ing) fun e => by
        rw [← D_hi ok e h2 inf, ← D_hi ok e hg2 ing, heq]; exact h _
      exact ok.uniq f g h2 inf.2 hg2 ing.2 (Prod.ext heq (Prod.ext e1 e2))
theorem canon (ok : Ok n l) {f g : Int} (hf : In l f) (hg : In l g) (h : ∀ e, D l e f = D l e g) : f = g :=
  canon_to ok (max f.toNat g.toNat + 1) f g (by omega) (by omega) hf hg h

/-- Where a node asks a variable, that variable matters. -/
theorem asks_top (ok : Ok n l) {f : Int} (h2 : 2 ≤ f) (hf : In l f) : ∃ e, D l (upd e (nd l f).1 false) f ≠ D l (upd e (nd l f).1 true) f := by
  refine Classical.byContradiction fun hc => (ok.node f h2 hf.2).ne (canon ok (ok.lo_in h2 hf) (ok.hi_in h2 hf) fun e => ?_)
  rw [← D_lo ok e h2 hf, ← D_hi ok e h2 hf]
  exact Classical.byContradiction fun h => hc ⟨e, h⟩
end

/-- What a truth hangs on: no more than some variables. -/
def Dep (φ : Env → Bool) (S : List Int) : Prop := ∀ e e' : Env, (∀ v ∈ S, e v = e' v) → φ e = φ e'
theorem Dep.mono {φ : Env → Bool} {S T : List Int} (h : Dep φ S) (hST : ∀ v ∈ S, v ∈ T) : Dep φ T := fun e e' he => h e e' fun v hv => he v (hST v hv)
section
variable {n : Int} {l : List T3}
theorem Dep.top (ok : Ok n l) {f : Int} (h2 : 2 ≤ f) (hf : In l f) {S : List Int} (h : Dep (fun e => D l e f) S) : (nd l f).1 ∈ S := by
  obtain ⟨e, he⟩ := asks_top ok h2 hf
  refine Classical.byContradiction fun hn => he (h _ _ fun v hv => ?_)
  have : v ≠ (nd l f).1 := fun e => hn (e ▸ hv)
  rw [upd_ne e _ this, upd_ne e _ this]
theorem dep_upd {φ : Env → Bool} {S : List Int} {v : Int} {b : Bool} (h : Dep φ S) : Dep (fun e => φ (upd e v b)) (S.erase v) := fun e e' he => h _ _ fun u hu => by
  by_cases hv : u = v
  · subst hv; rw [upd_same, upd_same]
  · rw [upd_ne _ _ hv, upd_ne _ _ hv]; exact he u ((List.mem_erase_of_ne hv).2 hu)
theorem Dep.lo (ok : Ok n l) {f : Int} (h2 : 2 ≤ f) (hf : In l f) {S : List Int} (h : Dep (fun e => D l e f) S) : Dep (fun e => D l e (nd l f).2.1) (S.erase (nd l f).1) := by
  have := dep_upd (v := (nd l f).1) (b := false) h
  simpa only [D_lo ok _ h2 hf] using this
theorem Dep.hi (ok : Ok n l) {f : Int} (h2 : 2 ≤ f) (hf : In l f) {S : List Int} (h : Dep (fun e => D l e f) S) : Dep (fun e => D l e (nd l f).2.2) (S.erase (nd l f).1) := by
  have := dep_upd (v := (nd l f).1) (b := true) h
  simpa only [D_hi ok _ h2 hf] using this
/-- All that a node asks lies in these. -/
theorem dep_all (ok : Ok n l) {f : Int} (hf : In l f) (hv : 0 ≤ (nd l f).1) : Dep (fun e => D l e f) ((List.range n.toNat).map fun (i : Nat) => (i : Int)) := fun e e' he =>
  D_agree ok (m := (nd l f).1) (fun v h1 h2 => he v (List.mem_map.2 ⟨v.toNat, List.mem_range.2 (by omega), by omega⟩)) hf (Int.le_refl _)
/-- A truth that hangs on no variable below m is a node of m or more. -/
theorem var_ge (ok : Ok n l) {f m : Int} (hf : In l f) (hm : m ≤ n) (h : ∀ e e' : Env, (∀ v, m ≤ v → e v = e' v) → D l e f = D l e' f) : m ≤ (nd l f).1 := by
  rcases Int.lt_or_le (nd l f).1 m with hlt | hge
  · have h2 := ok.var_lt hf (Int.lt_of_lt_of_le hlt hm)
    obtain ⟨e, he⟩ := asks_top ok h2 hf
    exact absurd (h _ _ fun v hv => by rw [upd_ne e _ (by omega), upd_ne e _ (by omega)]) he
  · exact hge
end

/-! ### More nodes: what was there is as it was -/
section
variable {n : Int} {l : List T3}
theorem nd_ext (m : List T3) {f : Int} (h : In l f) : nd (l ++ m) f = nd l f := by
  unfold nd; rw [List.getElem?_append_left h.lt]
theorem In.ext (m : List T3) {f : Int} (h : In l f) : In (l ++ m) f := ⟨h.1, by have := h.2; simp; omega⟩
theorem D_ext (ok : Ok n l) (m : List T3) (e : Env) : ∀ (N : Nat) (f : Int), f.toNat < N → In l f → Ok n (l ++ m) → D (l ++ m) e f = D l e f
  | 0, f, hN, _, _ => by omega
  | N + 1, f, hN, h, ok' => by
    by_cases h2 : f < 2
    · rw [D_end e h2, D_end e h2]
    · have hn := ok.node f (by omega) h.2
      have h1 := hn.lof; have h3 := hn.hif; have h4 := hn.lo0; have h5 := hn.hi0
      rw [D_node ok e (by omega) h, D_node ok' e (by omega) (h.ext m), nd_ext m h, D_ext ok m e N _ (by omega) (ok.lo_in (by omega) h) ok', D_ext ok m e N _ (by omega) (ok.hi_in (by omega) h) ok']
theorem ok_snoc (ok : Ok n l) {x : T3} (hv : 0 ≤ x.1) (hlo : In l x.2.1) (hhi : In l x.2.2) (hne : x.2.1 ≠ x.2.2) (h1 : x.1 < (nd l x.2.1).1) (h2 : x.1 < (nd l x.2.2).1) (hnew : ∀ f, 2 ≤ f → f < (l.length : Int) → nd l f ≠ x) : Ok n (l ++ [x]) := by
  have hlast : ∀ f, f = (l.length : Int) → nd (l ++ [x]) f = x := fun f hf => by subst hf; simp [nd]
  refine ⟨by simp; have := ok.two; omega, by rw [nd_ext _ ok.in0, ok.zero], by rw [nd_ext _ ok.in1, ok.one], fun f hf hl => ?_, fun f g hf hfl hg hgl he => ?_⟩
  · simp only [List.length_append, List.length_cons, List.length_nil] at hl
    by_cases hlt : f < (l.length : Int)
    · have inf : In l f := ⟨by omega, hlt⟩
      have hn := ok.node f hf hlt
      rw [nd_ext _ inf]
      exact ⟨hn.v0, hn.vn, hn.lo0, hn.lof, hn.hi0, hn.hif, hn.ne, by rw [nd_ext _ (ok.lo_in hf inf)]; exact hn.vlo, by rw [nd_ext _ (ok.hi_in hf inf)]; exact hn.vhi⟩
    · have : f = (l.length : Int) := by omega
      rw [hlast f this]
      exact ⟨hv, Int.lt_of_lt_of_le h1 (ok.var_le hlo), hlo.1, by have := hlo.2; omega, hhi.1, by have := hhi.2; omega, hne, by rw [nd_ext _ hlo]; exact h1, by rw [nd_ext _ hhi]; exact h2⟩
  · simp only [List.length_append, List.length_cons, List.length_nil] at hfl hgl
    by_cases h3 : f < (l.length : Int)
    · rw [nd_ext _ ⟨by omega, h3⟩] at he
      by_cases h4 : g < (l.length : Int)
      · rw [nd_ext _ ⟨by omega, h4⟩] at he
        exact ok.uniq f g hf h3 hg h4 he
      · rw [hlast g (by omega)] at he
        exact absurd he (hnew f hf h3)
    · by_cases h4 : g < (l.length : Int)
      · rw [nd_ext _ ⟨by omega, h4⟩, hlast f (by omega)] at he
        exact absurd he.symm (hnew g hg h4)
      · omega
end

/-! ### The store -/
structure Inv (s : Sto) : Prop where
  vars : 0 ≤ s.vars
  ok : Ok s.vars s.l
  find : ∀ x f, mget s.find x = some f ↔ 2 ≤ f ∧ f < (s.l.length : Int) ∧ nd s.l f = x
  known : ∀ f g h r, mget s.known (f, g, h) = some r → In s.l f ∧ In s.l g ∧ In s.l h ∧ In s.l r ∧ ∀ e, D s.l e r = if D s.l e f then D s.l e g else D s.l e h
  w0 : 0 ≤ s.works
  size : (s.l.length : Int) ≤ s.works + 2
  room : (s.l.length : Int) ≤ s.room
/-- A store that has grown. -/
structure Ext (s s' : Sto) : Prop where
  vars : s'.vars = s.vars
  room : s'.room = s.room
  l : ∃ m, s'.l = s.l ++ m
  works : s.works ≤ s'.works
theorem Ext.refl (s : Sto) : Ext s s := ⟨rfl, rfl, ⟨[], by simp⟩, Int.le_refl _⟩
theorem Ext.trans {a b c : Sto} (h : Ext a b) (k : Ext b c) : Ext a c := by
  obtain ⟨m, hm⟩ := h.l
  obtain ⟨m', hm'⟩ := k.l
  exact ⟨k.vars.trans h.vars, k.room.trans h.room, ⟨m ++ m', by rw [hm', hm, List.append_assoc]⟩, Int.le_trans h.works k.works⟩
theorem Ext.in {s s' : Sto} (h : Ext s s') {f : Int} (hf : In s.l f) : In s'.l f := by
  obtain ⟨m, hm⟩ := h.l; rw [hm]; exact hf.ext m
theorem Ext.nd {s s' : Sto} (h : Ext s s') {f : Int} (hf : In s.l f) : nd s'.l f = nd s.l f := by
  obtain ⟨m, hm⟩ := h.l; rw [hm]; exact nd_ext m hf
theorem Ext.D {s s' : Sto} (h : Ext s s') (i : Inv s) (i' : Inv s') {f : Int} (hf : In s.l f) (e : Env) : D s'.l e f = D s.l e f := by
  have ok' := i'.ok
  obtain ⟨m, hm⟩ := h.l
  rw [h.vars, hm] at ok'
  rw [hm]; exact D_ext i.ok m e (f.toNat + 1) f (by omega) hf ok'
theorem Ext.len {s s' : Sto} (h : Ext s s') : s.l.length ≤ s'.l.length := by
  obtain ⟨m, hm⟩ := h.l; rw [hm]; simp

theorem Inv.opened {s : Sto} (h : Inv s) : Inv (opened s) := ⟨h.vars, h.ok, h.find, h.known, h.w0, h.size, h.room⟩
theorem ext_opened (s : Sto) : Ext s (opened s) := ⟨rfl, rfl, ⟨[], by simp [opened]⟩, Int.le_refl _⟩

/-- What a call leaves: it has done at most so much, and hands back what is true just so, or there is no more room. -/
structure Res (s : Sto) (φ : Env → Bool) (c : Nat) (r : Int × Int) (s' : Sto) : Prop where
  inv : Inv s'
  ext : Ext s s'
  cost : s'.works ≤ s.works + c
  ans : (r.2 = 0 ∧ In s'.l r.1 ∧ ∀ e, D s'.l e r.1 = φ e) ∨ (r = (0, 90) ∧ s'.room ≤ (s'.l.length : Int))
theorem Res.mono {s : Sto} {φ : Env → Bool} {c c' : Nat} {r : Int × Int} {s' : Sto} (h : Res s φ c r s') (hc : c ≤ c') : Res s φ c' r s' := ⟨h.inv, h.ext, by have := h.cost; omega, h.ans⟩
theorem Res.congr {s : Sto} {φ ψ : Env → Bool} {c : Nat} {r : Int × Int} {s' : Sto} (h : Res s φ c r s') (hφ : ∀ e, φ e = ψ e) : Res s ψ c r s' := by
  have : φ = ψ := funext hφ
  rw [← this]; exact h

theorem tick_inv {s : Sto} (h : Inv s) (hw : s.works + 1 ≤ 18446744073709551615) : Inv (tick s) ∧ (tick s).works = s.works + 1 := by
  have e : (tick s).works = s.works + 1 := IntWalk.u64_in _ ⟨by have := h.w0; omega, hw⟩
  exact ⟨⟨h.vars, h.ok, h.find, h.known, by rw [e]; have := h.w0; omega, by rw [e]; have := h.size; show (s.l.length : Int) ≤ _; omega, h.room⟩, e⟩

theorem make_res {s : Sto} (h : Inv s) {v no yes : Int} (hv : 0 ≤ v) (hno : In s.l no) (hyes : In s.l yes) (h1 : v < (nd s.l no).1) (h2 : v < (nd s.l yes).1) (hw : s.works + 1 ≤ 18446744073709551615) :
    Res s (fun e => if e v then D s.l e yes else D s.l e no) 1 (makeF s v no yes).1 (makeF s v no yes).2 := by
  obtain ⟨it, et⟩ := tick_inv h hw
  have hext : Ext s (tick s) := ⟨rfl, rfl, ⟨[], by simp [tick, opened]⟩, by rw [et]; omega⟩
  unfold makeF
  by_cases hne : no = yes
  · rw [if_pos hne]
    exact ⟨it, hext, by rw [et]; omega, .inl ⟨rfl, hno, fun e => by subst hne; show D s.l e no = _; simp⟩⟩
  rw [if_neg hne]
  cases hf : mget s.find (v, no, yes) with
  | some f =>
    obtain ⟨a, b, c⟩ := (h.find _ _).1 hf
    refine ⟨it, hext, by simp only; rw [et]; omega, .inl ⟨rfl, ⟨by simp only; omega, b⟩, fun e => ?_⟩⟩
    show D s.l e f = _
    rw [D_node h.ok e a ⟨by omega, b⟩, c]
  | none =>
    simp only
    by_cases hr : s.room ≤ (s.l.length : Int)
    · rw [if_pos hr]
      exact ⟨it, hext, by simp only; rw [et]; omega, .inr ⟨rfl, hr⟩⟩
    rw [if_neg hr]
    have hnew : ∀ f, 2 ≤ f → f < (s.l.length : Int) → nd s.l f ≠ (v, no, yes) := fun f a b c => by
      rw [(h.find _ f).2 ⟨a, b, c⟩] at hf; cases hf
    have ok' : Ok s.vars (s.l ++ [(v, no, yes)]) := ok_snoc h.ok hv hno hyes hne h1 h2 hnew
    have hlast : nd (s.l ++ [(v, no, yes)]) (s.l.length : Int) = (v, no, yes) := by simp [nd]
    have hD : ∀ e f, In s.l f → D (s.l ++ [(v, no, yes)]) e f = D s.l e f := fun e f hf => D_ext h.ok _ e (f.toNat + 1) f (by omega) hf ok'
    have hl2 := h.ok.two
    have hlen : ((s.l ++ [(v, no, yes)]).length : Int) = s.l.length + 1 := by simp
    refine ⟨⟨h.vars, ok', fun x f => ?_, fun f g k r hk => ?_, ?_, ?_, ?_⟩, ⟨rfl, rfl, ⟨[(v, no, yes)], rfl⟩, ?_⟩, ?_, .inl ⟨rfl, ⟨by simp only; omega, ?_⟩, fun e => ?_⟩⟩
    · show mget (mput s.find (v, no, yes) (s.l.length : Int)) x = some f ↔ 2 ≤ f ∧ f < ((s.l ++ [(v, no, yes)]).length : Int) ∧ nd (s.l ++ [(v, no, yes)]) f = x
      rw [mget_mput, hlen]
      by_cases hx : (v, no, yes) = x
      · subst hx
        rw [if_pos rfl, Option.some.injEq]
        constructor
        · rintro rfl; exact ⟨by omega, by omega, hlast⟩
        · rintro ⟨a, b, c⟩
          by_cases hlt : f < (s.l.length : Int)
          · rw [nd_ext _ ⟨by omega, hlt⟩] at c; exact absurd c (hnew f a hlt)
          · omega
      · rw [if_neg hx, h.find]
        constructor
        · rintro ⟨a, b, c⟩; exact ⟨a, by omega, by rw [nd_ext _ ⟨by omega, b⟩]; exact c⟩
        · rintro ⟨a, b, c⟩
          by_cases hlt : f < (s.l.length : Int)
          · rw [nd_ext _ ⟨by omega, hlt⟩] at c; exact ⟨a, hlt, c⟩
          · have : f = (s.l.length : Int) := by omega
            subst this; rw [hlast] at c; exact absurd c hx
    · obtain ⟨a, b, c, d, k⟩ := h.known f g k r hk
      exact ⟨a.ext _, b.ext _, c.ext _, d.ext _, fun e => by
        show D (s.l ++ [(v, no, yes)]) e r = if D (s.l ++ [(v, no, yes)]) e f then D (s.l ++ [(v, no, yes)]) e g else D (s.l ++ [(v, no, yes)]) e _
        rw [hD e _ a, hD e _ b, hD e _ c, hD e _ d]; exact k e⟩
    · exact it.w0
    · show ((s.l ++ [(v, no, yes)]).length : Int) ≤ (tick s).works + 2
      rw [et, hlen]; have := h.size; omega
    · show ((s.l ++ [(v, no, yes)]).length : Int) ≤ s.room
      rw [hlen]; omega
    · show s.works ≤ (tick s).works
      rw [et]; omega
    · show (tick s).works ≤ _
      rw [et]; omega
    · show (s.l.length : Int) < ((s.l ++ [(v, no, yes)]).length : Int)
      rw [hlen]; omega
    · show D (s.l ++ [(v, no, yes)]) e (s.l.length : Int) = _
      rw [D_node ok' e (by omega) ⟨by omega, by rw [hlen]; omega⟩, hlast]
      simp only [hD e _ hno, hD e _ hyes]
end Go.Bdd
