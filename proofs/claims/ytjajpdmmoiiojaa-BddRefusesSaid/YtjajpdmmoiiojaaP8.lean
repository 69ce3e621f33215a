/- Plain laws: an act, where there is room; an act, whatever the room. -/
import Derived.Test.YtjajpdmmoiiojaaP7
namespace Go.Bdd
open Go.Mem Go.RowKit
section
variable {n : Nat} {s s' : Sto} {l : List Int} {t : List (List Bool)}
theorem act_push (G : Good n s l t) {φ : Env → Bool} {c : Nat} {f : Int} {x : ActF} (R : Res s φ c (f, 0) s') (ht : tabOf n φ = doT n x t) : Good n s' (l ++ [f]) (t ++ [doT n x t]) := by
  rcases R.ans with ⟨_, hf, hd⟩ | ⟨h, _⟩
  · have := (G.ext R.ext R.inv).push hf
    rw [tabOf_ext hd, ht] at this
    exact this
  · cases h
theorem act_ok (G : Good n s l t) {x : ActF} (F : Fits x n l.length) (hn : n ≤ 6) (hw : s.works + 402 < s.room) (hr : s.room ≤ 16777216) (h7 : x.kind = 7 → renamesF (tab t x.a) n x.vars = true) :
    ∃ f s', doF 100 x l s = some ((f, 0), s') ∧ Ext s s' ∧ s'.works ≤ s.works + 400 ∧ Good n s' (l ++ [f]) (t ++ [doT n x t]) := by
  obtain ⟨⟨f, e⟩, s', φ, hd, R, _, ht⟩ := act_res G F hn (by show _ ≤ (18446744073709551615 : Int); omega) h7
  rcases R.ans with ⟨h0, h1, h2⟩ | ⟨h, hroom⟩
  · simp only at h0; subst h0
    exact ⟨f, s', hd, R.ext, R.cost, act_push G R ht⟩
  · have := R.inv.size
    have := R.cost
    have := R.ext.room
    omega
theorem act_any (G : Good n s l t) {x : ActF} (F : Fits x n l.length) (hn : n ≤ 6) (hw : s.works + 400 ≤ big) (h7 : x.kind ≠ 7) :
    ∃ r s', doF 100 x l s = some (r, s') ∧ Inv s' ∧ Ext s s' ∧ s'.works ≤ s.works + 400 ∧ ((r.2 = 0 ∧ Good n s' (l ++ [r.1]) (t ++ [doT n x t])) ∨ (r = (0, 90) ∧ Good n s' l t)) := by
  obtain ⟨⟨f, e⟩, s', φ, hd, R, _, ht⟩ := act_res G F hn hw fun h => absurd h h7
  refine ⟨_, s', hd, R.inv, R.ext, R.cost, ?_⟩
  rcases R.ans with ⟨h0, h1, h2⟩ | ⟨h, hroom⟩
  · simp only at h0; subst h0
    exact .inl ⟨rfl, act_push G R ht⟩
  · exact .inr ⟨h, G.ext R.ext R.inv⟩
theorem exsT_len (n : Nat) : ∀ (vars : List Int) (t : List Bool), (existsT t n vars).length = t.length
  | [], t => rfl
  | v :: vs, t => by
    show (existsT (exist1 t n v.toNat) n vs).length = _
    rw [exsT_len n vs]; simp [exist1]
theorem doT_len (G : Good n s l t) {x : ActF} (F : Fits x n t.length) : (doT n x t).length = 2 ^ n := by
  have hl : x.kind ≠ 0 → (tab t x.a).length = 2 ^ n := fun h => by
    obtain ⟨a, b⟩ := (F.a h).1
    rw [(G.get a (by rw [G.len]; exact b)).2, tabOf_len]
  unfold doT
  split
  · rw [exsT_len]; exact hl (by omega)
  · split
    · simp only [renameT, List.length_map, List.length_range]; exact hl (by omega)
    · simp
end
end Go.Bdd
