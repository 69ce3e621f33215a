/- The document's type of a tree, walked: the parts joined. -/
import Derived.Test.YtbbajekecppioaaGreatDoorGa35
set_option linter.unusedSimpArgs false
set_option linter.unusedVariables false
namespace Go.Proofs.YtbbajekecppioaaGreatDoor
open Go.RowKit Go.Mem Go.Wd Go.Tp
namespace RfW
open TmW (frm_alloc frm_then Box wrap_nat64 frm_cellD frm_cell negE eqS countX countL typeX kindsX typeK evalX evalL evalK lastX noTy vtype is64 sNum sVar sCast sIte sUNot sUNeg sUTil sLand sLor)
theorem upto_all {w : World} {lim : Nat} {vv : Value} {vs : List Ty} {A : Option Addr} {kids : List Tree} {ks : List Ty} (hm : KidsAt w lim A 0 kids) (hv : VarsIn w lim vv vs) (hk : kindsX vs kids = some ks)
    (hc : ∀ (i : Nat) x, kids[i]? = some x → ∀ w1 val, TreeV w1 lim val x → VarsIn w1 lim vv vs → Calls Tryz.prog 10 #[val, vv] w1 (TyPost w1 (typeX vs x))) (hn : kids.length ≤ 4194304) : Upto w lim vv vs A kids kids.length ks := by
  obtain ⟨h1, h2⟩ := kinds_get vs hk
  exact ⟨hm, hv, Nat.le_refl _, h1, fun i x _ hx => h2 i x hx, hc, hn⟩
theorem count_len : ∀ l : List Tree, l.length ≤ countL l
  | [] => Nat.zero_le _
  | .mk .. :: r => by have := count_len r; rw [countL, countX, List.length_cons]; omega
theorem Type_calls (lim : Nat) (vs : List Ty) (vv : Value) : ∀ (n : Nat) (x : Tree), countX x ≤ n → n ≤ 4194304 → ∀ (w : World) (val : Value), TreeV w lim val x → VarsIn w lim vv vs →
    Calls Tryz.prog 10 #[val, vv] w (TyPost w (typeX vs x))
  | 0, .mk .., h, _, _, _, _, _ => by rw [countX] at h; omega
  | n + 1, .mk op t num v kids, h, hn, w, val, hv, hvars => by
    obtain ⟨_, _, _, gl, ln, cl, A, c, rfl, hkl, hk⟩ := hv
    rw [countX] at h
    rw [typeX]
    unfold xcells
    by_cases n1 : op = sNum
    · rw [if_pos n1]; exact type_num w op t num v gl ln cl A _ c vv n1
    rw [if_neg n1]
    by_cases n2 : op = sVar
    · rw [if_pos n2]
      obtain ⟨B, d, rfl, hvl, hvc⟩ := hvars
      by_cases hv0 : 0 ≤ v
      · cases hu : vs[v.toNat]? with
        | none =>
          have hlen := List.getElem?_eq_none_iff.1 hu
          have : vtype vs v = none := by unfold vtype; rw [if_pos hv0, hu]
          rw [this]
          exact type_out w op t num v gl ln cl A _ c B vs.length d hvl n2 (.inr (by omega))
        | some u =>
          have : vtype vs v = some u := by unfold vtype; rw [if_pos hv0, hu]
          rw [this]
          obtain ⟨k, rfl⟩ : ∃ k : Nat, v = k := ⟨v.toNat, by omega⟩
          simp only [Int.toNat_natCast] at hu
          obtain ⟨_, g, o, rfl, _, h0, h1⟩ := hvc k u hu
          exact type_var w op t num k gl ln cl A _ c g o vs.length d u hvl n2 (List.getElem?_eq_some_iff.1 hu).1 h0 h1
      · have : vtype vs v = none := by unfold vtype; rw [if_neg hv0]
        rw [this]
        exact type_out w op t num v gl ln cl A _ c B vs.length d hvl n2 (.inl (by omega))
    rw [if_neg n2]
    have hc : ∀ (i : Nat) x, kids[i]? = some x → ∀ w1 val, TreeV w1 lim val x → VarsIn w1 lim vv vs → Calls Tryz.prog 10 #[val, vv] w1 (TyPost w1 (typeX vs x)) := fun i x hx w1 val h1 h2 =>
      Type_calls lim vs vv n x (by have := countL_mem hx; omega) (by omega) w1 val h1 h2
    have hlen : kids.length ≤ 4194304 := by have := count_len kids; omega
    cases hks : kindsX vs kids with
    | none =>
      obtain ⟨j, x, ks, hx, hbad, hl, ht⟩ := kinds_none vs hks
      have hj := (List.getElem?_eq_some_iff.1 hx).1
      exact type_bad w op t num v gl ln cl A c kids vv vs ks j x ⟨hk, hvars, by omega, hl, ht, hc, hlen⟩ hx hbad n1 n2
    | some ks =>
      have hU := upto_all hk hvars hks hc hlen
      simp only
      match ks, hU with
      | [], hU =>
        have e : typeK op t [] = (noTy, false) := rfl
        rw [e]; exact type_k0 w op t num v gl ln cl A c kids vv vs [] hU n1 n2 (.inl rfl)
      | a :: b :: c1 :: d :: r, hU =>
        have e : typeK op t (a :: b :: c1 :: d :: r) = (noTy, false) := by unfold typeK; rw [if_pos (.inr (by simp))]
        rw [e]; exact type_k0 w op t num v gl ln cl A c kids vv vs _ hU n1 n2 (.inr (by simp))
      | [a], hU =>
        by_cases n3 : op = sCast
        · have e : typeK op t [a] = (t, rightF t) := by unfold typeK; rw [if_neg (by simp)]; simp only; rw [if_pos n3]; simp
          rw [e]; exact type_cast1 w op t num v gl ln cl A c kids vv vs a hU n1 n2 n3
        · have e : typeK op t [a] = (a, (decide (op = sUNot) && decide (a.1 = 1)) || ((decide (op = sUNeg) || decide (op = sUTil)) && decide (1 < a.1))) := by
            unfold typeK; rw [if_neg (by simp)]; simp only; rw [if_neg n3, if_neg (by simp), if_pos (by simp)]; rfl
          rw [e]; exact type_k1 w op t num v gl ln cl A c kids vv vs a hU n1 n2 n3 _ rfl
      | [a, b, c1], hU =>
        by_cases n3 : op = sCast
        · have e : typeK op t [a, b, c1] = (t, false) := by unfold typeK; rw [if_neg (by simp)]; simp only; rw [if_pos n3]; simp
          rw [e]; exact type_cast3 w op t num v gl ln cl A c kids vv vs a b c1 hU n1 n2 n3
        · have e : typeK op t [a, b, c1] = (c1, decide (op = sIte) && decide (a.1 = 1) && decide (b = c1)) := by
            unfold typeK; rw [if_neg (by simp)]; simp only; rw [if_neg n3, if_pos (by simp)]; rfl
          rw [e]; exact type_k3 w op t num v gl ln cl A c kids vv vs a b c1 hU n1 n2 n3 _ rfl
      | [a, b], hU =>
        by_cases n3 : op = sCast
        · have e : typeK op t [a, b] = (t, false) := by unfold typeK; rw [if_neg (by simp)]; simp only; rw [if_pos n3]; simp
          rw [e]; exact type_cast2 w op t num v gl ln cl A c kids vv vs a b hU n1 n2 n3
        · have e0 : typeK op t [a, b] = if a ≠ b then (noTy, false) else if op = sLand ∨ op = sLor then ((1, false), decide (b = (1, false))) else if (testF b op 0 0).2 = 0 then ((1, false), true) else (b, decide ((doF b op 0 1).2 = 0)) := by
            unfold typeK; rw [if_neg (by simp)]; simp only; rw [if_neg n3, if_neg (by simp), if_neg (by simp)]; rfl
          rw [e0]
          by_cases hab : a = b
          · subst hab
            rw [if_neg (fun h => h rfl)]
            by_cases ho : op = sLand ∨ op = sLor
            · rw [if_pos ho]; exact type_k2log w op t num v gl ln cl A c kids vv vs a hU n1 n2 n3 ho _ rfl
            · rw [if_neg ho]
              by_cases ht : (testF a op 0 0).2 = 0
              · rw [if_pos ht]; exact type_k2test w op t num v gl ln cl A c kids vv vs a hU n1 n2 n3 (fun e => ho (.inl e)) (fun e => ho (.inr e)) ht
              · rw [if_neg ht]; exact type_k2do w op t num v gl ln cl A c kids vv vs a hU n1 n2 n3 (fun e => ho (.inl e)) (fun e => ho (.inr e)) ht _ rfl
          · rw [if_pos hab]; exact type_k2ne w op t num v gl ln cl A c kids vv vs a b hU n1 n2 n3 hab
end RfW
end Go.Proofs.YtbbajekecppioaaGreatDoor
