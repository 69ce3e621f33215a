/- Answers in memory; clauses of clauses; a solver of clauses, walked. -/
import Derived.Test.YtfpjfogddepbkaaCz12
set_option linter.unusedSimpArgs false
set_option linter.unusedVariables false
namespace Go.Proofs.Ytfpjfogddepbkaa
open Go.RowKit Go.Mem Go.Sat
namespace SaW
theorem row_empty {α : Type} {w : World} {e : TypeId} {enc : α → Value} {g : Nat} (h : w.heap[g]? = some (.cells #[] e (0, 0))) : Row w e enc (.slice (some ⟨g, 0, none⟩) 0 0) ([] : List α) := ⟨by simp, .inr ⟨g, 0, #[], rfl, Nat.zero_le _, h, Nat.zero_le _, Nat.zero_le _, by simp, by simp⟩⟩
/-- An answer that lies in a variable of the call's own. -/
structure AnsAt (R : Nat → Option Role) (w : World) (b : Nat) (vm vc : Value) (a : Ans) : Prop where
  blk : w.heap[b]? = some (.cells #[.bool a.sat, vm, vc] 30)
  model : Row w 3 iI vm a.model
  core : Row w 3 iI vc a.core
  out : R b = none
  outs : ∀ g, vm.ownBlock = some g ∨ vc.ownBlock = some g → R g = none
/-- A list of lists that came in. -/
def SeesL (w : World) (v : Value) (l : List (List Int)) : Prop := ∃ vs : List Value, SeesW w id v vs ∧ vs.length = l.length ∧ ∀ (i : Nat) (u : Value) (c : List Int), vs[i]? = some u → l[i]? = some c → SeesW w iI u c
theorem SeesL.frm0 {w w' : World} {v : Value} {l : List (List Int)} (h : SeesL w v l) (hf : Frm (fun _ => False) w w') : SeesL w' v l := by
  obtain ⟨vs, h1, h2, h3⟩ := h
  exact ⟨vs, h1.frm0 hf, h2, fun i u c hu hc => (h3 i u c hu hc).frm0 hf⟩
theorem SeesL.len {w : World} {v : Value} {l : List (List Int)} (h : SeesL w v l) : l.length ≤ maxLen := by
  obtain ⟨vs, h1, h2, _⟩ := h
  rw [← h2]; exact h1.len
theorem SeesL.slice {w : World} {v : Value} {l : List (List Int)} (h : SeesL w v l) : ∃ A c, v = .slice A l.length c ∧ ∀ i x, l[i]? = some x → ∃ g o u, A = some ⟨g, o, none⟩ ∧ w.cell? ⟨g, o + i, none⟩ = some u ∧ SeesW w iI u x := by
  obtain ⟨vs, h1, h2, h3⟩ := h
  obtain ⟨A, c, e, hc⟩ := h1.slice
  refine ⟨A, c, by rw [e, h2], fun i x hx => ?_⟩
  obtain ⟨u, hu⟩ : ∃ u, vs[i]? = some u := ⟨_, List.getElem?_eq_getElem (by rw [h2]; exact (List.getElem?_eq_some_iff.1 hx).1)⟩
  obtain ⟨g, o, h4, h5⟩ := hc i u hu
  exact ⟨g, o, u, h4, h5, h3 i u x hu hx⟩
theorem SeesL.of_blk {w : World} {b : Nat} {us : List Value} {t : TypeId} {z : Nat × Nat} {l : List (List Int)} (h : w.heap[b]? = some (.cells us.toArray t z)) (hn : us.length = l.length) (hm : l.length ≤ maxLen) (hs : ∀ (i : Nat) (u : Value) (c : List Int), us[i]? = some u → l[i]? = some c → SeesW w iI u c) : SeesL w (.slice (some ⟨b, 0, none⟩) l.length l.length) l :=
  ⟨us, by rw [← hn]; exact (sees_of_blk h (by simp) rfl (by omega)).weak, hn, hs⟩
section
variable {w w1 w2 w' : World} {R R' : Nat → Option Role} {p : Nat} {s s' : St}
theorem Row.keep {T : Role → Prop} {α : Type} {e : TypeId} {enc : α → Value} {v : Value} {l : List α} (h : Row w e enc v l) (ho : ∀ g, v.ownBlock = some g → R g = none) (hM : SMov T R w R' w') : Row w' e enc v l :=
  h.frm hM.1 fun g hg ⟨r, hr, _⟩ => by rw [ho g hg] at hr; cases hr
theorem AnsAt.step {T : Role → Prop} {b : Nat} {vm vc : Value} {a : Ans} (h : AnsAt R w b vm vc a) (hM : SMov T R w R' w') : AnsAt R' w' b vm vc a :=
  ⟨(hM.1.block b (lt_of_block h.blk) fun ⟨r, hr, _⟩ => by rw [h.out] at hr; cases hr).trans h.blk, Row.keep h.model (fun g hg => h.outs g (.inl hg)) hM, Row.keep h.core (fun g hg => h.outs g (.inr hg)) hM, hM.out (lt_of_block h.blk) h.out,
    fun g hg => hM.out (hg.elim (h.model.lt g) (h.core.lt g)) (h.outs g hg)⟩
theorem AnsAt.frm0 {b : Nat} {vm vc : Value} {a : Ans} (h : AnsAt R w b vm vc a) (hf : Frm (fun _ => False) w w') : AnsAt R w' b vm vc a := h.step (T := AnyT) (SMov.of0 hf)
theorem Own.base {w0 : World} (h : Own w R w1 p s) (hf : Frm (fun _ => False) w0 w) : Own w0 R w1 p s := ⟨h.sol, hf.trans h.frm fun _ _ e => e.elim, fun b hb => Nat.le_trans hf.size (h.new b hb)⟩
/-- What Solve handed back, laid into a variable. -/
theorem Own.ans {vm vc : Value} {a : Ans} (h : Own w R w1 p s) (hS : SolverAt w2 R' p s') (hM : SMov AnyT R w1 R' w2) (rm : Row w2 3 iI vm a.model) (rc : Row w2 3 iI vc a.core) (ho : ∀ g, vm.ownBlock = some g ∨ vc.ownBlock = some g → R' g = none) :
    Own w R' (w2.alloc (.cells #[.bool a.sat, vm, vc] 30)) p s' ∧ AnsAt R' (w2.alloc (.cells #[.bool a.sat, vm, vc] 30)) w2.heap.size vm vc a := by
  have h2 := h.step hS hM
  have hf := frm_alloc w2 (.cells #[.bool a.sat, vm, vc] 30)
  exact ⟨h2.frm0 hf, ⟨blk_new _, rm.frm hf fun _ _ => id, rc.frm hf fun _ _ => id, h2.fresh (Nat.le_refl _), ho⟩⟩
theorem of_mono {l : List (List Int)} {j : Nat} {c : List Int} {fuel : Nat} {sj : St} (hc : l[j]? = some c) (hs : addsF fuel sj (l.drop j) = some s') : ∃ s1, addF fuel sj c = some s1 ∧ addsF fuel s1 (l.drop (j + 1)) = some s' := by
  have hj := (List.getElem?_eq_some_iff.1 hc).1
  rw [List.drop_eq_getElem_cons hj, Option.some.inj ((List.getElem?_eq_getElem hj).symm.trans hc)] at hs
  exact Option.bind_eq_some_iff.1 hs
set_option maxRecDepth 100000 in
set_option maxHeartbeats 2000000 in
theorem made_calls (va : Value) (l : List (List Int)) (hA : SeesL w va l) (hc : ∀ c ∈ l, checkF c = true ∧ c.length ≤ 1099511627776) (fuel : Nat) (hs : addsF fuel Sat.new l = some s) : Calls Try.prog 15 #[va] w fun e w' => ∃ p R, e = .returned (.pointer (some ⟨p, 0, none⟩)) ∧ Own w R w' p s := by
  obtain ⟨i0, hi, hz0, hz1, hz2⟩ := info_parts info_int
  have hla : l.length ≤ 9223372036854775807 := hA.len
  obtain ⟨VA, ca, rfl, hca⟩ := hA.slice
  have HA := Lib.hid hA
  have HS := Lib.hid hs
  have HC := Lib.hid hc
  have HN := Lib.hid (new_calls w)
  clear hA hs hc hca
  go_enter Try.func15, Try.ntmps15
  go_wp2_with fail
  refine HN.out.mono ?_
  rintro e w1 ⟨p, R, rfl, hS, hF, hnew⟩
  dsimp only
  have HO := Lib.hid (show Own w R w1 p Sat.new from ⟨hS, hF, hnew⟩)
  clear hS hF hnew HN
  go_wp2_with fail
  go_loopw [4] (fun v4 w' => ∃ j : Nat, v4 = .int .i64 j ∧ j ≤ l.length ∧ ∃ sj Rj, Hid (addsF fuel sj (l.drop j) = some s) ∧ Hid (Own w Rj w' p sj)) (fun v4 _ => l.length - (intOf v4).toNat)
  case atStart => exact ⟨0, rfl, by omega, _, R, HS, HO⟩
  case round =>
    obtain ⟨j, rfl, hj, sj, Rj, HG, HOj⟩ := hrel
    clear HO
    by_cases hjl : j < l.length
    · have hjI : (j : Int) < (l.length : Int) := by omega
      obtain ⟨c, hcc⟩ : ∃ c, l[j]? = some c := ⟨_, List.getElem?_eq_getElem hjl⟩
      obtain ⟨s1, had, hres⟩ := of_mono hcc HG.out
      obtain ⟨VA', ca', e1, hat⟩ := (HA.out.frm0 HOj.out.frm).slice
      obtain ⟨g, o, u, h1, xj, hu⟩ := hat j c hcc
      cases e1
      subst h1
      obtain ⟨UA, uc, rfl, _⟩ := hu.slice
      obtain ⟨hck, hcl⟩ := HC.out c (List.mem_of_getElem? hcc)
      have HAD := Lib.hid had
      have HR := Lib.hid hres
      have HU := Lib.hid hu
      have HCK := Lib.hid hck
      have HCL := Lib.hid hcl
      clear hcc had hres hu hck hcl hat HG
      have HE := Lib.hid (row_empty (enc := iI) (blk_new (w := wr) (.cells #[] 3)))
      have xj2 : (wr.alloc (.cells #[] 3)).cell? ⟨g, o + j, none⟩ = some (.slice UA c.length uc) := (World.cell?_of_block ((frm_alloc wr _).block g (World.block_lt_of_cell? _ _ xj) id)).trans xj
      clear xj
      go_wp2_with (first | (at_builtin; refine wpList_append_seesw rfl _ _ 26 rfl 3 i0 (.int .i64 0) 8 Try.underlying26 hi hz0 hz1 hz2 rfl (enc := iI) (fun _ => rfl) (.slice (some ⟨wr.heap.size, 0, none⟩) 0 0) [] c rfl HE.out (.slice UA c.length uc) rfl (HU.out.frm0 (frm_alloc _ _)) ?c1 ?c2 ?_) | fail)
      case c1 => have := HCL.out; have : maxLen = 9223372036854775807 := rfl; simp; omega
      case c2 => have := HCL.out; simp; omega
      intro v9 w9 hr9 hf9 hg9
      have hfx : Frm (fun _ => False) wr w9 := (frm_alloc wr (.cells #[] 3)).trans hf9 fun b hb e => by simp [Value.ownBlock] at e; omega
      have HO9 := Lib.hid (HOj.out.frm0 hfx)
      have HAC := Lib.hid (add_calls HO9.out.sol v9 c hr9.sees (fun g hg => by
        obtain ⟨o', n', c', e⟩ := hg
        refine HOj.out.fresh ?_
        subst e
        rcases hg9 g rfl with e | e
        · cases e; exact Nat.le_refl _
        · rw [e]; omega) HCL.out HCK.out fuel HAD.out)
      clear hr9 hf9 hg9 hfx HE HOj xj2 HU
      go_wp2_with fail
      refine HAC.out.mono ?_
      rintro e w10 ⟨rfl, R10, HS10, HM10⟩
      have HO10 := Lib.hid (HO9.out.step HS10 HM10)
      clear HS10 HM10 HO9 HAC
      dsimp only
      go_wp2
      go_roundw
      case rel => exact ⟨j + 1, rfl, hjl, s1, R10, HR, HO10⟩
      case measure => simp only [intOf]; omega
    · have hjI : ¬ (j : Int) < (l.length : Int) := by omega
      have e := HG.out
      rw [List.drop_eq_nil_of_le (by omega)] at e
      cases e
      clear HG
      go_wp2
      go_ret
      exact ⟨p, rfl, Rj, HOj.out⟩
end
end SaW
end Go.Proofs.Ytfpjfogddepbkaa
/- The document's Check and Most, walked. -/
namespace Go.Proofs.Ytfpjfogddepbkaa
open Go.RowKit Go.Mem Go.Sat
namespace SaW
/-- What Check answers. -/
def errOf (b : Bool) : Int := if b then 0 else 60
def stepM (m n : Int) : Int := if rightF n = true ∧ m < (n.natAbs : Int) then (n.natAbs : Int) else m
def mostC (m : Int) (c : List Int) : Int := c.foldl stepM m
def mostF (l : List (List Int)) : Int := l.foldl mostC 0
theorem right_abs {n : Int} (h : rightF n = true) : n ≠ 0 ∧ n.natAbs ≤ 1048576 := by unfold rightF at h; simp at h; omega
theorem stepM_ge (m n : Int) : m ≤ stepM m n ∧ (rightF n = true → (n.natAbs : Int) ≤ stepM m n) ∧ stepM m n ≤ max m 1048576 := by
  unfold stepM
  by_cases h : rightF n = true
  · have h2 := (right_abs h).2
    by_cases h3 : m < (n.natAbs : Int)
    · rw [if_pos ⟨h, h3⟩]
      exact ⟨by omega, fun _ => Int.le_refl _, by omega⟩
    · rw [if_neg fun e => h3 e.2]
      exact ⟨Int.le_refl _, fun _ => by omega, by omega⟩
  · rw [if_neg fun e => h e.1]
    exact ⟨Int.le_refl _, fun e => absurd e h, by omega⟩
theorem mostC_ge : ∀ (c : List Int) (m : Int), m ≤ mostC m c ∧ (∀ n ∈ c, rightF n = true → (n.natAbs : Int) ≤ mostC m c) ∧ mostC m c ≤ max m 1048576
  | [], m => ⟨Int.le_refl _, fun n h => (by cases h), (by show m ≤ _; omega)⟩
  | n :: r, m => by
    obtain ⟨h1, h2, h3⟩ := mostC_ge r (stepM m n)
    obtain ⟨h4, h5, h6⟩ := stepM_ge m n
    have e : mostC m (n :: r) = mostC (stepM m n) r := rfl
    rw [e]
    refine ⟨by omega, fun x hx hr => ?_, by omega⟩
    rcases List.mem_cons.1 hx with rfl | hx
    · have := h5 hr; omega
    · exact h2 x hx hr
theorem mostL_ge : ∀ (l : List (List Int)) (m : Int), m ≤ l.foldl mostC m ∧ (∀ c ∈ l, ∀ n ∈ c, rightF n = true → (n.natAbs : Int) ≤ l.foldl mostC m) ∧ l.foldl mostC m ≤ max m 1048576
  | [], m => ⟨Int.le_refl _, fun c h => (by cases h), (by show m ≤ _; omega)⟩
  | c :: r, m => by
    obtain ⟨h1, h2, h3⟩ := mostL_ge r (mostC m c)
    obtain ⟨h4, h5, h6⟩ := mostC_ge c m
    have e : (c :: r).foldl mostC m = r.foldl mostC (mostC m c) := rfl
    rw [e]
    refine ⟨by omega, fun x hx n hn hr => ?_, by omega⟩
    rcases List.mem_cons.1 hx with rfl | hx
    · have := h5 n hn hr; omega
    · exact h2 x hx n hn hr
theorem most_bound {l : List (List Int)} {K : Nat} (h : mostF l ≤ K) {c : List Int} (hc : c ∈ l) (hr : checkF c = true) : ∀ n ∈ c, n ≠ 0 ∧ n.natAbs ≤ K := fun n hn => by
  have h1 : rightF n = true := List.all_eq_true.1 hr n hn
  have h2 := (mostL_ge l 0).2.1 c hc n hn h1
  have h3 : l.foldl mostC 0 ≤ K := h
  refine ⟨?_, by omega⟩
  unfold rightF at h1
  simp at h1
  exact h1.1
theorem mostC_take {c : List Int} {i : Nat} {n m : Int} (h : c[i]? = some n) : mostC m (c.take (i + 1)) = stepM (mostC m (c.take i)) n := by
  unfold mostC
  rw [List.take_add_one, h, List.foldl_append]; rfl
theorem mostF_take {l : List (List Int)} {i : Nat} {c : List Int} (h : l[i]? = some c) : mostF (l.take (i + 1)) = mostC (mostF (l.take i)) c := by
  unfold mostF
  rw [List.take_add_one, h, List.foldl_append]; rfl
section
variable {w : World}
set_option maxRecDepth 100000 in
set_option maxHeartbeats 1000000 in
theorem rcheck_calls (va : Value) (l : List (List Int)) (hA : SeesL w va l) : Calls Try.prog 13 #[va] w fun e w' => e = .returned (.int .i64 (errOf (l.all checkF))) ∧ w' = w := by
  have hla : l.length ≤ 9223372036854775807 := hA.len
  obtain ⟨VA, ca, rfl, hca⟩ := hA.slice
  have hcA := Lib.hid hca
  clear hca hA
  go_enter Try.func13, Try.ntmps13
  go_wp2_with fail
  go_loopw [3] (fun v3 w' => ∃ j : Nat, v3 = .int .i64 j ∧ j ≤ l.length ∧ Hid ((l.take j).all checkF = true) ∧ w' = w) (fun v3 _ => l.length - (intOf v3).toNat)
  case atStart => exact ⟨0, rfl, by omega, Lib.hid rfl, rfl⟩
  case round =>
    obtain ⟨j, rfl, hj, hT, hw⟩ := hrel
    subst hw
    by_cases hjl : j < l.length
    · have hjI : (j : Int) < (l.length : Int) := by omega
      obtain ⟨c, hc⟩ : ∃ c, l[j]? = some c := ⟨_, List.getElem?_eq_getElem hjl⟩
      obtain ⟨ga, oa, u, rfl, xa, hu⟩ := hcA.out j c hc
      have hcl : c.length ≤ 9223372036854775807 := hu.len
      obtain ⟨VC, cc, rfl, hcc⟩ := hu.slice
      have HCC := Lib.hid hcc
      have HC := Lib.hid hc
      clear hc hu hcc
      go_wp2_with fail
      go_loopw [4] (fun v4 w' => ∃ i : Nat, v4 = .int .i64 i ∧ i ≤ c.length ∧ Hid ((c.take i).all rightF = true) ∧ w' = wr) (fun v4 _ => c.length - (intOf v4).toNat)
      case atStart => exact ⟨0, rfl, by omega, Lib.hid rfl, rfl⟩
      case round =>
        obtain ⟨i, rfl, hi, hTi, hw⟩ := hrel
        subst hw
        by_cases hil : i < c.length
        · have hiI : (i : Int) < (c.length : Int) := by omega
          obtain ⟨n, hn⟩ : ∃ n, c[i]? = some n := ⟨_, List.getElem?_eq_getElem hil⟩
          obtain ⟨gc, oc, rfl, xc⟩ := HCC.out i n hn
          have HN := Lib.hid hn
          clear hn
          go_wp2_with fail
          refine (rright_calls n).mono ?_
          rintro e w5 ⟨rfl, hw5⟩
          rw [hw5]
          clear hw5 w5
          dsimp only
          by_cases hr : rightF n = true
          · rw [hr]
            have hT2 : Hid ((c.take (i + 1)).all rightF = true) := Lib.hid (by rw [List.take_add_one, HN.out, List.all_append, hTi.out]; simp [hr])
            clear hTi HN hr
            go_wp2
            go_roundw
            case rel => exact ⟨i + 1, rfl, hil, hT2, by trivial⟩
            case measure => simp only [intOf]; omega
          · rw [Bool.not_eq_true] at hr
            rw [hr]
            have hF : Hid (l.all checkF = false) := Lib.hid (by
              rw [List.all_eq_false]
              exact ⟨c, List.mem_of_getElem? HC.out, by rw [Bool.not_eq_true]; exact List.all_eq_false.2 ⟨n, List.mem_of_getElem? HN.out, by rw [hr]; decide⟩⟩)
            clear hTi HN hr hT
            go_wp2
            go_ret
            exact ⟨by rw [hF.out]; rfl, rfl⟩
        · have hiI : ¬ (i : Int) < (c.length : Int) := by omega
          have hT2 : Hid ((l.take (j + 1)).all checkF = true) := Lib.hid (by
            have h1 := hTi.out
            rw [List.take_of_length_le (by omega)] at h1
            rw [List.take_add_one, HC.out, List.all_append, hT.out]; simp [checkF, h1])
          clear hTi hT
          go_wp2
          go_roundw
          case rel => exact ⟨j + 1, rfl, hjl, hT2, by trivial⟩
          case measure => simp only [intOf]; omega
    · have hjI : ¬ (j : Int) < (l.length : Int) := by omega
      have hF : Hid (l.all checkF = true) := Lib.hid (by have h1 := hT.out; rw [List.take_of_length_le (by omega)] at h1; exact h1)
      clear hT
      go_wp2
      go_ret
      exact ⟨by rw [hF.out]; rfl, rfl⟩
set_option maxRecDepth 100000 in
set_option maxHeartbeats 1000000 in
theorem most_calls (va : Value) (l : List (List Int)) (hA : SeesL w va l) : Calls Try.prog 12 #[va] w fun e w' => e = .returned (.int .i64 (mostF l)) ∧ w' = w := by
  have hla : l.length ≤ 9223372036854775807 := hA.len
  obtain ⟨VA, ca, rfl, hca⟩ := hA.slice
  have hcA := Lib.hid hca
  clear hca hA
  go_enter Try.func12, Try.ntmps12
  go_wp2_with fail
  go_loopw [3, 4] (fun v3 v4 w' => ∃ j : Nat, v4 = .int .i64 j ∧ j ≤ l.length ∧ v3 = .int .i64 (mostF (l.take j)) ∧ w' = w) (fun _ v4 _ => l.length - (intOf v4).toNat)
  case atStart => exact ⟨0, rfl, by omega, rfl, rfl⟩
  case round =>
    obtain ⟨j, rfl, hj, rfl, hw⟩ := hrel
    subst hw
    by_cases hjl : j < l.length
    · have hjI : (j : Int) < (l.length : Int) := by omega
      obtain ⟨c, hc⟩ : ∃ c, l[j]? = some c := ⟨_, List.getElem?_eq_getElem hjl⟩
      obtain ⟨ga, oa, u, rfl, xa, hu⟩ := hcA.out j c hc
      have hcl : c.length ≤ 9223372036854775807 := hu.len
      obtain ⟨VC, cc, rfl, hcc⟩ := hu.slice
      have HCC := Lib.hid hcc
      have HC := Lib.hid (mostF_take hc)
      obtain ⟨m0, hm0⟩ : ∃ m0, m0 = mostF (l.take j) := ⟨_, rfl⟩
      rw [← hm0] at HC ⊢
      clear hc hu hcc hm0
      go_wp2_with fail
      go_loopw [3, 5] (fun v3 v5 w' => ∃ i : Nat, v5 = .int .i64 i ∧ i ≤ c.length ∧ v3 = .int .i64 (mostC m0 (c.take i)) ∧ w' = wr) (fun _ v5 _ => c.length - (intOf v5).toNat)
      case atStart => exact ⟨0, rfl, by omega, rfl, rfl⟩
      case round =>
        obtain ⟨i, rfl, hi, rfl, hw⟩ := hrel
        subst hw
        by_cases hil : i < c.length
        · have hiI : (i : Int) < (c.length : Int) := by omega
          obtain ⟨n, hn⟩ : ∃ n, c[i]? = some n := ⟨_, List.getElem?_eq_getElem hil⟩
          obtain ⟨gc, oc, rfl, xc⟩ := HCC.out i n hn
          have HN := Lib.hid (mostC_take (m := m0) hn)
          obtain ⟨m1, hm1⟩ : ∃ m1, m1 = mostC m0 (c.take i) := ⟨_, rfl⟩
          rw [← hm1] at HN ⊢
          clear hn hm1
          go_wp2_with fail
          refine (rright_calls n).mono ?_
          rintro e w5 ⟨rfl, hw5⟩
          rw [hw5]
          clear hw5 w5
          dsimp only
          by_cases hr : rightF n = true
          · rw [hr]
            have hb := right_abs hr
            by_cases hneg : n < 0
            · have hd : decide (n < 0) = true := by simpa using hneg
              have hng : wrap64 (-n) = -n := by unfold wrap64; omega
              have hr2 : rightF (-n) = true := by unfold rightF; simp; omega
              have HR2 := Lib.hid hr2
              have HRR := Lib.hid hr
              have hna : (n.natAbs : Int) = -n := by omega
              have HNA := Lib.hid hna
              clear hr hr2 hneg hna hb
              go_wp2_with fail
              refine (rright_calls (-n)).mono ?_
              rintro e w5 ⟨rfl, hw5⟩
              rw [hw5, HR2.out]
              clear hw5 w5
              dsimp only
              by_cases hm : m1 < -n
              · have HX : Hid (mostC m0 (c.take (i + 1)) = -n) := Lib.hid (by rw [HN.out]; unfold stepM; rw [if_pos ⟨HRR.out, by rw [HNA.out]; exact hm⟩, HNA.out])
                clear HN
                go_wp2
                go_roundw
                case rel => exact ⟨i + 1, rfl, hil, by rw [HX.out, hng], by trivial⟩
                case measure => simp only [intOf]; omega
              · have HX : Hid (mostC m0 (c.take (i + 1)) = m1) := Lib.hid (by rw [HN.out]; unfold stepM; rw [if_neg (fun e => hm (by rw [← HNA.out]; exact e.2))])
                clear HN
                go_wp2
                go_roundw
                case rel => exact ⟨i + 1, rfl, hil, by rw [HX.out], by trivial⟩
                case measure => simp only [intOf]; omega
            · have hd : decide (n < 0) = false := by simpa using hneg
              have HRR := Lib.hid hr
              have hna : (n.natAbs : Int) = n := by omega
              have HNA := Lib.hid hna
              clear hr hneg hna hb
              go_wp2_with fail
              refine (rright_calls n).mono ?_
              rintro e w5 ⟨rfl, hw5⟩
              rw [hw5, HRR.out]
              clear hw5 w5
              dsimp only
              by_cases hm : m1 < n
              · have HX : Hid (mostC m0 (c.take (i + 1)) = n) := Lib.hid (by rw [HN.out]; unfold stepM; rw [if_pos ⟨HRR.out, by rw [HNA.out]; exact hm⟩, HNA.out])
                clear HN
                go_wp2
                go_roundw
                case rel => exact ⟨i + 1, rfl, hil, by rw [HX.out], by trivial⟩
                case measure => simp only [intOf]; omega
              · have HX : Hid (mostC m0 (c.take (i + 1)) = m1) := Lib.hid (by rw [HN.out]; unfold stepM; rw [if_neg (fun e => hm (by rw [← HNA.out]; exact e.2))])
                clear HN
                go_wp2
                go_roundw
                case rel => exact ⟨i + 1, rfl, hil, by rw [HX.out], by trivial⟩
                case measure => simp only [intOf]; omega
          · rw [Bool.not_eq_true] at hr
            have HRR := Lib.hid hr
            rw [hr]
            have HX : Hid (mostC m0 (c.take (i + 1)) = m1) := Lib.hid (by rw [HN.out]; unfold stepM; rw [if_neg (fun e => by rw [hr] at e; cases e.1)])
            clear HN hr
            go_wp2_with fail
            refine (rright_calls n).mono ?_
            rintro e w5 ⟨rfl, hw5⟩
            rw [hw5, HRR.out]
            clear hw5 w5
            dsimp only
            go_wp2
            go_roundw
            case rel => exact ⟨i + 1, rfl, hil, by rw [HX.out], by trivial⟩
            case measure => simp only [intOf]; omega
        · have hiI : ¬ (i : Int) < (c.length : Int) := by omega
          have hT2 : Hid (mostF (l.take (j + 1)) = mostC m0 (c.take i)) := Lib.hid (by rw [HC.out, List.take_of_length_le (by omega)])
          go_wp2
          go_roundw
          case rel => exact ⟨j + 1, rfl, hjl, by rw [hT2.out], by trivial⟩
          case measure => simp only [intOf]; omega
    · have hjI : ¬ (j : Int) < (l.length : Int) := by omega
      have hF : Hid (mostF l = mostF (l.take j)) := Lib.hid (by rw [List.take_of_length_le (by omega)])
      go_wp2
      go_ret
      exact ⟨by rw [hF.out]; rfl, rfl⟩
end
end SaW
end Go.Proofs.Ytfpjfogddepbkaa
/- The law's own functions, walked: awake. -/
namespace Go.Proofs.Ytfpjfogddepbkaa
open Go.RowKit Go.Mem Go.Sat
namespace SaW
def AW : List (List Int) := [[1, 2], [-1, 2], [1, -2]]
def K1 : St := (addsF 20 Sat.new AW).getD Sat.new
def K2 : St := ((solveF 20 K1 0 []).getD ((noAns, 0), Sat.new)).2
def K3 : St := ((solveF 20 K2 0 [-2]).getD ((noAns, 0), Sat.new)).2
def K4 : St := (addF 20 K3 [-1, -2]).getD Sat.new
def K5 : St := ((solveF 20 K4 0 []).getD ((noAns, 0), Sat.new)).2
theorem K1_eq : addsF 20 Sat.new AW = some K1 := by kernel_rfl
theorem K2_eq : solveF 20 K1 0 [] = some ((⟨true, [1, 2], []⟩, 0), K2) := by kernel_rfl
theorem K3_eq : solveF 20 K2 0 [-2] = some ((⟨false, [], [-2]⟩, 0), K3) := by kernel_rfl
theorem K4_eq : addF 20 K3 [-1, -2] = some K4 := by kernel_rfl
theorem K5_eq : solveF 20 K4 0 [] = some ((⟨false, [], []⟩, 0), K5) := by kernel_rfl
theorem K5_vars : K5.vars.length = 3 := by kernel_rfl
theorem aw_ok : ∀ c ∈ AW, checkF c = true ∧ c.length ≤ 1099511627776 := by
  intro c hc
  simp [AW] at hc
  rcases hc with rfl | rfl | rfl <;> exact ⟨rfl, by simp⟩
theorem sees_nil {α : Type} (w : World) (enc : α → Value) : Sees w enc (.slice none 0 0) ([] : List α) := .inl ⟨rfl, rfl⟩
theorem sees_two {w : World} {b : Nat} {x y : Int} {t : TypeId} {z : Nat × Nat} (h : w.heap[b]? = some (.cells #[.int .i64 x, .int .i64 y] t z)) : Sees w iI (.slice (some ⟨b, 0, none⟩) 2 2) [x, y] := sees_of_blk h rfl rfl (by decide)
theorem sees_one {w : World} {b : Nat} {x : Int} {t : TypeId} {z : Nat × Nat} (h : w.heap[b]? = some (.cells #[.int .i64 x] t z)) : Sees w iI (.slice (some ⟨b, 0, none⟩) 1 1) [x] := sees_of_blk h rfl rfl (by decide)
theorem same_eq {w : World} (va vb : Value) (a : List Int) (hA : Sees w iI va a) (hB : Sees w iI vb a) : Calls Try.prog 11 #[va, vb] w fun e w' => e = .returned (.bool true) ∧ Frm (fun _ => False) w w' :=
  (same_calls va vb a a hA hB).mono fun e w' h => ⟨h.1.trans (by simp), h.2⟩
set_option maxRecDepth 100000 in
set_option maxHeartbeats 4000000 in
theorem awake_calls (w : World) : Calls Try.prog 8 #[] w fun e w' => e = .returned (.bool true) ∧ Frm (fun _ => False) w w' := by
  obtain ⟨w4, hw4⟩ : ∃ w4, w4 = (((w.alloc (.cells #[.int .i64 1, .int .i64 2] 3)).alloc (.cells #[.int .i64 (-1), .int .i64 2] 3)).alloc (.cells #[.int .i64 1, .int .i64 (-2)] 3)).alloc (.cells #[.slice (some ⟨w.heap.size, 0, none⟩) 2 2, .slice (some ⟨w.heap.size + 1, 0, none⟩) 2 2, .slice (some ⟨w.heap.size + 2, 0, none⟩) 2 2] 26) := ⟨_, rfl⟩
  have hf4 : Frm (fun _ => False) w w4 := by rw [hw4]; exact (((frm_alloc w _).alloc _).alloc _).alloc _
  have hb0 : w4.heap[w.heap.size]? = some (.cells #[.int .i64 1, .int .i64 2] 3) := by rw [hw4]; exact blk_alloc (blk_alloc (blk_alloc (blk_new _) _) _) _
  have hb1 : w4.heap[w.heap.size + 1]? = some (.cells #[.int .i64 (-1), .int .i64 2] 3) := by rw [hw4]; exact blk_alloc (blk_alloc (blk_new_at _ (by simp)) _) _
  have hb2 : w4.heap[w.heap.size + 2]? = some (.cells #[.int .i64 1, .int .i64 (-2)] 3) := by rw [hw4]; exact blk_alloc (blk_new_at _ (by simp)) _
  have hb3 : w4.heap[w.heap.size + 3]? = some (.cells #[.slice (some ⟨w.heap.size, 0, none⟩) 2 2, .slice (some ⟨w.heap.size + 1, 0, none⟩) 2 2, .slice (some ⟨w.heap.size + 2, 0, none⟩) 2 2] 26) := by rw [hw4]; exact blk_new_at _ (by simp)
  have hsl : SeesL w4 (.slice (some ⟨w.heap.size + 3, 0, none⟩) 3 3) AW := SeesL.of_blk (us := [_, _, _]) (l := AW) hb3 rfl (by decide) fun i u c hu hc => by
    match i with
    | 0 => cases hu; cases hc; exact (sees_two hb0).weak
    | 1 => cases hu; cases hc; exact (sees_two hb1).weak
    | 2 => cases hu; cases hc; exact (sees_two hb2).weak
    | i + 3 => simp at hu
  have HM := Lib.hid (made_calls (w := w4) _ AW hsl aw_ok 20 K1_eq)
  have HF4 := Lib.hid hf4
  rw [hw4] at HM
  have HW4 := Lib.hid hw4
  clear hw4 hf4 hb0 hb1 hb2 hb3 hsl
  go_enter Try.func8, Try.ntmps8
  go_wp2_with fail
  refine HM.out.mono ?_
  rintro e w5 ⟨p, R5, rfl, hO⟩
  rw [← HW4.out] at hO
  have HO := Lib.hid (hO.base HF4.out)
  have HS1 := Lib.hid (solve_calls hO.sol (.slice none 0 0) [] (sees_nil _ _) outOf_nil (by decide) rfl 20 0 _ _ K2_eq)
  clear hO HM HW4 HF4
  dsimp only
  go_wp2_with fail
  refine HS1.out.mono ?_
  rintro e w6 ⟨vm1, vc1, R6, rfl, rm, rc, ho, hS, hM⟩
  obtain ⟨h1, h2⟩ := HO.out.ans hS hM rm rc fun g hg => (ho g hg).1
  have HO6 := Lib.hid h1
  have HA6 := Lib.hid h2
  obtain ⟨MA, mc, rfl, _⟩ := sees_slice rm.sees
  obtain ⟨CA, cc, rfl, _⟩ := sees_slice rc.sees
  clear rm rc ho hS hM h1 h2 HO HS1
  obtain ⟨w7, hw7⟩ : ∃ w7, w7 = w6.alloc (.cells #[.bool true, .slice MA 2 mc, .slice CA 0 cc] 30) := ⟨_, rfl⟩
  have HO7 := Lib.hid (show Own w R6 w7 p K2 from hw7 ▸ HO6.out)
  have HA7 := Lib.hid (show AnsAt R6 w7 w6.heap.size (.slice MA 2 mc) (.slice CA 0 cc) ⟨true, [1, 2], []⟩ from hw7 ▸ HA6.out)
  have hf8 := frm_alloc w7 (.cells #[.int .i64 (-2)] 3)
  have HO8 := Lib.hid (HO7.out.frm0 hf8)
  have HA8 := Lib.hid (HA7.out.frm0 hf8)
  have HS2 := Lib.hid (solve_calls HO8.out.sol (.slice (some ⟨w7.heap.size, 0, none⟩) 1 1) [-2] (sees_one (blk_new _)) (outOf_new (HO7.out.fresh (Nat.le_refl _))) (by decide) rfl 20 0 _ _ K3_eq)
  have hz7 : w7.heap.size = w6.heap.size + 1 := by rw [hw7]; simp
  rw [hz7] at HS2
  rw [hw7] at HS2 HO8 HA8
  clear hf8 HO7 HA7 HO6 HA6 hw7 hz7
  dsimp only
  go_wp2_with fail
  refine HS2.out.mono ?_
  rintro e w9 ⟨vm2, vc2, R9, rfl, rm, rc, ho, hS, hM⟩
  obtain ⟨h1, h2⟩ := HO8.out.ans hS hM rm rc fun g hg => (ho g hg).1
  obtain ⟨MB, mb, rfl, _⟩ := sees_slice rm.sees
  obtain ⟨CB, cb, rfl, _⟩ := sees_slice rc.sees
  have h3 := (HA8.out.step hM).frm0 (frm_alloc w9 (.cells #[.bool false, .slice MB 0 mb, .slice CB 1 cb] 30))
  obtain ⟨w10, hw10⟩ : ∃ w10, w10 = w9.alloc (.cells #[.bool false, .slice MB 0 mb, .slice CB 1 cb] 30) := ⟨_, rfl⟩
  have HO10 := Lib.hid (show Own w R9 w10 p K3 from hw10 ▸ h1)
  have HA10 := Lib.hid (show AnsAt R9 w10 w9.heap.size (.slice MB 0 mb) (.slice CB 1 cb) ⟨false, [], [-2]⟩ from hw10 ▸ h2)
  have HB10 := Lib.hid (show AnsAt R9 w10 w6.heap.size (.slice MA 2 mc) (.slice CA 0 cc) ⟨true, [1, 2], []⟩ from hw10 ▸ h3)
  have hf11 := frm_alloc w10 (.cells #[.int .i64 (-1), .int .i64 (-2)] 3)
  have HO11 := Lib.hid (HO10.out.frm0 hf11)
  have HA11 := Lib.hid (HA10.out.frm0 hf11)
  have HB11 := Lib.hid (HB10.out.frm0 hf11)
  have HAD := Lib.hid (add_calls HO11.out.sol (.slice (some ⟨w10.heap.size, 0, none⟩) 2 2) [-1, -2] (sees_two (blk_new _)) (outOf_new (HO10.out.fresh (Nat.le_refl _))) (by decide) rfl 20 K4_eq)
  have hz10 : w10.heap.size = w9.heap.size + 1 := by rw [hw10]; simp
  rw [hz10] at HAD
  rw [hw10] at HAD HO11 HA11 HB11
  clear hf11 HO10 HA10 HB10 hw10 hz10 rm rc ho hS hM h1 h2 h3 HO8 HA8 HS2
  dsimp only
  go_wp2_with fail
  refine HAD.out.mono ?_
  rintro e w12 ⟨rfl, R12, hS, hM⟩
  have HO12 := Lib.hid (HO11.out.step hS hM)
  have HA12 := Lib.hid (HA11.out.step hM)
  have HB12 := Lib.hid (HB11.out.step hM)
  have HS3 := Lib.hid (solve_calls HO12.out.sol (.slice none 0 0) [] (sees_nil _ _) outOf_nil (by decide) rfl 20 0 _ _ K5_eq)
  clear hS hM HO11 HA11 HB11 HAD
  dsimp only
  go_wp2_with fail
  refine HS3.out.mono ?_
  rintro e w13 ⟨vm3, vc3, R13, rfl, rm, rc, ho, hS, hM⟩
  obtain ⟨h1, h2⟩ := HO12.out.ans hS hM rm rc fun g hg => (ho g hg).1
  obtain ⟨MC, ma, rfl, _⟩ := sees_slice rm.sees
  obtain ⟨CC, ca, rfl, _⟩ := sees_slice rc.sees
  obtain ⟨w14, hw14⟩ : ∃ w14, w14 = w13.alloc (.cells #[.bool false, .slice MC 0 ma, .slice CC 0 ca] 30) := ⟨_, rfl⟩
  have h3 := (HA12.out.step hM).frm0 (frm_alloc w13 (.cells #[.bool false, .slice MC 0 ma, .slice CC 0 ca] 30))
  have h4 := (HB12.out.step hM).frm0 (frm_alloc w13 (.cells #[.bool false, .slice MC 0 ma, .slice CC 0 ca] 30))
  have HO14 := Lib.hid (show Own w R13 w14 p K5 from hw14 ▸ h1)
  have HC14 := Lib.hid (show AnsAt R13 w14 w13.heap.size (.slice MC 0 ma) (.slice CC 0 ca) ⟨false, [], []⟩ from hw14 ▸ h2)
  have HA14 := Lib.hid (show AnsAt R13 w14 w9.heap.size (.slice MB 0 mb) (.slice CB 1 cb) ⟨false, [], [-2]⟩ from hw14 ▸ h3)
  have HB14 := Lib.hid (show AnsAt R13 w14 w6.heap.size (.slice MA 2 mc) (.slice CA 0 cc) ⟨true, [1, 2], []⟩ from hw14 ▸ h4)
  clear rm rc ho hS hM h1 h2 h3 h4 HO12 HA12 HB12 HS3
  have x1 : w14.cell? ⟨w6.heap.size, 0, none⟩ = some (.bool true) := blk_cell HB14.out.blk 0
  have x2 : w14.cell? ⟨w6.heap.size, 1, none⟩ = some (.slice MA 2 mc) := blk_cell HB14.out.blk 1
  have hf15 := frm_alloc w14 (.cells #[.int .i64 1, .int .i64 2] 3)
  have HO15 := Lib.hid (HO14.out.frm0 hf15)
  have HA15 := Lib.hid (HA14.out.frm0 hf15)
  have HC15 := Lib.hid (HC14.out.frm0 hf15)
  have HSM := Lib.hid (same_eq (.slice MA 2 mc) (.slice (some ⟨w14.heap.size, 0, none⟩) 2 2) [1, 2] (HB14.out.frm0 hf15).model.sees (sees_two (blk_new _)))
  have hz14 : w14.heap.size = w13.heap.size + 1 := by rw [hw14]; simp
  rw [hz14] at HSM
  rw [hw14] at HSM HO15 HA15 HC15 x1 x2
  clear hf15 HO14 HA14 HC14 HB14 hw14 hz14
  dsimp only
  go_wp2_with fail
  refine HSM.out.mono ?_
  rintro e w16 ⟨rfl, hf⟩
  have HO16 := Lib.hid (HO15.out.frm0 hf)
  have HA16 := Lib.hid (HA15.out.frm0 hf)
  have HC16 := Lib.hid (HC15.out.frm0 hf)
  clear hf HO15 HA15 HC15 x1 x2 HSM
  have x1 : w16.cell? ⟨w9.heap.size, 0, none⟩ = some (.bool false) := blk_cell HA16.out.blk 0
  have x2 : w16.cell? ⟨w9.heap.size, 2, none⟩ = some (.slice CB 1 cb) := blk_cell HA16.out.blk 2
  have hf17 := frm_alloc w16 (.cells #[.int .i64 (-2)] 3)
  have HO17 := Lib.hid (HO16.out.frm0 hf17)
  have HC17 := Lib.hid (HC16.out.frm0 hf17)
  have HSM := Lib.hid (same_eq (.slice CB 1 cb) (.slice (some ⟨w16.heap.size, 0, none⟩) 1 1) [-2] (HA16.out.frm0 hf17).core.sees (sees_one (blk_new _)))
  clear hf17 HO16 HA16 HC16
  dsimp only
  go_wp2_with fail
  refine HSM.out.mono ?_
  rintro e w18 ⟨rfl, hf⟩
  have HO18 := Lib.hid (HO17.out.frm0 hf)
  have HC18 := Lib.hid (HC17.out.frm0 hf)
  clear hf HO17 HC17 x1 x2 HSM
  have x1 : w18.cell? ⟨w13.heap.size, 0, none⟩ = some (.bool false) := blk_cell HC18.out.blk 0
  have x2 : w18.cell? ⟨w13.heap.size, 2, none⟩ = some (.slice CC 0 ca) := blk_cell HC18.out.blk 2
  have HV := Lib.hid (vars_calls HO18.out.sol)
  rw [K5_vars] at HV
  dsimp only
  go_wp2_with fail
  refine HV.out.mono ?_
  rintro e w19 ⟨rfl, hf⟩
  have HO19 := Lib.hid (HO18.out.frm0 hf)
  have HAD := Lib.hid (add_bad (p := p) (w := w19.alloc (.cells #[.int .i64 0] 3)) (.slice (some ⟨w19.heap.size, 0, none⟩) 1 1) [0] (sees_one (blk_new _)) rfl)
  clear hf HO18 HC18 x1 x2 HV
  dsimp only
  go_wp2_with fail
  refine HAD.out.mono ?_
  rintro e w20 ⟨rfl, hf⟩
  have HF := Lib.hid ((HO19.out.frm.alloc _).trans hf fun _ _ e => e.elim)
  clear hf HO19 HAD
  dsimp only
  go_wp2
  go_ret
  exact ⟨rfl, HF.out⟩
end SaW
end Go.Proofs.Ytfpjfogddepbkaa
/- Pigeons and holes: the clauses, what the model answers, the closure. -/
namespace Go.Proofs.Ytfpjfogddepbkaa
open Go.RowKit Go.Mem Go.Sat
namespace SaW
/-- A pigeon in a hole. -/
def atF (k p h : Nat) : Int := ((p * (k - 1) + h + 1 : Nat) : Int)
def remQ (k p h q : Nat) : List (List Int) := (List.range' q (p - q)).map fun q => [-atF k p h, -atF k q h]
def remH (k p h : Nat) : List (List Int) := (List.range' h (k - 1 - h)).flatMap fun h => remQ k p h 0
def rowF (k p h : Nat) : List Int := (List.range h).map (atF k p)
def remP (k p : Nat) : List (List Int) := (List.range' p (k - p)).flatMap fun p => remH k p 0 ++ [rowF k p (k - 1)]
theorem range_step {a b : Nat} (h : a < b) : List.range' a (b - a) = a :: List.range' (a + 1) (b - (a + 1)) := by
  obtain ⟨m, hm⟩ : ∃ m, b - a = m + 1 := ⟨b - a - 1, by omega⟩
  have hm2 : b - (a + 1) = m := by omega
  rw [hm, hm2, List.range'_succ]
theorem range_done {a b : Nat} (h : b ≤ a) : List.range' a (b - a) = [] := by
  have : b - a = 0 := by omega
  rw [this]; rfl
theorem remQ_step {k p h q : Nat} (hq : q < p) : remQ k p h q = [-atF k p h, -atF k q h] :: remQ k p h (q + 1) := by
  unfold remQ; rw [range_step hq, List.map_cons]
theorem remQ_done {k p h : Nat} : remQ k p h p = [] := by
  unfold remQ; rw [range_done (Nat.le_refl _)]; rfl
theorem remH_step {k p h : Nat} (hh : h < k - 1) : remH k p h = remQ k p h 0 ++ remH k p (h + 1) := by
  unfold remH; rw [range_step hh, List.flatMap_cons]
theorem remH_done {k p h : Nat} (hh : k - 1 ≤ h) : remH k p h = [] := by
  unfold remH; rw [range_done hh]; rfl
theorem remP_step {k p : Nat} (hp : p < k) : remP k p = remH k p 0 ++ ([rowF k p (k - 1)] ++ remP k (p + 1)) := by
  unfold remP; rw [range_step hp, List.flatMap_cons, List.append_assoc]
theorem remP_done {k p : Nat} (hp : k ≤ p) : remP k p = [] := by
  unfold remP; rw [range_done hp]; rfl
theorem rowF_succ (k p h : Nat) : rowF k p (h + 1) = rowF k p h ++ [atF k p h] := by
  unfold rowF; rw [List.range_succ, List.map_append]; rfl
theorem adds_cons {fuel : Nat} {s s' : St} {c : List Int} {r : List (List Int)} (h : addsF fuel s (c :: r) = some s') : ∃ s1, addF fuel s c = some s1 ∧ addsF fuel s1 r = some s' := Option.bind_eq_some_iff.1 h
def chk (k : Nat) : Bool :=
  match addsF 100 Sat.new (remP k 0) with
  | none => false
  | some s =>
    match solveF 100 s 0 [] with
    | some ((a, e), _) => !a.sat && a.model.isEmpty && a.core.isEmpty && decide (e = 0)
    | none => false
theorem chk_run {k : Nat} (h : chk k = true) : ∃ s s', addsF 100 Sat.new (remP k 0) = some s ∧ solveF 100 s 0 [] = some ((⟨false, [], []⟩, 0), s') := by
  unfold chk at h
  split at h
  · cases h
  · rename_i s hs
    split at h
    · rename_i a e s' hv
      simp at h
      obtain ⟨⟨⟨h1, h2⟩, h3⟩, h4⟩ := h
      obtain ⟨x, y, z⟩ := a
      simp only at h1 h2 h3
      subst h1 h2 h3 h4
      exact ⟨s, s', hs, hv⟩
    · cases h
theorem chk2 : chk 2 = true := by kernel_rfl
theorem chk3 : chk 3 = true := by kernel_rfl
theorem chk4 : chk 4 = true := by kernel_rfl
theorem chk5 : chk 5 = true := by kernel_rfl
theorem holes_run (k : Nat) (h1 : 2 ≤ k) (h2 : k ≤ 5) : ∃ s s', addsF 100 Sat.new (remP k 0) = some s ∧ solveF 100 s 0 [] = some ((⟨false, [], []⟩, 0), s') := by
  refine chk_run ?_
  have : k = 2 ∨ k = 3 ∨ k = 4 ∨ k = 5 := by omega
  rcases this with rfl | rfl | rfl | rfl
  · exact chk2
  · exact chk3
  · exact chk4
  · exact chk5
theorem atF_bound {k p h : Nat} (hk : k ≤ 5) (hp : p < k) (hh : h < k - 1) : 1 ≤ p * (k - 1) + h + 1 ∧ p * (k - 1) + h + 1 ≤ 20 := by
  have h1 : p * (k - 1) ≤ 4 * 4 := Nat.mul_le_mul (by omega) (by omega)
  omega
set_option maxRecDepth 100000 in
theorem at_calls (w : World) (b k p h : Nat) (hk : k ≤ 5) (hk2 : 2 ≤ k) (hp : p < k) (hh : h < k - 1) (hc : w.cell? ⟨b, 0, none⟩ = some (.int .i64 k)) :
    Calls Try.prog 18 #[.int .i64 p, .int .i64 h, .pointer (some ⟨b, 0, none⟩)] w fun e w' => e = .returned (.int .i64 (atF k p h)) ∧ w' = w := by
  obtain ⟨m, rfl⟩ : ∃ m, k = m + 1 := ⟨k - 1, by omega⟩
  have hb := atF_bound hk hp hh
  have hpm : p * m + h + 1 ≤ 20 := by simpa using hb.2
  have he : Hid (wrap64 (wrap64 (wrap64 ((p : Int) * (m : Int)) + (h : Int)) + 1) = ((p * m + h + 1 : Nat) : Int)) := Lib.hid (by
    rw [← Int.natCast_mul]
    generalize p * m = z at *
    unfold wrap64; omega)
  have ha : atF (m + 1) p h = ((p * m + h + 1 : Nat) : Int) := rfl
  rw [ha]
  clear ha hb hpm
  go_enter Try.func18, Try.ntmps18
  go_wp2
  go_ret
  exact ⟨by rw [← he.out]; rfl, rfl⟩
end SaW
end Go.Proofs.Ytfpjfogddepbkaa
/- Pigeons and holes, walked. -/
namespace Go.Proofs.Ytfpjfogddepbkaa
open Go.RowKit Go.Mem Go.Sat
namespace SaW
theorem atF_neg {k p h : Nat} (hk : k ≤ 5) (hp : p < k) (hh : h < k - 1) : wrap64 (-atF k p h) = -atF k p h := by
  have := atF_bound hk hp hh
  unfold atF wrap64
  omega
theorem atF_right {k p h : Nat} (hk : k ≤ 5) (hp : p < k) (hh : h < k - 1) : rightF (atF k p h) = true ∧ rightF (-atF k p h) = true := by
  have := atF_bound hk hp hh
  unfold rightF atF
  simp only [decide_eq_true_eq]
  omega
theorem rowF_right {k p h : Nat} (hk : k ≤ 5) (hp : p < k) (hh : h ≤ k - 1) : checkF (rowF k p h) = true := by
  unfold checkF rowF
  rw [List.all_eq_true]
  intro x hx
  obtain ⟨i, hi, rfl⟩ := List.mem_map.1 hx
  have := List.mem_range.1 hi
  exact (atF_right hk hp (by omega)).1
/-- A row of the call's own, none of the solver's. -/
def RowO (w : World) (R : Nat → Option Role) (w' : World) (v : Value) (l : List Int) : Prop := Row w' 3 iI v l ∧ ∀ g, v.ownBlock = some g → R g = none ∧ w.heap.size ≤ g
section
variable {w w1 w2 : World} {R R' : Nat → Option Role} {p : Nat} {s s' : St} {v v' : Value} {l l' : List Int}
theorem Own.side {S : Nat → Prop} (h : Own w R w1 p s) (hf : Frm S w1 w2) (hS : ∀ b, S b → R b = none ∧ w.heap.size ≤ b) : Own w R w2 p s :=
  ⟨h.sol.frm hf (fun b r hr e => (by rw [(hS b e).1] at hr; cases hr)), h.frm.trans hf (fun x hx e => (by have := (hS x e).2; omega)), h.new⟩
theorem RowO.step {T : Role → Prop} (h : RowO w R w1 v l) (hM : SMov T R w1 R' w2) : RowO w R' w2 v l :=
  ⟨Row.keep h.1 (fun g hg => (h.2 g hg).1) hM, fun g hg => ⟨hM.out (h.1.lt g hg) (h.2 g hg).1, (h.2 g hg).2⟩⟩
theorem RowO.frm0 (h : RowO w R w1 v l) (hf : Frm (fun _ => False) w1 w2) : RowO w R w2 v l := ⟨h.1.frm hf fun _ _ => id, h.2⟩
theorem RowO.out (h : RowO w R w1 v l) : OutOf R v := fun g hg => by
  obtain ⟨o, n, c, rfl⟩ := hg
  rcases h.1.shape with ⟨e, _⟩ | ⟨g', c', e, e2, _⟩
  · cases e
  · cases e
    exact (h.2 g e2).1
/-- append onto a row of the call's own. -/
theorem RowO.append (h : RowO w R w1 v l) (hO : Own w R w1 p s) (hf : Frm (fun b => v.ownBlock = some b) w1 w2) (hrow : Row w2 3 iI v' l') (hg : ∀ g, v'.ownBlock = some g → v.ownBlock = some g ∨ w1.heap.size ≤ g) : Own w R w2 p s ∧ RowO w R w2 v' l' :=
  ⟨hO.side hf h.2, hrow, fun g e => (hg g e).elim (h.2 g) fun e => ⟨hO.fresh e, Nat.le_trans hO.frm.size e⟩⟩
theorem RowO.empty (hO : Own w R w1 p s) : RowO w R (w1.alloc (.cells #[] 3)) (.slice (some ⟨w1.heap.size, 0, none⟩) 0 0) [] :=
  ⟨row_empty (blk_new _), fun g e => by cases e; exact ⟨hO.fresh (Nat.le_refl _), hO.frm.size⟩⟩
end
set_option maxRecDepth 100000 in
set_option maxHeartbeats 4000000 in
theorem holes_walk (w : World) (n : Int) (hn : 0 ≤ n ∧ n ≤ 255) : Calls Try.prog 6 #[.int .u8 n] w fun e w' => e = .returned (.bool true) ∧ Frm (fun _ => False) w w' := by
  obtain ⟨i0, hi, hz0, hz1, hz2⟩ := info_parts info_int
  obtain ⟨k, hk⟩ : ∃ k : Nat, (k : Int) = 2 + n % 4 := ⟨(2 + n % 4).toNat, by omega⟩
  have hk2 : 2 ≤ k := by omega
  have hk5 : k ≤ 5 := by omega
  have HKN : Hid (2 + n % 4 = (k : Int)) := Lib.hid hk.symm
  obtain ⟨s, s', hs1, hs2⟩ := holes_run k hk2 hk5
  have HS1 := Lib.hid hs1
  have HS2 := Lib.hid hs2
  have HAW := Lib.hid (fun W => awake_calls W)
  have HNW := Lib.hid (fun W => new_calls W)
  clear hk hs1 hs2
  go_enter Try.func6, Try.ntmps6
  go_wp2_with fail
  rw [HKN.out]
  clear HKN hn
  refine (HNW.out _).mono ?_
  rintro e w2 ⟨p, R2, rfl, hS, hF, hnew⟩
  obtain ⟨w1, hw1⟩ : ∃ w1, w1 = w.alloc (.cells #[.int .i64 (k : Int)] 3) := ⟨_, rfl⟩
  rw [← hw1] at hF hnew
  have HO2 := Lib.hid (show Own w1 R2 w2 p Sat.new from ⟨hS, hF, hnew⟩)
  have HW1 : Hid (w1.heap[w.heap.size]? = some (.cells #[.int .i64 (k : Int)] 3)) := Lib.hid (by rw [hw1]; exact blk_new _)
  have HF1 : Hid (Frm (fun _ => False) w w1) := Lib.hid (by rw [hw1]; exact frm_alloc w _)
  clear hS hF hnew hw1 HNW
  dsimp only
  go_wp2_with fail
  refine (HAW.out _).mono ?_
  rintro e w3 ⟨rfl, hf⟩
  have HO3 := Lib.hid (HO2.out.frm0 hf)
  clear hf HO2 HAW
  dsimp only
  go_wp2_with fail
  go_loopw [6] (fun v6 w' => ∃ j : Nat, v6 = .int .i64 j ∧ j ≤ k ∧ ∃ sj Rj, Hid (addsF 100 sj (remP k j) = some s) ∧ Hid (Own w1 Rj w' p sj)) (fun v6 _ => k - (intOf v6).toNat)
  case atStart => exact ⟨0, rfl, by omega, _, R2, HS1, HO3⟩
  case round =>
    obtain ⟨j, rfl, hj, sj, Rj, HG, HOj⟩ := hrel
    clear HO3 HS1
    have ck : wr.cell? ⟨w.heap.size, 0, none⟩ = some (.int .i64 (k : Int)) := (World.cell?_of_block (HOj.out.frm.block _ (lt_of_block HW1.out) id)).trans (blk_cell HW1.out 0)
    by_cases hjl : j < k
    · have hjI : (j : Int) < (k : Int) := by omega
      have HG2 : Hid (addsF 100 sj (remH k j 0 ++ ([rowF k j (k - 1)] ++ remP k (j + 1))) = some s) := Lib.hid (by rw [← remP_step hjl]; exact HG.out)
      clear HG
      go_wp2_with fail
      have hf4 := frm_alloc wr (.cells #[] 3)
      have HO4 := Lib.hid (HOj.out.frm0 hf4)
      have HR4 : Hid (RowO w1 Rj (wr.alloc (.cells #[] 3)) (.slice (some ⟨wr.heap.size, 0, none⟩) 0 0) (rowF k j 0)) := Lib.hid (RowO.empty HOj.out)
      clear hf4 ck HOj
      go_loopw [7, 8] (fun v7 v8 w' => ∃ h : Nat, v8 = .int .i64 h ∧ h ≤ k - 1 ∧ ∃ sj Rj, Hid (addsF 100 sj (remH k j h ++ ([rowF k j (k - 1)] ++ remP k (j + 1))) = some s) ∧ Hid (Own w1 Rj w' p sj) ∧ Hid (RowO w1 Rj w' v7 (rowF k j h))) (fun _ v8 _ => k - (intOf v8).toNat)
      case atStart => exact ⟨0, rfl, by omega, sj, Rj, HG2, HO4, HR4⟩
      case round =>
        obtain ⟨h, rfl, hh, sh, Rh, HGh, HOh, HRh⟩ := hrel
        clear HG2 HO4 HR4
        have ck : wr.cell? ⟨w.heap.size, 0, none⟩ = some (.int .i64 (k : Int)) := (World.cell?_of_block (HOh.out.frm.block _ (lt_of_block HW1.out) id)).trans (blk_cell HW1.out 0)
        by_cases hhl : h < k - 1
        · have hhI : (h : Int) < (k : Int) - 1 := by omega
          go_wp2_with fail
          refine (at_calls wr w.heap.size k j h hk5 hk2 hjl hhl ck).mono ?_
          rintro e w5 ⟨rfl, hw5⟩
          rw [hw5]
          clear hw5 w5
          dsimp only
          have HR5 := Lib.hid (HRh.out.1.frm (frm_alloc wr (.cells #[.int .i64 (atF k j h)] 3)) fun _ _ => id)
          go_wp2_with (first | (at_builtin; refine wpList_append_row rfl _ _ 26 rfl 3 i0 (.int .i64 0) 8 Try.underlying26 hi hz0 hz1 hz2 rfl (enc := iI) u7 (rowF k j h) rfl HR5.out ⟨wr.heap.size, 0, none⟩ 1 (atF k j h) rfl ?c1 rfl ?c2 ?c3 ?_) | fail)
          case c1 => exact blk_cell (blk_new _) 0
          case c2 => simp [rowF]; have : maxLen = 9223372036854775807 := rfl; omega
          case c3 => simp [rowF]; omega
          intro g6 cap6 w6 hr6 hf6 hg6 hl6
          obtain ⟨ho6, hro6⟩ := (HRh.out.frm0 (frm_alloc wr (.cells #[.int .i64 (atF k j h)] 3))).append (HOh.out.frm0 (frm_alloc wr _)) hf6 hr6 fun g e => by
            cases e
            rcases hg6 with e | e
            · exact .inl e
            · exact .inr (by rw [e]; simp)
          rw [← rowF_succ] at hro6
          have HO6 := Lib.hid ho6
          have HR6 := Lib.hid hro6
          clear hr6 hf6 hg6 hl6 ho6 hro6 HR5 HOh HRh ck
          go_wp2_with fail
          have HG9 : Hid (addsF 100 sh (remQ k j h 0 ++ (remH k j (h + 1) ++ ([rowF k j (k - 1)] ++ remP k (j + 1)))) = some s) := Lib.hid (by
            have e := HGh.out
            rw [remH_step hhl, List.append_assoc] at e
            exact e)
          clear HGh
          go_loopw [9] (fun v9 w' => ∃ q : Nat, v9 = .int .i64 q ∧ q ≤ j ∧ ∃ sq Rq, Hid (addsF 100 sq (remQ k j h q ++ (remH k j (h + 1) ++ ([rowF k j (k - 1)] ++ remP k (j + 1)))) = some s) ∧ Hid (Own w1 Rq w' p sq) ∧ Hid (RowO w1 Rq w' (.slice (some ⟨g6, 0, none⟩) ((rowF k j h).length + 1) cap6) (rowF k j (h + 1)))) (fun v9 _ => j - (intOf v9).toNat)
          case atStart => exact ⟨0, rfl, by omega, sh, Rh, HG9, HO6, HR6⟩
          case round =>
            obtain ⟨q, rfl, hq, sq, Rq, HGq, HOq, HRq⟩ := hrel
            clear HG9 HO6 HR6
            have ck : wr.cell? ⟨w.heap.size, 0, none⟩ = some (.int .i64 (k : Int)) := (World.cell?_of_block (HOq.out.frm.block _ (lt_of_block HW1.out) id)).trans (blk_cell HW1.out 0)
            by_cases hql : q < j
            · have hqI : (q : Int) < (j : Int) := by omega
              have hqk : q < k := by omega
              obtain ⟨s7, had, hre⟩ := adds_cons (show addsF 100 sq (_ :: _) = some s by
                have e := HGq.out
                rw [remQ_step hql] at e
                exact e)
              have HAD := Lib.hid had
              have HRE := Lib.hid hre
              have n1 := atF_neg hk5 hjl hhl
              have n2 := atF_neg hk5 hqk hhl
              clear had hre HGq
              go_wp2_with fail
              refine (at_calls wr w.heap.size k j h hk5 hk2 hjl hhl ck).mono ?_
              rintro e w5 ⟨rfl, hw5⟩
              rw [hw5]
              clear hw5 w5
              dsimp only
              go_wp2_with fail
              refine (at_calls wr w.heap.size k q h hk5 hk2 hqk hhl ck).mono ?_
              rintro e w5 ⟨rfl, hw5⟩
              rw [hw5]
              clear hw5 w5
              dsimp only
              have hf7 := frm_alloc wr (.cells #[.int .i64 (-atF k j h), .int .i64 (-atF k q h)] 3)
              have HO7 := Lib.hid (HOq.out.frm0 hf7)
              have HR7 := Lib.hid (HRq.out.frm0 hf7)
              have HAC := Lib.hid (add_calls HO7.out.sol (.slice (some ⟨wr.heap.size, 0, none⟩) 2 2) [-atF k j h, -atF k q h] (sees_two (blk_new _)) (outOf_new (HOq.out.fresh (Nat.le_refl _))) (by simp) (by unfold checkF; simp [(atF_right hk5 hjl hhl).2, (atF_right hk5 hqk hhl).2]) 100 HAD.out)
              clear hf7 HOq HRq
              go_wp2_with fail
              refine HAC.out.mono ?_
              rintro e w8 ⟨rfl, R8, hS, hM⟩
              have HO8 := Lib.hid (HO7.out.step hS hM)
              have HR8 := Lib.hid (HR7.out.step hM)
              clear hS hM HO7 HR7 HAC n1 n2 ck
              dsimp only
              go_wp2
              go_roundw
              case rel => exact ⟨q + 1, rfl, hql, s7, R8, HRE, HO8, HR8⟩
              case measure => simp only [intOf]; omega
            · have hqI : ¬ (q : Int) < (j : Int) := by omega
              obtain rfl : q = j := by omega
              have HG10 : Hid (addsF 100 sq (remH k q (h + 1) ++ ([rowF k q (k - 1)] ++ remP k (q + 1))) = some s) := Lib.hid (by
                have e := HGq.out
                rw [remQ_done] at e
                exact e)
              clear HGq ck
              go_wp2
              go_roundw
              case rel => exact ⟨h + 1, rfl, hhl, sq, Rq, HG10, HOq, HRq⟩
              case measure => simp only [intOf]; omega
        · have hhI : ¬ (h : Int) < (k : Int) - 1 := by omega
          obtain rfl : h = k - 1 := by omega
          obtain ⟨s7, had, hre⟩ := adds_cons (show addsF 100 sh (_ :: _) = some s by
            have e := HGh.out
            rw [remH_done (Nat.le_refl _)] at e
            exact e)
          have HAD := Lib.hid had
          have HRE := Lib.hid hre
          have HAC := Lib.hid (add_calls HOh.out.sol u7 (rowF k j (k - 1)) HRh.out.1.sees HRh.out.out (by simp [rowF]; omega) (rowF_right hk5 hjl (Nat.le_refl _)) 100 HAD.out)
          clear had hre HGh
          go_wp2_with fail
          refine HAC.out.mono ?_
          rintro e w8 ⟨rfl, R8, hS, hM⟩
          have HO8 := Lib.hid (HOh.out.step hS hM)
          clear hS hM HOh HRh HAC ck
          dsimp only
          go_wp2
          go_roundw
          case rel => exact ⟨j + 1, rfl, hjl, s7, R8, HRE, HO8⟩
          case measure => simp only [intOf]; omega
    · have hjI : ¬ (j : Int) < (k : Int) := by omega
      have e := HG.out
      rw [remP_done (by omega)] at e
      cases e
      clear HG
      have HSV := Lib.hid (solve_calls HOj.out.sol (.slice none 0 0) [] (sees_nil _ _) outOf_nil (by decide) rfl 100 0 _ _ HS2.out)
      go_wp2_with fail
      refine HSV.out.mono ?_
      rintro e w6 ⟨vm1, vc1, R6, rfl, rm, rc, ho, hS, hM⟩
      obtain ⟨h1, h2⟩ := HOj.out.ans hS hM rm rc fun g hg => (ho g hg).1
      have HO6 := Lib.hid h1
      have HA6 := Lib.hid h2
      obtain ⟨MA, mc, rfl, _⟩ := sees_slice rm.sees
      obtain ⟨CA, cc, rfl, _⟩ := sees_slice rc.sees
      have HL := Lib.hid (learnt_calls h1.sol)
      have hge : (0 : Int) ≤ (s'.learnt.length : Nat) := by omega
      clear rm rc ho hS hM h1 h2 HOj HSV ck
      dsimp only
      go_wp2_with fail
      refine HL.out.mono ?_
      rintro e w7 ⟨rfl, hf⟩
      have HF := Lib.hid ((HF1.out.trans HO6.out.frm fun _ _ e => e.elim).trans hf fun _ _ e => e.elim)
      clear hf HO6 HA6 HL
      dsimp only
      go_wp2
      go_ret
      exact ⟨rfl, HF.out⟩
end SaW
end Go.Proofs.Ytfpjfogddepbkaa
